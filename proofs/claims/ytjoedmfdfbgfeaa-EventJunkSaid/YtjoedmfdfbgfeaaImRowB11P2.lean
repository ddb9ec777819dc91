/- What the code of a law comes to, and what that tells: part 2. Lemmas alone; no conditions. -/
import Derived.Test.YtjoedmfdfbgfeaaImRowB11P1
import Derived.Test.YtjoedmfdfbgfeaaImM4
/- Vectors: what the printed functions tell. -/
set_option linter.unusedVariables false
set_option linter.unusedSimpArgs false
set_option linter.constructorNameAsVariable false
namespace Go.IM.V
open Go Go.IM Go.Proofs

/-- The numbers of a vector: none below nought. -/
def Vok (v : List Int) : Prop := ∀ x ∈ v, 0 ≤ x ∧ x < 18446744073709551616
abbrev gv (v : List Int) (k : Nat) : Int := v.getD k 0
theorem Vok.gv {v : List Int} (h : Vok v) (k : Nat) : 0 ≤ gv v k ∧ gv v k < 18446744073709551616 := by
  unfold V.gv
  rw [List.getD_eq_getElem?_getD]
  rcases Nat.lt_or_ge k v.length with hk | hk
  · rw [List.getElem?_eq_getElem hk]; exact h _ (List.getElem_mem hk)
  · rw [List.getElem?_eq_none hk]; simp
theorem gv_ge {v : List Int} {k : Nat} (h : v.length ≤ k) : gv v k = 0 := by
  unfold gv; rw [List.getD_eq_getElem?_getD, List.getElem?_eq_none h]; rfl

theorem F18_nat (v : List Int) (k : Nat) : F18 v (k : Int) = some (r1 (gv v k)) := by
  unfold F18
  simp only [cif]
  rw [if_neg (by omega)]
  by_cases h : v.length ≤ k
  · rw [if_pos (by omega), gv_ge h]
  · rw [if_neg (by omega), if_pos (by omega), Int.toNat_natCast]
theorem F14_nat (v : List Int) (k : Nat) : F14 v (k : Int) = some (r1 (gv v k)) := F18_nat v k

/-- Has b all that a has, from k on? -/
def within (a b : List Int) : Bool := (List.range a.length).all fun k => decide (gv a k ≤ gv b k)
theorem within_iff (a b : List Int) : within a b = true ↔ ∀ k, k < a.length → gv a k ≤ gv b k := by simp [within]

theorem L19_run (a b : List Int) (hn : a.length < 2 ^ 62) : ∀ (d k : Nat), k + d = a.length → (∀ i, i < k → gv a i ≤ gv b i) → L19_2 b a (a.length : Nat) (k : Nat) = some (if within a b then .inr ((), (), ()) else .inl (r1 false)) := by
  intro d
  induction d with
  | zero =>
    intro k hk hle
    have hw : within a b = true := (within_iff a b).2 fun i hi => hle i (by omega)
    rw [L19_2_eq]
    simp only [T19_2, cif]
    rw [if_neg (by omega), hw]
    rfl
  | succ d ih =>
    intro k hk hle
    have hlt : k < a.length := by omega
    rw [L19_2_eq]
    simp only [T19_2, cif]
    rw [if_pos (by omega), if_pos (by omega), F18_nat]
    simp only [Option.bind_some, Int.toNat_natCast]
    by_cases h : gv a k ≤ gv b k
    · rw [if_neg (by show ¬ (gv a k > gv b k); omega)]
      simp only [Option.bind_some, Sum.elim_inl]
      have hw : IntKind.wrap .i64 ((k : Int) + 1) = ((k + 1 : Nat) : Int) := by rw [w64 (by omega) (by omega)]; omega
      rw [hw]
      exact ih (k + 1) (by omega) (fun i hi => by
        rcases Nat.lt_or_ge i k with q | q
        · exact hle i q
        · obtain rfl : i = k := by omega
          exact h)
    · rw [if_pos (by show gv a k > gv b k; omega)]
      have hw : within a b = false := by
        cases hq : within a b with
        | false => rfl
        | true => exact absurd ((within_iff a b).1 hq k hlt) h
      rw [hw]
      rfl
theorem F19_eq (a b : List Int) (hn : a.length < 2 ^ 62) : F19 a b = some (r1 (within a b)) := by
  unfold F19
  have := L19_run a b hn a.length 0 (by omega) (fun i hi => by omega)
  rw [show ((0 : Nat) : Int) = 0 from rfl] at this
  rw [this]
  cases within a b <;> rfl
theorem L20_run (a b : List Int) (hn : a.length < 2 ^ 62) : ∀ (d k : Nat), k + d = a.length → (∀ i, i < k → gv a i ≤ gv b i) → L20_2 a b (k : Nat) = some (if within a b then .inr ((), (), ()) else .inl (r1 false)) := by
  intro d
  induction d with
  | zero =>
    intro k hk hle
    have hw : within a b = true := (within_iff a b).2 fun i hi => hle i (by omega)
    rw [L20_2_eq]
    simp only [T20_2, cif]
    rw [if_neg (by omega), hw]
    rfl
  | succ d ih =>
    intro k hk hle
    have hlt : k < a.length := by omega
    rw [L20_2_eq]
    simp only [T20_2, cif]
    rw [if_pos (by omega), if_pos (by omega), F14_nat]
    simp only [Option.bind_some, Int.toNat_natCast]
    by_cases h : gv a k ≤ gv b k
    · rw [if_neg (by show ¬ (gv a k > gv b k); omega)]
      simp only [Option.bind_some, Sum.elim_inl]
      have hw : IntKind.wrap .i64 ((k : Int) + 1) = ((k + 1 : Nat) : Int) := by rw [w64 (by omega) (by omega)]; omega
      rw [hw]
      exact ih (k + 1) (by omega) (fun i hi => by
        rcases Nat.lt_or_ge i k with q | q
        · exact hle i q
        · obtain rfl : i = k := by omega
          exact h)
    · rw [if_pos (by show gv a k > gv b k; omega)]
      have hw : within a b = false := by
        cases hq : within a b with
        | false => rfl
        | true => exact absurd ((within_iff a b).1 hq k hlt) h
      rw [hw]
      rfl
theorem F20_eq (a b : List Int) (hn : a.length < 2 ^ 62) : F20 a b = some (r1 (within a b)) := by
  unfold F20
  have := L20_run a b hn a.length 0 (by omega) (fun i hi => by omega)
  rw [show ((0 : Nat) : Int) = 0 from rfl] at this
  rw [this]
  cases within a b <;> rfl
theorem F21_eq (a b : List Int) (ha : a.length < 2 ^ 62) (hb : b.length < 2 ^ 62) : F21 a b = some (r1 (within a b && within b a)) := by
  unfold F21
  rw [F19_eq a b ha]
  simp only [Option.bind_some]
  cases within a b
  · rfl
  · rw [F19_eq b a hb]; rfl
theorem F22_eq (a b : List Int) (ha : a.length < 2 ^ 62) (hb : b.length < 2 ^ 62) : F22 a b = some (r1 (!within a b && !within b a)) := by
  unfold F22
  rw [F19_eq a b ha]
  simp only [Option.bind_some]
  cases within a b
  · rw [F19_eq b a hb]; rfl
  · rfl

/-! ### Trim -/
theorem F70_eq (a : List Int) (h : a.length < 2 ^ 39) : F70 a = some (r1 a) := by
  unfold F70
  refine nilBr_of ?_ (fun h0 => ?_)
  · rw [cif, if_pos (by unfold lim; simp; omega)]; rfl
  · rw [List.eq_nil_of_length_eq_zero h0]
def trimN (a : List Int) : Nat → Nat
  | 0 => 0
  | n + 1 => if gv a n = 0 then trimN a n else n + 1
theorem trimN_le (a : List Int) : ∀ n, trimN a n ≤ n := by
  intro n
  induction n with
  | zero => exact Nat.le_refl _
  | succ n ih => simp only [trimN]; split <;> omega
theorem trimN_nz (a : List Int) : ∀ n, trimN a n = 0 ∨ gv a (trimN a n - 1) ≠ 0 := by
  intro n
  induction n with
  | zero => exact .inl rfl
  | succ n ih =>
    simp only [trimN]
    split
    · exact ih
    · rename_i h; exact .inr (by simpa using h)
theorem trimN_z (a : List Int) : ∀ n k, trimN a n ≤ k → k < n → gv a k = 0 := by
  intro n
  induction n with
  | zero => intro k _ h; omega
  | succ n ih =>
    intro k h1 h2
    simp only [trimN] at h1
    split at h1
    · rename_i h
      rcases Nat.lt_or_ge k n with q | q
      · exact ih k h1 q
      · obtain rfl : k = n := by omega
        exact h
    · omega
def trim (a : List Int) : List Int := a.take (trimN a a.length)
theorem L55_run (a : List Int) (hn : a.length < 2 ^ 39) : ∀ k, k ≤ a.length → L55_2 a (k : Nat) = some (r1 ((trimN a k : Nat) : Int)) := by
  intro k
  induction k with
  | zero =>
    intro _
    rw [L55_2_eq]
    simp only [T55_2, cif]
    rw [if_neg (by omega)]
    rfl
  | succ k ih =>
    intro hk
    rw [L55_2_eq]
    have hw : IntKind.wrap .i64 (((k + 1 : Nat) : Int) - 1) = (k : Int) := by rw [w64 (by omega) (by omega)]; omega
    simp only [T55_2, cif]
    rw [hw, if_pos (by omega), if_pos (by omega)]
    simp only [Int.toNat_natCast]
    by_cases h : gv a k = 0
    · have hb : (a.getD k 0 == 0) = true := by simpa using h
      rw [hb]
      simp only [cond_true, Option.bind_some, Sum.elim_inl]
      rw [ih (by omega)]
      simp only [trimN]
      rw [if_pos h]
    · have hb : (a.getD k 0 == 0) = false := by simpa using h
      rw [hb]
      simp only [cond_false, Option.bind_some, Sum.elim_inr, trimN]
      rw [if_neg h]
theorem F55_eq (a : List Int) (hn : a.length < 2 ^ 39) : F55 a = some (r1 (trim a)) := by
  unfold F55
  rw [L55_run a hn a.length (Nat.le_refl _)]
  have := trimN_le a a.length
  simp only [Option.bind_some, cif]
  rw [if_pos (by omega), Int.toNat_natCast, F70_eq _ (by rw [List.length_take]; omega)]
  rfl
theorem gv_trim (a : List Int) (k : Nat) : gv (trim a) k = gv a k := by
  unfold trim
  rcases Nat.lt_or_ge k (trimN a a.length) with h | h
  · unfold gv; rw [List.getD_eq_getElem?_getD, List.getD_eq_getElem?_getD, List.getElem?_take, if_pos h]
  · rw [gv_ge (by rw [List.length_take]; omega)]
    rcases Nat.lt_or_ge k a.length with h2 | h2
    · exact (trimN_z a a.length k h h2).symm
    · exact (gv_ge h2).symm
theorem trim_len (a : List Int) : (trim a).length = trimN a a.length := by
  unfold trim; rw [List.length_take]; have := trimN_le a a.length; omega

/-! ### Join, Meet -/
def pairL (f : Int → Int → Int) (a b : List Int) (n : Nat) : List Int := (List.range n).map fun k => f (gv a k) (gv b k)
theorem pairL_succ (f : Int → Int → Int) (a b : List Int) (n : Nat) : pairL f a b (n + 1) = pairL f a b n ++ [f (gv a n) (gv b n)] := by
  unfold pairL; rw [List.range_succ, List.map_append]; rfl
def mxI (x y : Int) : Int := if y > x then y else x
def mnI (x y : Int) : Int := if y < x then y else x
theorem L43j_run (a b : List Int) (n : Nat) (hn : n < 2 ^ 38) : ∀ (d k : Nat), k + d = n → L43j_3 a b (n : Nat) (k : Nat) (pairL mxI a b k) = some (((), ()), (), (pairL mxI a b n, ())) := by
  intro d
  induction d with
  | zero =>
    intro k hk
    obtain rfl : k = n := by omega
    rw [L43j_3_eq]
    simp only [T43j_3, cif]
    rw [if_neg (by omega)]
    rfl
  | succ d ih =>
    intro k hk
    rw [L43j_3_eq]
    have hw : IntKind.wrap .i64 ((k : Int) + 1) = ((k + 1 : Nat) : Int) := by rw [w64 (by omega) (by omega)]; omega
    simp only [T43j_3, cif]
    rw [if_pos (by omega), F18_nat, F18_nat, hw]
    simp only [Option.bind_some, F44]
    rw [if_pos (by unfold lim pairL; simp; omega)]
    simp only [Option.bind_some, Sum.elim_inl]
    have := ih (k + 1) (by omega)
    rw [pairL_succ] at this
    exact this
theorem L43m_run (a b : List Int) (n : Nat) (hn : n < 2 ^ 38) : ∀ (d k : Nat), k + d = n → L43m_3 a b (n : Nat) (k : Nat) (pairL mnI a b k) = some (((), ()), (), (pairL mnI a b n, ())) := by
  intro d
  induction d with
  | zero =>
    intro k hk
    obtain rfl : k = n := by omega
    rw [L43m_3_eq]
    simp only [T43m_3, cif]
    rw [if_neg (by omega)]
    rfl
  | succ d ih =>
    intro k hk
    rw [L43m_3_eq]
    have hw : IntKind.wrap .i64 ((k : Int) + 1) = ((k + 1 : Nat) : Int) := by rw [w64 (by omega) (by omega)]; omega
    simp only [T43m_3, cif]
    rw [if_pos (by omega), F18_nat, F18_nat, hw]
    simp only [Option.bind_some, F45]
    rw [if_pos (by unfold lim pairL; simp; omega)]
    simp only [Option.bind_some, Sum.elim_inl]
    have := ih (k + 1) (by omega)
    rw [pairL_succ] at this
    exact this
theorem ifmax (a b : Nat) : (if ((b : Int)) > (a : Int) then (b : Int) else (a : Int)) = ((max a b : Nat) : Int) := by split <;> omega
def join (a b : List Int) : List Int := trim (pairL mxI a b (max a.length b.length))
def meet (a b : List Int) : List Int := trim (pairL mnI a b (max a.length b.length))
theorem pairL_len (f : Int → Int → Int) (a b : List Int) (n : Nat) : (pairL f a b n).length = n := by simp [pairL]
theorem F16_eq (a b : List Int) (ha : a.length < 2 ^ 38) (hb : b.length < 2 ^ 38) : F16 a b = some (r1 (join a b)) := by
  unfold F16 F43j
  rw [ifmax]
  have := L43j_run a b (max a.length b.length) (by omega) (max a.length b.length) 0 (by omega)
  rw [show ((0 : Nat) : Int) = 0 from rfl] at this
  rw [show pairL mxI a b 0 = ([] : List Int) from rfl] at this
  rw [this]
  simp only [Option.bind_some]
  rw [F55_eq _ (by rw [pairL_len]; omega)]
  rfl
theorem F17_eq (a b : List Int) (ha : a.length < 2 ^ 38) (hb : b.length < 2 ^ 38) : F17 a b = some (r1 (meet a b)) := by
  unfold F17 F43m
  rw [ifmax]
  have := L43m_run a b (max a.length b.length) (by omega) (max a.length b.length) 0 (by omega)
  rw [show ((0 : Nat) : Int) = 0 from rfl] at this
  rw [show pairL mnI a b 0 = ([] : List Int) from rfl] at this
  rw [this]
  simp only [Option.bind_some]
  rw [F55_eq _ (by rw [pairL_len]; omega)]
  rfl
theorem gv_pairL (f : Int → Int → Int) (h0 : f 0 0 = 0) (a b : List Int) (k : Nat) : gv (pairL f a b (max a.length b.length)) k = f (gv a k) (gv b k) := by
  rcases Nat.lt_or_ge k (max a.length b.length) with h | h
  · unfold gv pairL
    rw [List.getD_eq_getElem?_getD, List.getElem?_map, List.getElem?_range h]; rfl
  · rw [gv_ge (by rw [pairL_len]; exact h), gv_ge (v := a) (by omega), gv_ge (v := b) (by omega), h0]
theorem gv_join (a b : List Int) (k : Nat) : gv (join a b) k = mxI (gv a k) (gv b k) := by unfold join; rw [gv_trim, gv_pairL _ rfl]
theorem gv_meet (a b : List Int) (k : Nat) : gv (meet a b) k = mnI (gv a k) (gv b k) := by unfold meet; rw [gv_trim, gv_pairL _ rfl]
theorem trim_last (a : List Int) : (trim a).length = 0 ∨ gv (trim a) ((trim a).length - 1) ≠ 0 := by
  rw [gv_trim, trim_len]
  exact trimN_nz a a.length
theorem join_len (a b : List Int) : (join a b).length ≤ max a.length b.length := by unfold join; rw [trim_len]; have := trimN_le (pairL mxI a b (max a.length b.length)) (pairL mxI a b (max a.length b.length)).length; rw [pairL_len] at this ⊢; exact this
theorem meet_len (a b : List Int) : (meet a b).length ≤ max a.length b.length := by unfold meet; rw [trim_len]; have := trimN_le (pairL mnI a b (max a.length b.length)) (pairL mnI a b (max a.length b.length)).length; rw [pairL_len] at this ⊢; exact this
end Go.IM.V

/- Vectors: the laws VectorLacks, VectorJoins, VectorOrders. -/
set_option linter.unusedVariables false
set_option linter.unusedSimpArgs false
set_option linter.constructorNameAsVariable false
namespace Go.IM.V
open Go Go.IM Go.Proofs

/-- How much a has that b hasn't, from k on: none, if that is too much. -/
def lk (a b : List Int) : Nat → Nat → Int → Option Int
  | 0, _, s => some s
  | d + 1, k, s => let e := if gv b k < gv a k then gv a k - gv b k else 0
    if s + e < 18446744073709551616 then lk a b d (k + 1) (s + e) else none

theorem L15_run (a b : List Int) (ha : Vok a) (hb : Vok b) (hn : a.length < 2 ^ 62) : ∀ (d k : Nat) (s : Int), k + d = a.length → 0 ≤ s → s < 18446744073709551616 →
    L15_3 b s a (a.length : Nat) (k : Nat) = some (match lk a b d k s with | some x => .inr (r1 x) | none => .inl (r1 18446744073709551615)) := by
  intro d
  induction d with
  | zero =>
    intro k s hk h0 h1
    rw [L15_3_eq]
    simp only [T15_3, cif]
    rw [if_neg (by omega)]
    rfl
  | succ d ih =>
    intro k s hk h0 h1
    have hlt : k < a.length := by omega
    obtain ⟨a0, a1⟩ := ha.gv k
    obtain ⟨b0, b1⟩ := hb.gv k
    rw [L15_3_eq]
    have hw : IntKind.wrap .i64 ((k : Int) + 1) = ((k + 1 : Nat) : Int) := by rw [w64 (by omega) (by omega)]; omega
    simp only [T15_3, cif]
    rw [if_pos (by omega), if_pos (by omega), F18_nat, hw]
    simp only [Option.bind_some, Int.toNat_natCast]
    have he : IntKind.wrap .u64 (a.getD k 0 - if gv b k < a.getD k 0 then gv b k else a.getD k 0) = (if gv b k < gv a k then gv a k - gv b k else 0) := by
      show IntKind.wrap .u64 (gv a k - if gv b k < gv a k then gv b k else gv a k) = _
      split
      · rw [wu64 (by omega) (by omega)]
      · rw [wu64 (by omega) (by omega)]; omega
    rw [he]
    have hr : 0 ≤ (if gv b k < gv a k then gv a k - gv b k else 0) ∧ (if gv b k < gv a k then gv a k - gv b k else 0) < 18446744073709551616 := by split <;> omega
    simp only [lk]
    generalize (if gv b k < gv a k then gv a k - gv b k else 0) = e at hr ⊢
    by_cases hov : s + e < 18446744073709551616
    · rw [wu64 (by omega) hov, if_neg (by omega), if_pos hov]
      simp only [Option.bind_some, Sum.elim_inl]
      exact ih (k + 1) (s + e) (by omega) (by omega) hov
    · rw [wu64_mod, if_pos (by omega), if_neg hov]
      rfl
def lack (a b : List Int) : Int := match lk a b a.length 0 0 with | some x => x | none => 18446744073709551615
theorem F15_eq (a b : List Int) (ha : Vok a) (hb : Vok b) (hn : a.length < 2 ^ 62) : F15 a b = some (r1 (lack a b)) := by
  unfold F15 lack
  have := L15_run a b ha hb hn a.length 0 0 (by omega) (by omega) (by omega)
  rw [show ((0 : Nat) : Int) = 0 from rfl] at this
  rw [this]
  cases lk a b a.length 0 0 <;> rfl

theorem L3_run (a b : List Int) (ha : Vok a) (hb : Vok b) (hn : a.length < 2 ^ 62) : ∀ (d k : Nat) (s : Int) (f : Bool), k + d = a.length → 0 ≤ s → s < 18446744073709551616 →
    ∃ s' f', L3_6 a b s f (k : Nat) = some ((s', f', ()), (), ()) ∧ (f = true → f' = true) ∧ (f = false → match lk a b d k s with | some x => s' = x ∧ f' = false | none => f' = true) := by
  intro d
  induction d with
  | zero =>
    intro k s f hk h0 h1
    refine ⟨s, f, ?_, id, fun h => ⟨rfl, h⟩⟩
    rw [L3_6_eq]
    simp only [T3_6, cif]
    rw [if_neg (by omega)]
    rfl
  | succ d ih =>
    intro k s f hk h0 h1
    have hlt : k < a.length := by omega
    obtain ⟨a0, a1⟩ := ha.gv k
    obtain ⟨b0, b1⟩ := hb.gv k
    have hw : IntKind.wrap .i64 ((k : Int) + 1) = ((k + 1 : Nat) : Int) := by rw [w64 (by omega) (by omega)]; omega
    have hgd : a.getD k 0 = gv a k := rfl
    rw [L3_6_eq]
    simp only [T3_6, cif]
    rw [if_pos (by omega), F14_nat, hw]
    simp only [Option.bind_some, Int.toNat_natCast, hgd]
    rw [if_pos (by omega)]
    simp only [lk]
    by_cases hg : gv b k < gv a k
    · rw [if_pos hg, if_pos hg, if_pos (by omega), wu64 (n := gv a k - gv b k) (by omega) (by omega)]
      have hs : 0 ≤ IntKind.wrap .u64 (s + (gv a k - gv b k)) ∧ IntKind.wrap .u64 (s + (gv a k - gv b k)) < 18446744073709551616 := by rw [wu64_mod]; omega
      cases f with
      | true =>
        obtain ⟨s', f', h2, h3, _⟩ := ih (k + 1) _ true (by omega) hs.1 hs.2
        refine ⟨s', f', ?_, h3, fun h => by cases h⟩
        simp only [cond_true, Option.bind_some, Sum.elim_inl]
        exact h2
      | false =>
        simp only [cond_false]
        rw [if_pos (by omega)]
        simp only [Option.bind_some, Sum.elim_inl]
        by_cases hov : s + (gv a k - gv b k) < 18446744073709551616
        · rw [wu64 (by omega) hov, decide_eq_false (by omega), if_pos hov]
          obtain ⟨s', f', h2, _, h4⟩ := ih (k + 1) (s + (gv a k - gv b k)) false (by omega) (by omega) hov
          exact ⟨s', f', h2, (fun h => by cases h), fun _ => h4 rfl⟩
        · rw [decide_eq_true (by rw [wu64_mod]; omega), if_neg hov]
          obtain ⟨s', f', h2, h3, _⟩ := ih (k + 1) _ true (by omega) hs.1 hs.2
          exact ⟨s', f', h2, (fun h => by cases h), fun _ => h3 rfl⟩
    · rw [if_neg hg, if_neg hg, Int.add_zero, if_pos h1]
      simp only [Option.bind_some, Sum.elim_inl]
      exact ih (k + 1) s f (by omega) h0 h1

theorem Vok_ok {v : List Int} (h : okE (.l (.i .u64)) v) : Vok v := fun x hx => ok_u64 (h.2 x hx)
theorem vok2 : Vok [1, 2] ∧ Vok [3] ∧ Vok [3, 2] ∧ Vok [1] := by
  refine ⟨?_, ?_, ?_, ?_⟩ <;> (intro x hx; simp at hx; omega)
theorem F13_eq : F13 = some (r1 true) := by
  unfold F13
  rw [F16_eq _ _ (by decide) (by decide)]
  have hj : join [1, 2] [3] = [3, 2] := by decide
  simp only [Option.bind_some, hj]
  rw [F21_eq _ _ (by decide) (by decide)]
  have hw : (within [3, 2] [3, 2] && within [3, 2] [3, 2]) = true := by decide
  simp only [Option.bind_some, hw, cond_true]
  rw [F15_eq _ _ vok2.2.2.1 vok2.2.2.2 (by decide)]
  have hl : lack [3, 2] [1] = 4 := by decide
  simp only [Option.bind_some, hl]
  rfl

theorem lacks_pure (a b : List Int) (ha : okE (.l (.i .u64)) a) (hb : okE (.l (.i .u64)) b) : F3 a b = some (r1 true) := by
  unfold F3
  rw [F13_eq]
  simp only [Option.bind_some, Bool.not_true, cond_false, cif]
  split
  · rfl
  · split
    · rfl
    · obtain ⟨s', f', h1, _, h3⟩ := L3_run a b (Vok_ok ha) (Vok_ok hb) (by omega) a.length 0 0 false (by omega) (by omega) (by omega)
      rw [show ((0 : Nat) : Int) = 0 from rfl] at h1
      rw [h1, F15_eq a b (Vok_ok ha) (Vok_ok hb) (by omega)]
      simp only [Option.bind_some]
      have h3 := h3 rfl
      unfold lack
      cases hl : lk a b a.length 0 0 with
      | none => rw [hl] at h3; dsimp only at h3; subst h3; rfl
      | some x =>
        rw [hl] at h3
        obtain ⟨rfl, rfl⟩ := h3
        simp

theorem mxmn (x y : Int) : mnI x y = (if x > y then y else x) ∧ mxI x y = (if x > y then x else y) := by
  unfold mnI mxI
  refine ⟨rfl, ?_⟩
  by_cases h : x > y
  · rw [if_neg (by omega), if_pos h]
  · rw [if_neg h]; split <;> omega
theorem L4_run (a b : List Int) : ∀ (d k : Nat), k + d = 66 → L4_6 a b (join a b) (meet a b) (k : Nat) = some (.inr ((), (), ())) := by
  intro d
  induction d with
  | zero =>
    intro k hk
    rw [L4_6_eq]
    simp only [T4_6, cif]
    rw [if_neg (by omega)]
    rfl
  | succ d ih =>
    intro k hk
    have hw : IntKind.wrap .i64 ((k : Int) + 1) = ((k + 1 : Nat) : Int) := by rw [w64 (by omega) (by omega)]; omega
    obtain ⟨h1, h2⟩ := mxmn (gv a k) (gv b k)
    rw [L4_6_eq]
    simp only [T4_6, cif]
    rw [if_pos (by omega), F14_nat, F14_nat, F18_nat, F18_nat, gv_join, gv_meet, hw, h1, h2]
    simp only [Option.bind_some]
    by_cases hg : gv a k > gv b k
    · simp only [if_pos hg, bne_self_eq_false, cond_false, Option.bind_some, Sum.elim_inl]
      exact ih (k + 1) (by omega)
    · simp only [if_neg hg, bne_self_eq_false, cond_false, Option.bind_some, Sum.elim_inl]
      exact ih (k + 1) (by omega)

theorem joins_pure (a b : List Int) : F4 a b = some (r1 true) := by
  unfold F4
  rw [F13_eq]
  simp only [Option.bind_some, Bool.not_true, cond_false, cif]
  split
  · rfl
  · split
    · rfl
    · rw [F16_eq a b (by omega) (by omega), F17_eq a b (by omega) (by omega)]
      simp only [Option.bind_some]
      have hl := L4_run a b 66 0 (by omega)
      rw [show ((0 : Nat) : Int) = 0 from rfl] at hl
      rw [hl]
      simp only [Option.bind_some, Sum.elim_inr]
      have key : ∀ v : List Int, v.length < 2 ^ 60 → v.length = 0 ∨ gv v (v.length - 1) ≠ 0 → ((((v.length : Nat) : Int) == 0) = true) ∨ ((((v.length : Nat) : Int) == 0) = false ∧ (0 ≤ IntKind.wrap .i64 (((v.length : Nat) : Int) - 1) ∧ IntKind.wrap .i64 (((v.length : Nat) : Int) - 1) < ((v.length : Nat) : Int)) ∧ (v.getD (IntKind.wrap .i64 (((v.length : Nat) : Int) - 1)).toNat 0 != 0) = true) := by
        intro v hv h
        rcases Nat.eq_zero_or_pos v.length with h0 | h0
        · exact .inl (by simp [h0])
        · refine .inr ⟨by simp; intro h1; rw [h1] at h0; simp at h0, ?_⟩
          rw [w64 (by omega) (by omega), show (((v.length : Nat) : Int) - 1).toNat = v.length - 1 by omega]
          refine ⟨by omega, ?_⟩
          rcases h with h | h
          · omega
          · simpa [gv] using h
      have j1 := join_len a b
      have m1 := meet_len a b
      rcases key (join a b) (by omega) (trim_last _) with j | ⟨j, j2, j3⟩ <;> rcases key (meet a b) (by omega) (trim_last _) with m | ⟨m, m2, m3⟩
      · simp only [j, m, cond_true]
      · simp only [j, m, cond_true, cond_false]
        rw [if_pos m2]
        simp only [m3]
      · simp only [j, m, cond_true, cond_false]
        rw [if_pos j2]
        simp only [j3, cond_true]
      · simp only [j, m, cond_false]
        rw [if_pos j2]
        simp only [j3, cond_true]
        rw [if_pos m2]
        simp only [m3]

theorem within_trans {a b c : List Int} (hb : Vok b) (hc : Vok c) (h : within a b = true) (k : within b c = true) : within a c = true := by
  rw [within_iff] at h k ⊢
  intro i hi
  have h1 := h i hi
  rcases Nat.lt_or_ge i b.length with q | q
  · exact Int.le_trans h1 (k i q)
  · rw [gv_ge q] at h1
    have := (hc.gv i).1
    omega
theorem within_join (a b : List Int) : within a (join a b) = true := by
  rw [within_iff]
  intro i _
  rw [gv_join]
  unfold mxI
  split <;> omega
theorem within_meet (a b : List Int) : within (meet a b) b = true := by
  rw [within_iff]
  intro i _
  rw [gv_meet]
  unfold mnI
  split <;> omega
theorem orders_pure (a b c : List Int) (hb : okE (.l (.i .u64)) b) (hc : okE (.l (.i .u64)) c) : F5 a b c = some (r1 true) := by
  unfold F5
  rw [F13_eq]
  simp only [Option.bind_some, Bool.not_true, cond_false, cif]
  split
  · rfl
  · split
    · rfl
    · split
      · rfl
      · have j1 := join_len a b
        have m1 := meet_len a b
        have ht := within_trans (a := a) (Vok_ok hb) (Vok_ok hc)
        rw [F19_eq a b (by omega), F19_eq b a (by omega), F20_eq a b (by omega), F21_eq a b (by omega) (by omega), F22_eq a b (by omega) (by omega), F16_eq a b (by omega) (by omega), F17_eq a b (by omega) (by omega), F19_eq b c (by omega), F19_eq a c (by omega)]
        simp only [Option.bind_some]
        rw [F19_eq a (join a b) (by omega), F19_eq (meet a b) b (by omega), within_join, within_meet]
        cases h1 : within a b <;> cases h2 : within b a <;> cases h3 : within b c <;> cases h4 : within a c <;> first | rfl | (have := ht h1 h3; rw [h4] at this; cases this)
end Go.IM.V

/- Vectors as bytes: the laws VectorReads, VectorBytes. -/
set_option linter.unusedVariables false
set_option linter.unusedSimpArgs false
set_option linter.constructorNameAsVariable false
namespace Go.IM.V
open Go Go.IM Go.Proofs

def dgs : List Int → List Int
  | [] => []
  | n :: l => dg n ++ dgs l
theorem dgs_len : ∀ l, (dgs l).length ≤ 10 * l.length
  | [] => by simp [dgs]
  | n :: l => by have := dgs_len l; have := dg_len n; simp only [dgs, List.length_append, List.length_cons]; omega
theorem dgs_byte : ∀ {l : List Int}, Vok l → Bys (dgs l)
  | [], _ => fun x hx => by cases hx
  | n :: l, h => (dg_byte (h n (List.mem_cons_self ..)).1 (h n (List.mem_cons_self ..)).2).app (dgs_byte fun x hx => h x (List.mem_cons_of_mem _ hx))
/-- A vector's bytes. -/
def encL (l : List Int) : List Int := dg l.length ++ dgs l
def encV (v : List Int) : List Int := encL (trim v)
theorem encL_len (l : List Int) : (encL l).length ≤ 10 + 10 * l.length := by
  unfold encL; have := dgs_len l; have := dg_len l.length; simp; omega
theorem trim_sub (a : List Int) : ∀ x ∈ trim a, x ∈ a := fun x hx => List.mem_of_mem_take hx
theorem trim_le (a : List Int) : (trim a).length ≤ a.length := by rw [trim_len]; exact trimN_le _ _

theorem L34_run (v : List Int) (hv : Vok v) (hl : v.length < 2 ^ 30) : ∀ (d k : Nat) (q : List Int), k + d = v.length → q.length + 10 * d + 10 < lim → L34_4 v (v.length : Nat) (k : Nat) q = some (((), ()), (), (q ++ dgs (v.drop k), ())) := by
  intro d
  induction d with
  | zero =>
    intro k q hk hq
    rw [L34_4_eq]
    simp only [T34_4, cif]
    rw [if_neg (by omega), List.drop_eq_nil_of_le (by omega)]
    simp [dgs]
  | succ d ih =>
    intro k q hk hq
    have hlt : k < v.length := by omega
    obtain ⟨a0, a1⟩ := hv _ (List.getElem_mem hlt)
    have hg : v.getD (k : Int).toNat 0 = v[k] := by rw [Int.toNat_natCast, List.getD_eq_getElem?_getD, List.getElem?_eq_getElem hlt]; rfl
    have hw : IntKind.wrap .i64 ((k : Int) + 1) = ((k + 1 : Nat) : Int) := by rw [w64 (by omega) (by omega)]; omega
    rw [L34_4_eq]
    simp only [T34_4, cif, hg, hw]
    rw [if_pos (by omega), if_pos (by omega), F56_eq _ _ a0 a1 (by omega)]
    simp only [Option.bind_some, Sum.elim_inl]
    have := dg_len v[k]
    rw [ih (k + 1) _ (by omega) (by simp; omega), List.drop_eq_getElem_cons hlt]
    simp [dgs]
theorem F34_eq (v q : List Int) (hv : Vok v) (hl : v.length < 2 ^ 30) (hq : q.length + 10 * v.length + 30 < lim) : F34 v q = some (ro (q ++ encV v)) := by
  unfold F34
  have h1 := trim_le v
  have h2 := dg_len (trim v).length
  rw [F55_eq v (by omega)]
  simp only [Option.bind_some]
  rw [wu64 (by omega) (by omega), F56_eq _ _ (by omega) (by omega) (by omega)]
  simp only [Option.bind_some]
  have := L34_run (trim v) (fun x hx => hv x (trim_sub v x hx)) (by omega) (trim v).length 0 (q ++ dg (trim v).length) (by omega) (by simp; omega)
  rw [show ((0 : Nat) : Int) = 0 from rfl] at this
  rw [this]
  simp [encV, encL]
theorem F35_eq (v : List Int) (hv : Vok v) (hl : v.length < 2 ^ 30) : F35 v = some (ro (encV v)) := by
  unfold F35
  rw [F34_eq v [] hv hl (by show 0 + 10 * v.length + 30 < 1099511627776; omega)]
  simp only [Option.bind_some, List.nil_append]
theorem L37a_run (p a : List Int) (hn : a.length < 2 ^ 39) : ∀ k, k ≤ a.length → L37_2 p a (k : Nat) = some (r1 ((trimN a k : Nat) : Int)) := by
  intro k
  induction k with
  | zero =>
    intro _
    rw [L37_2_eq]
    simp only [T37_2, cif]
    rw [if_neg (by omega)]
    rfl
  | succ k ih =>
    intro hk
    rw [L37_2_eq]
    have hw : IntKind.wrap .i64 (((k + 1 : Nat) : Int) - 1) = (k : Int) := by rw [w64 (by omega) (by omega)]; omega
    simp only [T37_2, cif]
    rw [hw, if_pos (by omega), if_pos (by omega)]
    simp only [Int.toNat_natCast]
    by_cases h : gv a k = 0
    · have hb : (a.getD k 0 == 0) = true := by simpa using h
      rw [hb]
      simp only [cond_true, Option.bind_some, Sum.elim_inl]
      rw [ih (by omega)]
      simp only [trimN]
      rw [if_pos h]
    · have hb : (a.getD k 0 == 0) = false := by simpa using h
      rw [hb]
      simp only [cond_false, Option.bind_some, Sum.elim_inr, trimN]
      rw [if_neg h]
theorem L37b_run (v : List Int) (n : Nat) (hn : n ≤ v.length) (hv : Vok v) (hl : v.length < 2 ^ 30) : ∀ (d k : Nat) (q : List Int), k + d = n → q.length + 10 * d + 10 < lim → L37_6 v (n : Nat) (k : Nat) q = some (((), ()), (), (q ++ dgs ((v.take n).drop k), ())) := by
  intro d
  induction d with
  | zero =>
    intro k q hk hq
    rw [L37_6_eq]
    simp only [T37_6, cif]
    rw [if_neg (by omega), List.drop_eq_nil_of_le (by simp; omega)]
    simp [dgs]
  | succ d ih =>
    intro k q hk hq
    have hlt : k < v.length := by omega
    obtain ⟨a0, a1⟩ := hv _ (List.getElem_mem hlt)
    have hg : v.getD (k : Int).toNat 0 = v[k] := by rw [Int.toNat_natCast, List.getD_eq_getElem?_getD, List.getElem?_eq_getElem hlt]; rfl
    have hw : IntKind.wrap .i64 ((k : Int) + 1) = ((k + 1 : Nat) : Int) := by rw [w64 (by omega) (by omega)]; omega
    rw [L37_6_eq]
    simp only [T37_6, cif, hg, hw]
    rw [if_pos (by omega), if_pos (by omega), F57_eq _ _ a0 a1 (by omega)]
    simp only [Option.bind_some, Sum.elim_inl]
    have := dg_len v[k]
    rw [ih (k + 1) _ (by omega) (by simp; omega), List.drop_eq_getElem_cons (l := v.take n) (i := k) (by simp; omega)]
    simp [dgs]
theorem F37_eq (v : List Int) (hv : Vok v) (hl : v.length < 2 ^ 30) : F37 [] v = some (ro (encV v)) := by
  unfold F37
  rw [L37a_run [] v (by omega) v.length (Nat.le_refl _)]
  have h1 := trimN_le v v.length
  have h2 := dg_len (trimN v v.length)
  simp only [Option.bind_some]
  rw [wu64 (by omega) (by omega), F57_eq _ _ (by omega) (by omega) (by show 0 + 10 < 1099511627776; omega)]
  simp only [Option.bind_some]
  have := L37b_run v (trimN v v.length) h1 hv hl (trimN v v.length) 0 ([] ++ dg (trimN v v.length)) (by omega) (by show _ < 1099511627776; simp; omega)
  rw [show ((0 : Nat) : Int) = 0 from rfl] at this
  rw [this]
  simp [encV, encL, trim_len]
  rfl

/-- Numbers that are small. -/
def Sml (v : List Int) : Prop := ∀ x ∈ v, 0 ≤ x ∧ x ≤ 9223372036854775807
theorem L32_run (v : List Int) (hv : Vok v) (hl : v.length ≤ maxLen) : ∀ (d k : Nat), k + d = v.length → (∀ i, i < k → gv v i ≤ 9223372036854775807) →
    (L32_2 v (k : Nat) = some (.inl (r1 false)) ∨ (L32_2 v (k : Nat) = some (.inr ((), (), ())) ∧ Sml v)) := by
  intro d
  induction d with
  | zero =>
    intro k hk hs
    right
    rw [L32_2_eq]
    simp only [T32_2, cif]
    rw [if_neg (by omega)]
    refine ⟨rfl, fun x hx => ?_⟩
    obtain ⟨i, hi, rfl⟩ := List.getElem_of_mem hx
    have := hs i (by omega)
    rw [gv, List.getD_eq_getElem?_getD, List.getElem?_eq_getElem hi] at this
    exact ⟨(hv _ hx).1, this⟩
  | succ d ih =>
    intro k hk hs
    have hlt : k < v.length := by omega
    have hml : maxLen = 9223372036854775807 := rfl
    have hw : IntKind.wrap .i64 ((k : Int) + 1) = ((k + 1 : Nat) : Int) := by rw [w64 (by omega) (by omega)]; omega
    rw [L32_2_eq]
    simp only [T32_2, cif, hw, Int.toNat_natCast]
    rw [if_pos (by omega), if_pos (by omega)]
    by_cases h : v.getD k 0 > 9223372036854775807
    · rw [if_pos h]; exact .inl rfl
    · rw [if_neg h]
      simp only [Option.bind_some, Sum.elim_inl]
      refine ih (k + 1) (by omega) fun i hi => ?_
      rcases Nat.lt_or_ge i k with q | q
      · exact hs i q
      · obtain rfl : i = k := by omega
        show v.getD i 0 ≤ _
        omega
theorem F32_eq (v : List Int) (h : okE (.l (.i .u64)) v) : F32 v = some (r1 false) ∨ (F32 v = some (r1 true) ∧ Sml v ∧ v.length ≤ 64) := by
  unfold F32
  have := L32_run v (Vok_ok h) h.1 v.length 0 (by omega) (fun i hi => by omega)
  rw [show ((0 : Nat) : Int) = 0 from rfl] at this
  rcases this with e | ⟨e, hs⟩
  · rw [e]; exact .inl rfl
  · rw [e]
    simp only [Option.bind_some, Sum.elim_inr]
    by_cases hl : ((v.length : Nat) : Int) ≤ 64
    · rw [decide_eq_true hl]; exact .inr ⟨rfl, hs, by omega⟩
    · rw [decide_eq_false hl]; exact .inl rfl

/-! ### Read -/
def rdN : Nat → List Int → (List Int × List Int) ⊕ (Int × List Int)
  | 0, xs => .inl ([], xs)
  | k + 1, xs => match tnum 9223372036854775807 xs with
    | .inr e => .inr (e, xs)
    | .inl (n, r) => match rdN k r with
      | .inl (l, r') => .inl (n :: l, r')
      | .inr e => .inr e
theorem tnum_byte {xs rest : List Int} {n most : Int} (hb : Bys xs) (h : tnum most xs = .inl (n, rest)) : Bys rest := by
  obtain ⟨h1, _⟩ := tnum_some hb h
  intro x hx
  exact hb x (by rw [h1]; exact List.mem_append.2 (.inr hx))
theorem L53_run : ∀ (d k n : Nat) (xs q : List Int), k + d = n → n ≤ 64 → Bys xs → q.length + d < 1000000 →
    L53_3 (n : Nat) (k : Nat) xs q = some (match rdN d xs with | .inl (l, r) => .inr (((), ()), ((r, ()), ()), (q ++ l, ())) | .inr (e, r) => .inl (tie e r)) := by
  intro d
  induction d with
  | zero =>
    intro k n xs q hk hn hb hq
    rw [L53_3_eq]
    simp only [T53_3, cif]
    rw [if_neg (by omega)]
    simp [rdN]
  | succ d ih =>
    intro k n xs q hk hn hb hq
    rw [L53_3_eq]
    simp only [T53_3, cif]
    rw [if_pos (by omega), F68_eq _ _ hb]
    unfold rdN
    cases h : tnum 9223372036854775807 xs with
    | inr e => rfl
    | inl p =>
      obtain ⟨m, r⟩ := p
      have hw : IntKind.wrap .u64 ((k : Int) + 1) = ((k + 1 : Nat) : Int) := by rw [wu64 (by omega) (by omega)]; omega
      simp only [Option.bind_some, Sum.elim_inl, hw]
      rw [if_pos (by show _ < 1099511627776; simp; omega)]
      simp only [Option.bind_some, Sum.elim_inl]
      rw [ih (k + 1) n r (q ++ [m]) (by omega) hn (tnum_byte hb h) (by simp; omega)]
      cases h2 : rdN d r with
      | inr e => rfl
      | inl p => obtain ⟨l, r'⟩ := p; simp
def rdV (xs : List Int) : (List Int × List Int) ⊕ (Int × List Int) :=
  match tnum 64 xs with
  | .inr e => .inr (e, xs)
  | .inl (n, r) => rdN n.toNat r
theorem F53_eq (xs : List Int) (hb : Bys xs) : F53 xs = some (match rdV xs with | .inl (l, r) => .inl (tin l r) | .inr (e, r) => .inr (tie e r)) := by
  unfold F53 rdV
  rw [F68_eq _ _ hb]
  cases h : tnum 64 xs with
  | inr e => rfl
  | inl p =>
    obtain ⟨n, r⟩ := p
    obtain ⟨h1, h2, h3, h4⟩ := tnum_some hb h
    simp only [Option.bind_some, Sum.elim_inl]
    have := L53_run n.toNat 0 n.toNat r [] (by omega) (by omega) (tnum_byte hb h) (by simp; omega)
    rw [show ((0 : Nat) : Int) = 0 from rfl, Int.toNat_of_nonneg h2] at this
    rw [this]
    cases h5 : rdN n.toNat r with
    | inr e => rfl
    | inl p => obtain ⟨l, r'⟩ := p; rfl
theorem rdN_app : ∀ (l rest : List Int), Sml l → rdN l.length (dgs l ++ rest) = .inl (l, rest)
  | [], rest, _ => rfl
  | n :: l, rest, h => by
    obtain ⟨h0, h1⟩ := h n (List.mem_cons_self ..)
    show rdN (l.length + 1) (dg n ++ dgs l ++ rest) = _
    unfold rdN
    rw [List.append_assoc, tnum_app h0 (by omega) h1]
    simp only
    rw [rdN_app l rest fun x hx => h x (List.mem_cons_of_mem _ hx)]
theorem rdV_app (l rest : List Int) (h : Sml l) (hl : l.length ≤ 64) : rdV (encL l ++ rest) = .inl (l, rest) := by
  unfold rdV encL
  rw [List.append_assoc, tnum_app (by omega) (by omega) (by omega)]
  simp only [Int.toNat_natCast]
  exact rdN_app l rest h
theorem rdN_some : ∀ (k : Nat) (xs l rest : List Int), Bys xs → rdN k xs = .inl (l, rest) → xs = dgs l ++ rest ∧ l.length = k ∧ Sml l ∧ Bys rest
  | 0, xs, l, rest, hb, h => by cases h; exact ⟨rfl, rfl, fun x hx => (by cases hx), hb⟩
  | k + 1, xs, l, rest, hb, h => by
    unfold rdN at h
    cases h1 : tnum 9223372036854775807 xs with
    | inr e => rw [h1] at h; cases h
    | inl p =>
      obtain ⟨n, r⟩ := p
      rw [h1] at h
      dsimp only at h
      cases h2 : rdN k r with
      | inr e => rw [h2] at h; cases h
      | inl p =>
        obtain ⟨l', r'⟩ := p
        rw [h2] at h
        cases h
        obtain ⟨g1, g2, g3, g4⟩ := tnum_some hb h1
        obtain ⟨k1, k2, k3, k4⟩ := rdN_some k r l' rest (tnum_byte hb h1) h2
        refine ⟨?_, by simp [k2], fun x hx => ?_, k4⟩
        · rw [g1, k1]; simp [dgs]
        · rcases List.mem_cons.1 hx with rfl | hx
          · exact ⟨g2, g4⟩
          · exact k3 x hx
theorem rdV_some {xs l rest : List Int} (hb : Bys xs) (h : rdV xs = .inl (l, rest)) : xs = encL l ++ rest ∧ Sml l ∧ l.length ≤ 64 ∧ Bys rest := by
  unfold rdV at h
  cases h1 : tnum 64 xs with
  | inr e => rw [h1] at h; cases h
  | inl p =>
    obtain ⟨n, r⟩ := p
    rw [h1] at h
    obtain ⟨g1, g2, g3, g4⟩ := tnum_some hb h1
    obtain ⟨k1, k2, k3, k4⟩ := rdN_some n.toNat r l rest (tnum_byte hb h1) h
    refine ⟨?_, k3, by omega, k4⟩
    unfold encL
    rw [k2, Int.toNat_of_nonneg g2, g1, k1, List.append_assoc]
theorem rdN_err : ∀ {k : Nat} {xs r : List Int} {e : Int}, rdN k xs = .inr (e, r) → e = 4 ∨ e = 5 ∨ e = 6
  | 0, xs, r, e, h => by cases h
  | k + 1, xs, r, e, h => by
    unfold rdN at h
    cases h1 : tnum 9223372036854775807 xs with
    | inr e => rw [h1] at h; cases h; exact tnum_err h1
    | inl p =>
      obtain ⟨n, r'⟩ := p
      rw [h1] at h
      dsimp only at h
      cases h2 : rdN k r' with
      | inr p => rw [h2] at h; cases h; exact rdN_err h2
      | inl p => rw [h2] at h; cases h
theorem rdV_err {xs r : List Int} {e : Int} (h : rdV xs = .inr (e, r)) : e = 4 ∨ e = 5 ∨ e = 6 := by
  unfold rdV at h
  cases h1 : tnum 64 xs with
  | inr e => rw [h1] at h; cases h; exact tnum_err h1
  | inl p => rw [h1] at h; exact rdN_err h

theorem Sml.vok {v : List Int} (h : Sml v) : Vok v := fun x hx => by have := h x hx; omega
theorem Sml.trim {v : List Int} (h : Sml v) : Sml (trim v) := fun x hx => h x (trim_sub v x hx)
theorem same_trim (v : List Int) : (within (trim v) v && within v (trim v)) = true := by
  rw [Bool.and_eq_true, within_iff, within_iff]
  exact ⟨fun k _ => by rw [gv_trim]; omega, fun k _ => by rw [gv_trim]; omega⟩
theorem encL_byte {l : List Int} (h : Vok l) (hl : l.length < 2 ^ 63) : Bys (encL l) := (dg_byte (by omega) (by omega)).app (dgs_byte h)

theorem reads_pure (a b : List Int) (ha : okE (.l (.i .u64)) a) (hb : okE (.l (.i .u64)) b) : F9 a b = some (r1 true) := by
  unfold F9
  simp only [F13_eq, Option.bind_some, Bool.not_true, cond_false]
  rcases F32_eq a ha with e | ⟨e, sa, la⟩
  · rw [e]; rfl
  rw [e]
  simp only [Option.bind_some, Bool.not_true, cond_false]
  rcases F32_eq b hb with e | ⟨e, sb, lb⟩
  · rw [e]; rfl
  rw [e]
  simp only [Option.bind_some, Bool.not_true, cond_false]
  have ta := trim_le a
  have tb := trim_le b
  have el := encL_len (trim a)
  rw [F35_eq a sa.vok (by omega)]
  simp only [Option.bind_some]
  rw [F34_eq b _ sb.vok (by omega) (by show _ < 1099511627776; show (encL (trim a)).length + _ + _ < _; omega)]
  simp only [Option.bind_some]
  have by1 : Bys (encV b) := encL_byte sb.trim.vok (by omega)
  have hF33 : F33 (encV a ++ encV b) [] [] = some ((0, ()), ((trim a, ()), (trim b, ()), ()), ()) := by
    unfold F33 F52
    simp only [Option.bind_some]
    have by2 : Bys (encV a ++ encV b) := (encL_byte sa.trim.vok (by omega)).app by1
    rw [F53_eq _ by2, show rdV (encV a ++ encV b) = _ from rdV_app (trim a) (encV b) sa.trim (by omega)]
    simp only [Option.bind_some, Sum.elim_inl]
    rw [F53_eq _ by1, show rdV (encV b) = .inl (trim b, []) from by have := rdV_app (trim b) [] sb.trim (by omega); rwa [List.append_nil] at this]
    simp only [Option.bind_some, Sum.elim_inl]
    rw [F54_eq]
    rfl
  rw [hF33]
  simp only [Option.bind_some, beq_self_eq_true, cond_true]
  rw [F21_eq _ _ (by omega) (by omega), same_trim]
  simp only [Option.bind_some, cond_true]
  rw [F21_eq _ _ (by omega) (by omega), same_trim]
  rfl
end Go.IM.V

/- Events: the laws EventRight and EventSame. -/
set_option linter.unusedVariables false
set_option linter.unusedSimpArgs false
set_option linter.constructorNameAsVariable false
namespace Go.IM.V
open Go Go.IM Go.Proofs

theorem ite_l {α : Type} {c : Prop} [Decidable c] {a b r : α} (h1 : c → a = r) (h2 : ¬ c → b = r) : (if c then a else b) = r := by by_cases h : c <;> simp [h, h1, h2]
theorem ite_r {α : Type} {c : Prop} [Decidable c] {a b r : α} (h1 : c → r = a) (h2 : ¬ c → r = b) : r = (if c then a else b) := by by_cases h : c <;> simp [h, h1, h2]
/-- May an event be? -/
def rgt (e : Ev) : Int :=
  if e.1 < 0 ∨ 63 < e.1 ∨ e.2.1 = 0 ∨ e.2.2.1 = 0 ∨ e.2.2.2.1 < 1 ∨ 6 < e.2.2.2.1 then 1
  else if e.2.2.2.1 = 5 ∧ (e.2.2.2.2.2.2.2.1 < 0 ∨ 63 < e.2.2.2.2.2.2.2.1) then 1
  else if e.2.2.2.1 ≤ 4 ∧ (e.2.2.2.2.1.size = 0 ∨ 64 < e.2.2.2.2.1.size) then 6
  else if e.2.2.2.1 = 1 ∧ 1048576 < e.2.2.2.2.2.1.length then 6
  else if 9223372036854775807 < e.2.1 ∨ 9223372036854775807 < e.2.2.1 then 8 else 0
theorem F46_eq (n : Int) : F46 n = some (r1 (decide (0 ≤ n ∧ n ≤ 63))) := by
  unfold F46
  simp only [cif]
  split
  · exact congrArg (fun b : Bool => some (r1 b)) (decide_eq_decide.2 (by omega))
  · exact congrArg (fun b : Bool => some (r1 b)) (decide_eq_false (by omega)).symm
theorem F26_eq (e : Ev) : F26 e = some (r1 (rgt e)) := by
  obtain ⟨w, s, t, k, key, text, num, node, ⟨⟩⟩ := e
  unfold F26 rgt
  simp only [cif, beq_iff_eq, Bool.cond_eq_ite, decide_eq_true_eq]
  repeat' (refine ite_l (fun h => ?_) (fun h => ?_))
  all_goals refine congrArg (fun n : Int => some (r1 n)) ?_
  all_goals (refine ite_r (fun h => ?_) (fun h => ?_) <;> first | rfl | omega | skip)
  all_goals (refine ite_r (fun h => ?_) (fun h => ?_) <;> first | rfl | omega | skip)
  all_goals (refine ite_r (fun h => ?_) (fun h => ?_) <;> first | rfl | omega | skip)
  all_goals (refine ite_r (fun h => ?_) (fun h => ?_) <;> first | rfl | omega | skip)
  all_goals (refine ite_r (fun h => ?_) (fun h => ?_) <;> first | rfl | omega | skip)
theorem F25_eq (e : Ev) : F25 e = some (r1 (rgt e)) := by
  obtain ⟨w, s, t, k, key, text, num, node, ⟨⟩⟩ := e
  unfold F25 rgt
  simp only [F46_eq, Option.bind_some, cif, beq_iff_eq, Bool.cond_eq_ite, decide_eq_true_eq, Bool.not_eq_true', decide_eq_false_iff_not]
  repeat' (refine ite_l (fun h => ?_) (fun h => ?_))
  all_goals refine congrArg (fun n : Int => some (r1 n)) ?_
  all_goals (refine ite_r (fun h => ?_) (fun h => ?_) <;> first | rfl | omega | skip)
  all_goals (refine ite_r (fun h => ?_) (fun h => ?_) <;> first | rfl | omega | skip)
  all_goals (refine ite_r (fun h => ?_) (fun h => ?_) <;> first | rfl | omega | skip)
  all_goals (refine ite_r (fun h => ?_) (fun h => ?_) <;> first | rfl | omega | skip)
  all_goals (refine ite_r (fun h => ?_) (fun h => ?_) <;> first | rfl | omega | skip)

def near (e : Ev) (how : Int) : Ev :=
  if how ≥ 64 then (IntKind.wrap .i64 ((IntKind.wrap .u64 e.1).tmod 64), IntKind.wrap .u64 (1 + e.2.1.tmod 4611686018427387904), IntKind.wrap .u64 (1 + e.2.2.1.tmod 4611686018427387904),
    IntKind.wrap .u8 (1 + e.2.2.2.1.tmod 6), if e.2.2.2.2.1.size = 0 then ⟨#[107]⟩ else e.2.2.2.2.1, e.2.2.2.2.2.1, e.2.2.2.2.2.2.1, IntKind.wrap .i64 ((IntKind.wrap .u64 e.2.2.2.2.2.2.2.1).tmod 64), ())
  else e
theorem F24_eq (e : Ev) (how : Int) : F24 e how = some (r1 (near e how)) := by
  obtain ⟨w, s, t, k, key, text, num, node, ⟨⟩⟩ := e
  unfold F24 near
  simp only [cif, beq_iff_eq, Bool.cond_eq_ite, decide_eq_true_eq]
  by_cases h : how ≥ 64
  · simp only [h, if_true]
    by_cases q : key.size = 0
    · rw [if_pos (by omega), if_pos q]
    · rw [if_neg (by omega), if_neg q]
  · simp only [h, if_false]
/-- An event with numbers that a word can have. -/
structure EvW (e : Ev) : Prop where
  s0 : 0 ≤ e.2.1
  s1 : e.2.1 < 18446744073709551616
  t0 : 0 ≤ e.2.2.1
  t1 : e.2.2.1 < 18446744073709551616
  key : e.2.2.2.2.1.size < 4294967296
theorem near_ok (e : Ev) (how : Int) (h : EvW e) : EvW (near e how) := by
  obtain ⟨s0, s1, t0, t1, hk⟩ := h
  unfold near
  split
  · refine ⟨?_, ?_, ?_, ?_, ?_⟩ <;> simp only [wu64_mod]
    · omega
    · omega
    · omega
    · omega
    · split
      · decide
      · exact hk
  · exact ⟨s0, s1, t0, t1, hk⟩
theorem EvW.ok {e : Ev} (h : EvW e) (hr : rgt e = 0) : EvOK e := by
  refine ⟨h.1, h.2, h.3, h.4, h.5, fun h1 => ?_⟩
  unfold rgt at hr
  split at hr
  · cases hr
  split at hr
  · cases hr
  split at hr
  · cases hr
  split at hr
  · cases hr
  omega

theorem eventRight_pure (e : Ev) (how : Int) : F6 e how = some (r1 true) := by
  obtain ⟨w, s, t, k, key, text, num, node, ⟨⟩⟩ := e
  unfold F6
  simp only [F23_eq, F24_eq, Option.bind_some, cif, Bool.not_true, cond_false]
  split
  · rfl
  split
  · rfl
  rw [show F25 _ = _ from F25_eq (near (w, s, t, k, key, text, num, node, ()) how), show F26 _ = _ from F26_eq (near (w, s, t, k, key, text, num, node, ()) how)]
  simp only [Option.bind_some, beq_self_eq_true]

/-- An event as it is kept. -/
def plain (e : Ev) : Ev :=
  (e.1, e.2.1, e.2.2.1, e.2.2.2.1, if 1 ≤ e.2.2.2.1 ∧ e.2.2.2.1 ≤ 4 then e.2.2.2.2.1 else ByteArray.empty, if e.2.2.2.1 = 1 then e.2.2.2.2.2.1 else [],
    if e.2.2.2.1 = 2 ∨ e.2.2.2.1 = 3 then (qbits e.2.2.2.2.2.2.1).toNat else 0, if e.2.2.2.1 = 5 then e.2.2.2.2.2.2.2.1 else 0, ())
theorem F29_eq (e : Ev) (ht : e.2.2.2.1 = 1 → e.2.2.2.2.2.1.length < lim) : F29 e = some (r1 (plain e)) := by
  obtain ⟨w, s, t, k, key, text, num, node, ⟨⟩⟩ := e
  simp only at ht
  have h47 : ∀ n, F47 n = some (r1 (qbits n).toNat) := fun n => by unfold F47; rw [F64_eq]; rfl
  unfold F29 plain
  simp only [h47, Option.bind_some, cif, beq_iff_eq, Bool.cond_eq_ite, decide_eq_true_eq]
  by_cases k1 : 1 ≤ k
  · by_cases k4 : k ≤ 4
    · simp only [show k ≥ 1 from k1, k1, k4, if_true, and_self]
      by_cases e1 : k = 1
      · subst e1; simp only [ht rfl, if_true]; rfl
      by_cases e2 : k = 2
      · subst e2; rfl
      by_cases e3 : k = 3
      · subst e3; rfl
      simp only [e1, e2, e3, show ¬ k = 5 from by omega, if_false, or_self]
    · simp only [show k ≥ 1 from k1, k1, k4, show ¬ k = 1 from by omega, show ¬ k = 2 from by omega, show ¬ k = 3 from by omega, if_true, if_false, and_false, or_self]
      by_cases e5 : k = 5
      · simp only [e5, if_true]
      · simp only [e5, if_false]
  · simp only [show ¬ k ≥ 1 from k1, k1, show ¬ k = 1 from by omega, show ¬ k = 2 from by omega, show ¬ k = 3 from by omega, show ¬ k = 5 from by omega, if_false, false_and, or_self]
theorem qbits_twice (n : Nat) : qbits (qbits n).toNat = qbits n := by
  unfold qbits
  by_cases h : (FloatKind.f64.format.order n n != some Ordering.eq) = true
  · rw [if_pos h, if_pos (by decide +kernel)]
  · rw [if_neg h, Int.toNat_natCast, if_neg h]
theorem enc_plain (e : Ev) : encE (plain e) = encE e := by
  obtain ⟨w, s, t, k, key, text, num, node, ⟨⟩⟩ := e
  unfold encE plain encR
  simp only
  by_cases hk : 1 ≤ k ∧ k ≤ 4
  · simp only [hk, if_true, and_self]
    by_cases e1 : k = 1
    · simp only [e1, if_true]
    by_cases e2 : k = 2 ∨ k = 3
    · simp only [e1, e2, if_false, if_true, qbits_twice]
    · simp only [e1, e2, if_false, show ¬ k = 5 from by omega]
  · simp only [hk, if_false, show ¬ k = 1 from by omega, show ¬ k = 2 from by omega, show ¬ k = 3 from by omega, or_self]
    by_cases e5 : k = 5
    · simp only [e5, if_true]
    · simp only [e5, if_false]
theorem plain_ok (e : Ev) (h : EvOK e) : EvOK (plain e) := by
  obtain ⟨s0, s1, t0, t1, hk, ht⟩ := h
  refine ⟨s0, s1, t0, t1, ?_, fun h1 => ?_⟩
  · show (if _ then _ else _ : ByteArray).size < _
    split
    · exact hk
    · decide
  · show (if _ then _ else _ : List Int).length < _
    split
    · exact ht h1
    · decide
theorem rgt_kind {e : Ev} (h : rgt e = 0) : 1 ≤ e.2.2.2.1 := by
  unfold rgt at h
  split at h
  · cases h
  · omega
theorem F27_eq (a b : Ev) (ha : EvOK a) (hb : EvOK b) : F27 a b = some (r1 ((strL (encE a)).toList == (strL (encE b)).toList)) := by
  unfold F27
  rw [show F40 _ = _ from F40_eq a ha, show F40 _ = _ from F40_eq b hb]
  rfl
theorem F28_eq (a b : Ev) (ha : EvOK a) (hb : EvOK b) (ka : 1 ≤ a.2.2.2.1) (kb : 1 ≤ b.2.2.2.1) : F28 a b = some (r1 ((strL (encE a)).toList == (strL (encE b)).toList)) := by
  unfold F28
  rw [show F38 _ = _ from F38_eq a ha ka, show F38 _ = _ from F38_eq b hb kb]
  rfl
/-- b with a's all but the quantity. -/
def oneOf (a b : Ev) : Ev := (a.1, a.2.1, a.2.2.1, a.2.2.2.1, a.2.2.2.2.1, a.2.2.2.2.2.1, b.2.2.2.2.2.2.1, a.2.2.2.2.2.2.2.1, ())

theorem same_rest (a b : Ev) (ha : EvW a) (hb : EvW b) :
    ((F26 a).bind fun y104 => (bif ((y104.1.1 : Int) != 0) then (some (r1 true)) else ((F26 b).bind fun y105 => (bif ((y105.1.1 : Int) != 0) then (some (r1 true)) else ((F27 a b).bind fun y106 => ((F28 a b).bind fun y107 =>
      (bif (y106.1.1 == y107.1.1) then ((F29 a).bind fun y108 => ((F27 a y108.1.1).bind fun y109 => (some (r1 y109.1.1)))) else (some (r1 false))))))))) = some (r1 true) := by
  rw [F26_eq, F26_eq]
  simp only [Option.bind_some]
  by_cases h1 : rgt a = 0
  · by_cases h2 : rgt b = 0
    · have ha := ha.ok h1
      have hb := hb.ok h2
      rw [F27_eq _ _ ha hb, F28_eq _ _ ha hb (rgt_kind h1) (rgt_kind h2), F29_eq a (fun h => by have := ha.text h; show _ < 1099511627776; omega)]
      simp only [h1, h2, Option.bind_some, bne_self_eq_false, cond_false, beq_self_eq_true, cond_true]
      rw [F27_eq _ _ ha (plain_ok a ha), enc_plain]
      simp only [Option.bind_some, beq_self_eq_true]
    · simp only [h1, bne_self_eq_false, cond_false, Bool.cond_eq_ite, bne_iff_ne, ne_eq, h2, not_false_eq_true, if_true, Bool.false_eq_true, if_false]
  · simp only [Bool.cond_eq_ite, bne_iff_ne, ne_eq, h1, not_false_eq_true, if_true]
theorem eventSame_pure (a b : Ev) (how : Int) (one : Bool) (ha : 0 ≤ a.2.1 ∧ a.2.1 < 18446744073709551616) (ha2 : 0 ≤ a.2.2.1 ∧ a.2.2.1 < 18446744073709551616)
    (hb : 0 ≤ b.2.1 ∧ b.2.1 < 18446744073709551616) (hb2 : 0 ≤ b.2.2.1 ∧ b.2.2.1 < 18446744073709551616) : F7 a b how one = some (r1 true) := by
  unfold F7
  simp only [F23_eq, Option.bind_some, cif, Bool.not_true, cond_false]
  split
  · rfl
  split
  · rfl
  split
  · rfl
  rename_i h1 h2 h3
  have oka : EvW a := ⟨ha.1, ha.2, ha2.1, ha2.2, by omega⟩
  have okb : EvW b := ⟨hb.1, hb.2, hb2.1, hb2.2, by omega⟩
  rw [show F24 _ how = _ from F24_eq a how, show F24 _ how = _ from F24_eq b how]
  simp only [Option.bind_some]
  have oka := near_ok a how oka
  have okb := near_ok b how okb
  generalize near a how = a at *
  generalize near b how = b at *
  have := same_rest a b oka okb
  cases one
  · exact this
  · exact same_rest a (oneOf a b) oka ⟨oka.1, oka.2, oka.3, oka.4, oka.5⟩
end Go.IM.V

/- Events: the law EventOrders. -/
set_option linter.unusedVariables false
set_option linter.unusedSimpArgs false
set_option linter.constructorNameAsVariable false
namespace Go.IM.V
open Go Go.IM Go.Proofs

def cmpI (a b : Int) : Int := if a < b then -1 else if a > b then 1 else 0
theorem F49_eq (a b : Int) : F49 a b = some (r1 (cmpI a b)) := by
  have h66 : ∀ x, F66 x = some (r1 false) := fun x => by unfold F66; simp
  unfold F49 cmpI
  simp only [h66, Option.bind_some, cond_false, cif]
  split
  · rfl
  split <;> rfl
theorem F50_eq (a b : Int) : F50 a b = some (r1 (cmpI a b)) := by
  have h67 : ∀ x, F67 x = some (r1 false) := fun x => by unfold F67; simp
  unfold F50 cmpI
  simp only [h67, Option.bind_some, cond_false, cif]
  split
  · rfl
  split <;> rfl
theorem F48_eq (a b : Int) : F48 [a, b] = some (r1 (if a ≠ 0 then a else b)) := by
  unfold F48
  rw [L48_3_eq]
  simp only [T48_3, List.length_cons, List.length_nil]
  by_cases h : a = 0
  · subst h
    simp only [cif, Bool.cond_eq_ite, bne_iff_ne, ne_eq, decide_eq_true_eq]
    rw [if_pos (by omega), if_pos (by omega), if_neg (by simp)]
    simp only [Option.bind_some, Sum.elim_inl]
    rw [w64 (by omega) (by omega), L48_3_eq]
    simp only [T48_3, List.length_cons, List.length_nil]
    by_cases hb : b = 0
    · subst hb
      simp only [cif, Bool.cond_eq_ite, bne_iff_ne, ne_eq, decide_eq_true_eq]
      rw [if_pos (by omega), if_pos (by omega), if_neg (by simp)]
      simp only [Option.bind_some, Sum.elim_inl]
      rw [w64 (by omega) (by omega), L48_3_eq]
      simp only [T48_3, List.length_cons, List.length_nil, cif]
      rw [if_neg (by omega)]
      rfl
    · simp only [cif, Bool.cond_eq_ite, bne_iff_ne, ne_eq, decide_eq_true_eq]
      rw [if_pos (by omega), if_pos (by omega), if_pos (by simpa using hb), if_neg (by simp)]
      rfl
  · simp only [cif, Bool.cond_eq_ite, bne_iff_ne, ne_eq, decide_eq_true_eq]
    rw [if_pos (by omega), if_pos (by omega), if_pos (by simpa using h), if_pos h]
    rfl
/-- How two places stand to one another. -/
def cmpS (a b : Int × Int × Unit) : Int := if cmpI a.1 b.1 ≠ 0 then cmpI a.1 b.1 else cmpI a.2.1 b.2.1
theorem F30_eq (a b : Int × Int × Unit) : F30 a b = some (r1 (cmpS a b)) := by
  unfold F30 cmpS
  simp only [F49_eq, F50_eq, Option.bind_some, F48_eq]
def ahead (a b : Int × Int × Unit) : Bool := decide (a.1 < b.1 ∨ (a.1 = b.1 ∧ a.2.1 < b.2.1))
theorem F31_eq (a b : Int × Int × Unit) : F31 a b = some (r1 (ahead a b)) := by
  unfold F31 ahead
  simp only [cif, Bool.cond_eq_ite, beq_iff_eq, decide_eq_true_eq]
  split
  · exact congrArg (fun b : Bool => some (r1 b)) (decide_eq_true (by omega)).symm
  split
  · exact congrArg (fun b : Bool => some (r1 b)) (decide_eq_decide.2 (by omega))
  · exact congrArg (fun b : Bool => some (r1 b)) (decide_eq_false (by omega)).symm
theorem cmpS_neg (a b : Int × Int × Unit) : decide (cmpS a b < 0) = ahead a b := by
  unfold cmpS cmpI ahead
  apply decide_eq_decide.2
  split <;> (repeat' split) <;> omega
theorem cmpS_pos (a b : Int × Int × Unit) : decide (cmpS a b > 0) = ahead b a := by
  unfold cmpS cmpI ahead
  apply decide_eq_decide.2
  split <;> (repeat' split) <;> omega
theorem cmpS_zero (a b : Int × Int × Unit) : (cmpS a b == 0) = ((a.1 == b.1) && (a.2.1 == b.2.1)) := by
  have h : cmpS a b = 0 ↔ (a.1 = b.1 ∧ a.2.1 = b.2.1) := by
    unfold cmpS cmpI
    split <;> (repeat' split) <;> omega
  rw [Bool.eq_iff_iff]
  simp [h]
theorem eventOrders_pure (a b c : Int × Int × Unit) : F8 a b c = some (r1 true) := by
  unfold F8
  simp only [F30_eq, F31_eq, F23_eq, Option.bind_some, cond_true]
  rw [show cmpS (a.1, a.2.1, ()) (b.1, b.2.1, ()) = cmpS a b from rfl, show ahead (a.1, a.2.1, ()) (b.1, b.2.1, ()) = ahead a b from rfl, show ahead (b.1, b.2.1, ()) (a.1, a.2.1, ()) = ahead b a from rfl,
    cmpS_neg, cmpS_pos, cmpS_zero]
  simp only [beq_self_eq_true, cond_true, cif]
  split
  · rfl
  split
  · rfl
  rename_i h1 h2
  rw [show cmpS (b.1, b.2.1, ()) (c.1, c.2.1, ()) = cmpS b c from rfl] at h2
  rw [show cmpS (a.1, a.2.1, ()) (c.1, c.2.1, ()) = cmpS a c from rfl, cmpS_neg]
  have e1 : ahead a b = true := by rw [← cmpS_neg]; exact decide_eq_true (by omega)
  have e2 : ahead b c = true := by rw [← cmpS_neg]; exact decide_eq_true (by omega)
  have e3 : ahead a c = true := by
    unfold ahead at *
    simp only [decide_eq_true_eq] at *
    omega
  rw [e3]
end Go.IM.V

/- Events as bytes: the law EventBytes. -/
set_option linter.unusedVariables false
set_option linter.unusedSimpArgs false
set_option linter.constructorNameAsVariable false
namespace Go.IM.V
open Go Go.IM Go.Proofs

theorem ok_f64 {n : Nat} (h : okE (.f .f64) n) : n < 18446744073709551616 := by
  have h2 : (Lit.float .f64 n).wf = true := h
  simp [Lit.wf] at h2
  omega
theorem bytesL_byte (s : ByteArray) : Bys (bytesL s) := fun x hx => by
  unfold bytesL at hx
  obtain ⟨b, _, rfl⟩ := List.mem_map.1 hx
  have := b.toNat_lt
  omega
theorem strL_bytesL (s : ByteArray) : strL (bytesL s) = s := by
  have : ((fun n : Int => UInt8.ofNat n.toNat) ∘ fun b : UInt8 => (b.toNat : Int)) = id := by funext b; simp
  unfold strL bytesL
  apply ByteArray.ext
  simp [this]

/-! ### Eight bytes -/
theorem or_shl8 {acc x : Int} (h0 : 0 ≤ acc) (h1 : acc < 72057594037927936) (x0 : 0 ≤ x) (x1 : x < 256) : iOr .u64 (iShl .u64 acc 8) (IntKind.wrap .u64 x) = acc * 256 + x := by
  obtain ⟨a, rfl⟩ := Int.eq_ofNat_of_zero_le h0
  obtain ⟨y, rfl⟩ := Int.eq_ofNat_of_zero_le x0
  have hs : iShl .u64 (a : Int) 8 = ((a <<< 8 : Nat) : Int) := by
    show IntKind.wrap .u64 ((a : Int) * 2 ^ 8) = _
    rw [Nat.shiftLeft_eq, wu64 (by omega) (by omega)]
    simp
  rw [hs, wu64 (by omega) (by omega), or_nat (by rw [Nat.shiftLeft_eq]; omega) (by omega), ← Nat.shiftLeft_add_eq_or_of_lt (by omega : y < 2 ^ 8), Nat.shiftLeft_eq]
  omega
def num8 (acc : Int) (l : List Int) : Int := l.foldl (fun a x => a * 256 + x) acc
theorem L76_run : ∀ (k : Nat) (acc : Int) (xs : List Int), k ≤ 8 → Bys xs → 0 ≤ acc → acc < 256 ^ (8 - k) →
    L76_3 acc (8 - (k : Int)) xs = some (if k ≤ xs.length then .inr (tin (num8 acc (xs.take k)) (xs.drop k)) else .inl (tie 5 [])) := by
  intro k
  induction k with
  | zero =>
    intro acc xs hk hb h0 h1
    rw [L76_3_eq]
    simp only [T76_3, cif]
    rw [if_neg (by omega), if_pos (by omega)]
    rfl
  | succ k ih =>
    intro acc xs hk hb h0 h1
    rw [L76_3_eq]
    simp only [T76_3, cif]
    rw [if_pos (by omega), F73_eq]
    cases xs with
    | nil => rw [if_neg (by simp)]; rfl
    | cons x r =>
      obtain ⟨x0, x1⟩ := hb x (List.mem_cons_self ..)
      have hp : (256 : Int) ^ (8 - k) = 256 ^ (8 - (k + 1)) * 256 := by rw [show 8 - k = (8 - (k + 1)) + 1 from by omega, Int.pow_succ]
      have h56 : acc < 72057594037927936 := by
        have : ∀ j : Nat, j ≤ 7 → (256 : Int) ^ j ≤ 72057594037927936 := by decide
        have := this (8 - (k + 1)) (by omega)
        omega
      have hw : IntKind.wrap .i64 (8 - ((k + 1 : Nat) : Int) + 1) = 8 - (k : Int) := by rw [w64 (by omega) (by omega)]; omega
      simp only [Option.bind_some, Sum.elim_inl, hw, or_shl8 h0 h56 x0 x1]
      rw [ih _ r (by omega) (fun y hy => hb y (List.mem_cons_of_mem _ hy)) (by omega) (by rw [hp]; omega)]
      by_cases c : k ≤ r.length
      · rw [if_pos c, if_pos (by simp; omega)]; rfl
      · rw [if_neg c, if_neg (by simp; omega)]
theorem F76_eq (xs : List Int) (hb : Bys xs) : F76 xs = some (if 8 ≤ xs.length then .inl (tin (num8 0 (xs.take 8)) (xs.drop 8)) else .inr (tie 5 [])) := by
  unfold F76
  have := L76_run 8 0 xs (by omega) hb (by omega) (by decide)
  rw [show (8 : Int) - ((8 : Nat) : Int) = 0 from rfl] at this
  rw [this]
  by_cases c : 8 ≤ xs.length
  · rw [if_pos c, if_pos c]; rfl
  · rw [if_neg c, if_neg c]; rfl
theorem fixF_num (n : Int) (h0 : 0 ≤ n) : ∀ k, num8 (n / 256 ^ k) (fixF n k) = n
  | 0 => by simp [fixF, num8]
  | k + 1 => by
    show num8 (n / 256 ^ (k + 1) * 256 + n / 256 ^ k % 256) (fixF n k) = n
    have : n / 256 ^ (k + 1) * 256 + n / 256 ^ k % 256 = n / 256 ^ k := by
      rw [Int.pow_succ, ← Int.ediv_ediv_of_nonneg (Int.le_of_lt (Int.pow_pos (by decide)))]
      omega
    rw [this]
    exact fixF_num n h0 k
theorem fix8_num {n : Int} (h0 : 0 ≤ n) (h1 : n < 18446744073709551616) : num8 0 (fix8 n) = n := by
  have := fixF_num n h0 8
  rwa [show n / 256 ^ 8 = 0 from Int.ediv_eq_zero_of_lt h0 h1] at this
theorem fixF_byte (n : Int) : ∀ k, Bys (fixF n k)
  | 0 => fun x hx => by cases hx
  | k + 1 => fun x hx => by
    rcases List.mem_cons.1 hx with rfl | hx
    · omega
    · exact fixF_byte n k x hx
theorem F76_fix {n : Int} (h0 : 0 ≤ n) (h1 : n < 18446744073709551616) (rest : List Int) (hr : Bys rest) : F76 (fix8 n ++ rest) = some (.inl (tin n rest)) := by
  have hl : (fix8 n).length = 8 := fixF_len n 8
  have hb : Bys (fix8 n ++ rest) := (fixF_byte n 8).app hr
  rw [F76_eq _ hb, if_pos (by simp; omega), List.take_left' hl, List.drop_left' hl, fix8_num h0 h1]
theorem qbits_lt {n : Nat} (h : n < 18446744073709551616) : qbits n < 18446744073709551616 := by unfold qbits; split <;> omega
theorem F75_q (n : Nat) : F75 (qbits n) = some (((qbits n).toNat, true, ()), (), ()) := by
  unfold F75
  rw [F64_eq]
  simp only [Option.bind_some, qbits_twice, beq_self_eq_true]

/-- An event that may be: its texts' bytes. -/
structure EvB (e : Ev) : Prop where
  w : EvW e
  text : Bys e.2.2.2.2.2.1
  num : e.2.2.2.2.2.2.1 < 18446744073709551616
theorem dgT_byte {t : List Int} (h : Bys t) (hl : t.length < 2 ^ 63) : Bys (dgT t) := (dg_byte (by omega) (by omega)).app h
theorem rgt_zero {e : Ev} (h : rgt e = 0) : 0 ≤ e.1 ∧ e.1 ≤ 63 ∧ 1 ≤ e.2.2.2.1 ∧ e.2.2.2.1 ≤ 6 ∧ (e.2.2.2.1 = 5 → 0 ≤ e.2.2.2.2.2.2.2.1 ∧ e.2.2.2.2.2.2.2.1 ≤ 63) ∧
    (e.2.2.2.1 ≤ 4 → e.2.2.2.2.1.size ≤ 64) ∧ (e.2.2.2.1 = 1 → e.2.2.2.2.2.1.length ≤ 1048576) := by
  unfold rgt at h
  split at h
  · cases h
  split at h
  · cases h
  split at h
  · cases h
  split at h
  · cases h
  omega
theorem F61_enc (e : Ev) (h : EvB e) (hr : rgt e = 0) : F61 (encE e) = some ((plain e, 0, ()), (), ()) := by
  obtain ⟨r1', r2, r3', r4, r5, r6, r7⟩ := rgt_zero hr
  obtain ⟨⟨s0, s1, t0, t1, hk⟩, hty, hnum⟩ := h
  obtain ⟨w, s, t, k, key, text, num, node, ⟨⟩⟩ := e
  simp only at s0 s1 t0 t1 hk r1' r2 r3' r4 r5 r6 r7 hty hnum
  have hw : IntKind.wrap .u64 w = w := wu64 (by omega) (by omega)
  have hw2 : IntKind.wrap .i64 w = w := w64 (by omega) (by omega)
  have kb := bytesL_byte key
  have kl := bytesL_len key
  have by3 : 1 ≤ k ∧ k ≤ 4 → Bys (dgT (bytesL key)) := fun hk => dgT_byte kb (by have := r6 hk.2; omega)
  have by4 : Bys (encR k text num node) := by
    unfold encR
    split
    · rename_i h; exact dgT_byte hty (by have := r7 h; omega)
    split
    · exact fixF_byte _ 8
    split
    · rename_i h; exact dg_byte (by rw [wu64_mod]; omega) (by rw [wu64_mod]; omega)
    · exact fun x hx => by cases hx
  have by5 : Bys ((if 1 ≤ k ∧ k ≤ 4 then dgT (bytesL key) else []) ++ encR k text num node) := by
    refine Bys.app ?_ by4
    split
    · rename_i h; exact by3 h
    · exact fun x hx => by cases hx
  have by6 : Bys ([k] ++ ((if 1 ≤ k ∧ k ≤ 4 then dgT (bytesL key) else []) ++ encR k text num node)) := Bys.app (fun x hx => by simp at hx; omega) by5
  have by7 := (dg_byte t0 t1).app by6
  have by8 := (dg_byte s0 s1).app by7
  have by9 := (dg_byte (n := w) (by omega) (by omega)).app by8
  unfold F61 F52 encE plain
  simp only [Option.bind_some, hw, List.append_assoc]
  rw [F68_eq _ _ by9, tnum_app (by omega) (by omega) (by omega)]
  simp only [Option.bind_some, Sum.elim_inl]
  rw [F68_eq _ _ by8, tnum_app s0 s1 (by omega)]
  simp only [Option.bind_some, Sum.elim_inl]
  rw [F68_eq _ _ by7, tnum_app t0 t1 (by omega)]
  simp only [Option.bind_some, Sum.elim_inl]
  rw [F73_eq]
  simp only [List.singleton_append, Option.bind_some, Sum.elim_inl, hw2, cif, Bool.cond_eq_ite, decide_eq_true_eq, beq_iff_eq, Bool.not_eq_true']
  rw [if_pos (show k ≥ 1 from r3')]
  by_cases k4 : k ≤ 4
  · have hk64 := r6 k4
    have c14 : 1 ≤ k ∧ k ≤ 4 := ⟨r3', k4⟩
    have hR : (encR k text num node).length ≤ 1048600 := by
      unfold encR
      split
      · rename_i h; have := dgT_len text; have := r7 h; omega
      split
      · rw [show (fix8 (qbits num)).length = 8 from fixF_len _ 8]; omega
      split
      · have := dg_len (IntKind.wrap .u64 node); omega
      · simp
    rw [if_pos c14] at by5
    simp only [if_pos c14, if_pos k4]
    have hl5 : (dgT (bytesL key) ++ encR k text num node).length < 2 ^ 63 := by
      have := dgT_len (bytesL key)
      rw [List.length_append]
      omega
    rw [F74_eq _ _ by5 hl5 (by decide), tkT_app (by omega) (by omega)]
    simp only [Option.bind_some, Sum.elim_inl, strL_bytesL]
    by_cases e1 : k = 1
    · subst e1
      have h7 := r7 rfl
      unfold encR at by4 ⊢
      simp only [if_true] at by4 ⊢
      have e := tkT_app (t := text) (rest := []) (most := 1048576) (by omega) (by omega)
      rw [List.append_nil] at e
      rw [F74_eq _ _ by4 (by have := dgT_len text; omega) (by decide), e]
      simp only [Option.bind_some, Sum.elim_inl]
      rw [F54_eq]
      rfl
    by_cases e23 : k = 2 ∨ k = 3
    · unfold encR at by4 ⊢
      simp only [e1, e23, if_true, if_false] at by4 ⊢
      have e := F76_fix (qbits_nn num) (qbits_lt hnum) [] (fun x hx => by cases hx)
      rw [List.append_nil] at e
      rcases e23 with rfl | rfl
      · simp only [if_true, e, Option.bind_some, Sum.elim_inl, F75_q, F54_eq, Bool.true_eq_false, if_false]
        rfl
      · simp only [if_true, show ¬ (3 : Int) = 2 from by decide, if_false, e, Option.bind_some, Sum.elim_inl, F75_q, F54_eq, Bool.true_eq_false, if_false]
        rfl
    · unfold encR
      simp only [e1, e23, show ¬ k = 2 from by omega, show ¬ k = 3 from by omega, show ¬ k = 5 from by omega, or_self, if_false, F54_eq, Option.bind_some, Sum.elim_inl]
  · have c14 : ¬ (1 ≤ k ∧ k ≤ 4) := by omega
    simp only [if_neg k4, if_neg c14, show ¬ k = 1 from by omega, show ¬ k = 2 from by omega, show ¬ k = 3 from by omega, or_self, if_false, List.nil_append]
    unfold encR at by4 ⊢
    simp only [show ¬ k = 1 from by omega, show ¬ k = 2 from by omega, show ¬ k = 3 from by omega, or_self, if_false] at by4 ⊢
    by_cases e5 : k = 5
    · obtain ⟨n0, n1⟩ := r5 e5
      have hn : IntKind.wrap .u64 node = node := wu64 (by omega) (by omega)
      have hn2 : IntKind.wrap .i64 node = node := w64 (by omega) (by omega)
      simp only [e5, if_true, hn] at by4 ⊢
      have e := tnum_app (n := node) (most := 63) n0 (by omega) n1 []
      rw [List.append_nil] at e
      rw [F68_eq _ _ by4, e]
      simp only [Option.bind_some, Sum.elim_inl, hn2, F54_eq]
    · simp only [e5, if_false, F54_eq, Option.bind_some, Sum.elim_inl]
theorem rgt_plain {e : Ev} (h : rgt e = 0) : rgt (plain e) = 0 := by
  obtain ⟨w, s, t, k, key, text, num, node, ⟨⟩⟩ := e
  unfold rgt plain at *
  simp only at *
  split at h
  · cases h
  split at h
  · cases h
  split at h
  · cases h
  split at h
  · cases h
  split at h
  · cases h
  rename_i h1 h2 h3 h4 h5
  rw [if_neg h1]
  by_cases k5 : k = 5
  · rw [if_neg (by simp only [k5, if_true]; omega), if_neg (by omega), if_neg (by omega), if_neg h5]
  · rw [if_neg (by omega)]
    by_cases k4 : k ≤ 4
    · rw [if_neg (by rw [if_pos (show 1 ≤ k ∧ k ≤ 4 from by omega)]; omega)]
      by_cases k1 : k = 1
      · rw [if_neg (by rw [if_pos k1]; omega), if_neg h5]
      · rw [if_neg (by omega), if_neg h5]
    · rw [if_neg (by omega), if_neg (by omega), if_neg h5]
theorem F39_enc (e : Ev) (h : EvB e) (hr : rgt e = 0) : F39 (encE e) = some ((plain e, 0, ()), (), ()) := by
  unfold F39
  rw [F61_enc e h hr]
  simp only [Option.bind_some, beq_self_eq_true, cond_true]
  rw [show F25 _ = _ from F25_eq (plain e), rgt_plain hr]
  rfl
theorem near_b (e : Ev) (how : Int) (h : EvB e) : EvB (near e how) := by
  refine ⟨near_ok e how h.w, ?_, ?_⟩
  · unfold near; split <;> exact h.text
  · unfold near; split <;> exact h.num
theorem beq_comm8 (a b : List UInt8) : (a == b) = (b == a) := by
  rw [Bool.eq_iff_iff, beq_iff_eq, beq_iff_eq]; exact ⟨Eq.symm, Eq.symm⟩
theorem eventBytes_pure (e : Ev) (how : Int) (hs : 0 ≤ e.2.1 ∧ e.2.1 < 18446744073709551616) (ht : 0 ≤ e.2.2.1 ∧ e.2.2.1 < 18446744073709551616)
    (hx : Bys e.2.2.2.2.2.1) (hn : e.2.2.2.2.2.2.1 < 18446744073709551616) : F12 e how = some (r1 true) := by
  unfold F12
  simp only [F23_eq, Option.bind_some, cif, Bool.not_true, cond_false]
  split
  · rfl
  split
  · rfl
  rename_i l1 l2
  rw [show F24 _ how = _ from F24_eq e how]
  have hB : EvB e := ⟨⟨hs.1, hs.2, ht.1, ht.2, by omega⟩, hx, hn⟩
  have hB := near_b e how hB
  simp only [Option.bind_some]
  generalize near e how = e at *
  rw [show F26 _ = _ from F26_eq e]
  simp only [Option.bind_some]
  by_cases h0 : rgt e = 0
  · have ok := hB.w.ok h0
    have ok2 := plain_ok e ok
    have k1 := rgt_kind h0
    rw [show F40 _ = _ from F40_eq e ok, show F29 _ = _ from F29_eq e (fun h => by have := ok.text h; show _ < 1099511627776; omega), show F38 _ = _ from F38_eq e ok k1]
    simp only [Option.bind_some, h0, bne_self_eq_false, cond_false]
    rw [F39_enc e hB h0]
    simp only [Option.bind_some, beq_self_eq_true, cond_true]
    rw [show F27 _ _ = _ from F27_eq (plain e) e ok2 ok, enc_plain]
    simp only [Option.bind_some, beq_self_eq_true, cond_true]
    rw [show F28 _ _ = _ from F28_eq (plain e) (plain e) ok2 ok2 k1 k1]
    simp only [Option.bind_some, beq_self_eq_true, cond_true]
    have e1 : (plain e).1 = e.1 := rfl
    have e2 : (plain e).2.1 = e.2.1 := rfl
    have e3 : (plain e).2.2.1 = e.2.2.1 := rfl
    have e4 : (plain e).2.2.2.1 = e.2.2.2.1 := rfl
    have e5 : (plain e).2.2.2.2.1 = if 1 ≤ e.2.2.2.1 ∧ e.2.2.2.1 ≤ 4 then e.2.2.2.2.1 else ByteArray.empty := rfl
    simp only [e1, e2, e3, e4, beq_self_eq_true, cond_true, F41, F42, Option.bind_some, Bool.and_true]
    by_cases k4 : e.2.2.2.1 ≤ 4
    · rw [if_pos k4, e5, if_pos ⟨k1, k4⟩]
      simp only [beq_self_eq_true, cond_true]
    · rw [if_neg k4, e5, if_neg (by omega)]
      rw [beq_comm8 ByteArray.empty.toList, show (⟨#[]⟩ : ByteArray) = ByteArray.empty from rfl]
      simp only [beq_self_eq_true, cond_true]
  · simp only [Bool.cond_eq_ite, bne_iff_ne, ne_eq, h0, not_false_eq_true, if_true]
end Go.IM.V

/- Events: the law EventJunk. -/
set_option linter.unusedVariables false
set_option linter.unusedSimpArgs false
set_option linter.constructorNameAsVariable false
namespace Go.IM.V
open Go Go.IM Go.Proofs

theorem bytesL_strL {t : List Int} (h : Bys t) : bytesL (strL t) = t := by
  unfold bytesL strL
  simp only [List.map_map]
  conv => rhs; rw [← List.map_id t]
  apply List.map_congr_left
  intro x hx
  have := h x hx
  simp [UInt8.toNat_ofNat']
  omega
theorem num8_div : ∀ (l : List Int) (acc : Int), Bys l → num8 acc l / 256 ^ l.length = acc
  | [], acc, _ => by simp [num8]
  | x :: r, acc, h => by
    have ih := num8_div r (acc * 256 + x) (fun y hy => h y (List.mem_cons_of_mem _ hy))
    have hx := h x (List.mem_cons_self ..)
    rw [List.length_cons, Int.pow_succ, ← Int.ediv_ediv_of_nonneg (Int.le_of_lt (Int.pow_pos (by decide)))]
    rw [show num8 acc (x :: r) = num8 (acc * 256 + x) r from rfl, ih]
    omega
theorem fixF_num8 : ∀ (l : List Int) (acc : Int), Bys l → fixF (num8 acc l) l.length = l
  | [], acc, _ => rfl
  | x :: r, acc, h => by
    have hr : Bys r := fun y hy => h y (List.mem_cons_of_mem _ hy)
    have hx := h x (List.mem_cons_self ..)
    have h1 := num8_div r (acc * 256 + x) hr
    show num8 (acc * 256 + x) r / 256 ^ r.length % 256 :: fixF (num8 (acc * 256 + x) r) r.length = x :: r
    rw [h1, fixF_num8 r _ hr]
    congr 1
    omega
theorem num8_nn : ∀ (l : List Int) (acc : Int), Bys l → 0 ≤ acc → 0 ≤ num8 acc l
  | [], acc, _, h => h
  | x :: r, acc, h, h0 => by
    have hx := h x (List.mem_cons_self ..)
    exact num8_nn r (acc * 256 + x) (fun y hy => h y (List.mem_cons_of_mem _ hy)) (by omega)
theorem fix8_num8 {l : List Int} (h : Bys l) (h8 : 8 ≤ l.length) : fix8 (num8 0 (l.take 8)) = l.take 8 := by
  have := fixF_num8 (l.take 8) 0 (h.take 8)
  rwa [List.length_take, Nat.min_eq_left h8] at this
theorem tkT_byte {xs t rest : List Int} {most : Int} (hb : Bys xs) (h : tkT most xs = .inl (t, rest)) : Bys t ∧ Bys rest := by
  obtain ⟨e, _⟩ := tkT_some hb h
  unfold dgT at e
  constructor
  · intro x hx; exact hb x (by rw [e]; simp [hx])
  · intro x hx; exact hb x (by rw [e]; simp [hx])
theorem tkT_err' {most e : Int} {xs : List Int} (h : tkT most xs = .inr e) : e = 4 ∨ e = 5 ∨ e = 6 := by
  unfold tkT at h
  split at h
  · rename_i hk; cases h; rcases tk_err hk with h | h <;> omega
  · split at h
    · cases h; omega
    · split at h
      · cases h; omega
      · cases h

/-- What is read back. -/
def Rd (s : List Int) (r : Option (((Int × (Int × (Int × (Int × (ByteArray × ((List Int) × (Nat × (Int × Unit)))))))) × (Int × Unit)) × Unit × Unit)) : Prop :=
  ∃ (x : Ev) (e : Int), r = some ((x, e, ()), (), ()) ∧ (e = 0 → rgt x = 0 → encE x = s ∧ EvW x)
theorem Rd.err {s : List Int} (x : Ev) {e : Int} (h : e = 4 ∨ e = 5 ∨ e = 6) : Rd s (some ((x, e, ()), (), ())) := ⟨x, e, rfl, fun h0 => by omega⟩
theorem done_rd {s r : List Int} (x : Ev) (h : r = [] → rgt x = 0 → encE x = s ∧ EvW x) :
    Rd s ((F54 r).bind fun y => Sum.elim (fun _ => some ((x, 0, ()), (), ())) (fun y => some ((x, y.1, ()), (), ())) y) := by
  rw [F54_eq]
  cases r with
  | nil => exact ⟨x, 0, rfl, fun _ => h rfl⟩
  | cons b r => exact ⟨x, 4, rfl, fun h0 => by cases h0⟩
theorem F75_eq (n : Int) : F75 n = some ((n.toNat, (qbits n.toNat == n), ()), (), ()) := by
  unfold F75
  rw [F64_eq]
  rfl
theorem q_rd {s r : List Int} (hb : Bys r) (f : Nat → Ev) (x0 z0 : Ev) (h : ∀ n : Int, 0 ≤ n → fix8 n = r → qbits n.toNat = n → encE (f n.toNat) = s ∧ EvW (f n.toNat)) :
    Rd s ((F76 r).bind fun y => Sum.elim (fun y => (F75 y.1.1).bind fun z => bif !z.1.2.1 then some ((z0, 4, ()), (), ()) else (F54 y.2.1.1.1).bind fun u => Sum.elim (fun _ => some ((f z.1.1, 0, ()), (), ())) (fun v => some ((f z.1.1, v.1, ()), (), ())) u)
      (fun y => some ((x0, y.1, ()), (), ())) y) := by
  rw [F76_eq _ hb]
  by_cases h8 : 8 ≤ r.length
  · rw [if_pos h8]
    simp only [Option.bind_some, Sum.elim_inl]
    rw [F75_eq]
    simp only [Option.bind_some]
    have h0 := num8_nn (r.take 8) 0 (hb.take 8) (by omega)
    have h2 := fix8_num8 hb h8
    generalize num8 0 (r.take 8) = n at *
    cases hq : (qbits n.toNat == n) with
    | false => exact Rd.err _ (.inl rfl)
    | true =>
      simp only [Bool.not_true, cond_false]
      refine done_rd _ (fun hr _ => h n h0 ?_ (beq_iff_eq.1 hq))
      rw [h2]
      have := List.take_append_drop 8 r
      rwa [hr, List.append_nil] at this
  · rw [if_neg h8]
    exact Rd.err _ (.inr (.inl rfl))
theorem n_rd {s r : List Int} (hb : Bys r) (f : Int → Ev) (x0 : Ev) (h : ∀ n : Int, 0 ≤ n → n ≤ 63 → dg n = r → encE (f (IntKind.wrap .i64 n)) = s ∧ EvW (f (IntKind.wrap .i64 n))) :
    Rd s ((F68 63 r).bind fun y => Sum.elim (fun y => (F54 y.2.1.1.1).bind fun u => Sum.elim (fun _ => some ((f (IntKind.wrap .i64 y.1.1), 0, ()), (), ())) (fun v => some ((f (IntKind.wrap .i64 y.1.1), v.1, ()), (), ())) u)
      (fun y => some ((x0, y.1, ()), (), ())) y) := by
  rw [F68_eq _ _ hb]
  cases h1 : tnum 63 r with
  | inr e => exact Rd.err _ (tnum_err h1)
  | inl q =>
    obtain ⟨n, r1⟩ := q
    obtain ⟨e1, n0, n1, n2⟩ := tnum_some hb h1
    simp only [Option.bind_some, Sum.elim_inl]
    exact done_rd _ (fun hr _ => h n n0 n2 (by rw [e1, hr, List.append_nil]))
theorem F61_any (s : List Int) (hb : Bys s) (hl : s.length < 2 ^ 62) : Rd s (F61 s) := by
  unfold F61 F52
  simp only [Option.bind_some]
  rw [F68_eq _ _ hb]
  cases h1 : tnum 63 s with
  | inr e => exact Rd.err _ (tnum_err h1)
  | inl q =>
  obtain ⟨w, r1⟩ := q
  obtain ⟨e1, w0, w1, w2⟩ := tnum_some hb h1
  have hb1 := tnum_byte hb h1
  simp only [Option.bind_some, Sum.elim_inl]
  rw [F68_eq _ _ hb1]
  cases h2 : tnum 18446744073709551615 r1 with
  | inr e => exact Rd.err _ (tnum_err h2)
  | inl q =>
  obtain ⟨a, r2⟩ := q
  obtain ⟨e2, a0, a1, a2⟩ := tnum_some hb1 h2
  have hb2 := tnum_byte hb1 h2
  simp only [Option.bind_some, Sum.elim_inl]
  rw [F68_eq _ _ hb2]
  cases h3 : tnum 18446744073709551615 r2 with
  | inr e => exact Rd.err _ (tnum_err h3)
  | inl q =>
  obtain ⟨t, r3⟩ := q
  obtain ⟨e3, t0, t1, t2⟩ := tnum_some hb2 h3
  have hb3 := tnum_byte hb2 h3
  simp only [Option.bind_some, Sum.elim_inl]
  rw [F73_eq]
  cases r3 with
  | nil => exact Rd.err _ (.inr (.inl rfl))
  | cons k r4 =>
  have hk := hb3 k (List.mem_cons_self ..)
  have hb4 : Bys r4 := fun y hy => hb3 y (List.mem_cons_of_mem _ hy)
  have hw : IntKind.wrap .i64 w = w := w64 (by omega) (by omega)
  have hw2 : IntKind.wrap .u64 w = w := wu64 (by omega) (by omega)
  have hl4 : r4.length < 2 ^ 62 := by
    have := congrArg List.length e1
    have := congrArg List.length e2
    have := congrArg List.length e3
    simp only [List.length_append, List.length_cons] at *
    omega
  have hs : s = dg w ++ dg a ++ dg t ++ [k] ++ r4 := by rw [e1, e2, e3]; simp
  have enc : ∀ (key : ByteArray) (text : List Int) (num : Nat) (node : Int), (if 1 ≤ k ∧ k ≤ 4 then dgT (bytesL key) else []) ++ encR k text num node = r4 → key.size < 4294967296 →
      encE (w, a, t, k, key, text, num, node, ()) = s ∧ EvW (w, a, t, k, key, text, num, node, ()) := by
    intro key text num node he hks
    refine ⟨?_, ⟨a0, a1, t0, t1, hks⟩⟩
    rw [hs]
    unfold encE
    simp only [hw2]
    rw [List.append_assoc, he]
  simp only [Option.bind_some, Sum.elim_inl, hw, cif]
  by_cases k4 : 1 ≤ k ∧ k ≤ 4
  · rw [if_pos (show k ≥ 1 from k4.1), if_pos k4.2, F74_eq _ _ hb4 (by omega) (by decide)]
    cases h5 : tkT 64 r4 with
    | inr e => exact Rd.err _ (tkT_err' h5)
    | inl q =>
    obtain ⟨key, r5⟩ := q
    obtain ⟨e5, m5⟩ := tkT_some hb4 h5
    obtain ⟨hkb, hb5⟩ := tkT_byte hb4 h5
    simp only [Option.bind_some, Sum.elim_inl]
    have hks : (strL key).size < 4294967296 := by
      rw [← bytesL_len, bytesL_strL hkb]; omega
    have hl5 : r5.length < 2 ^ 62 := by
      have := congrArg List.length e5
      simp only [List.length_append] at this
      omega
    simp only [if_pos k4] at enc
    by_cases c1 : k = 1
    · rw [show (k == 1) = true from beq_iff_eq.2 c1]
      simp only [cond_true]
      rw [F74_eq _ _ hb5 (by omega) (by decide)]
      cases h6 : tkT 1048576 r5 with
      | inr e => exact Rd.err _ (tkT_err' h6)
      | inl q =>
      obtain ⟨text, r6⟩ := q
      obtain ⟨e6, m6⟩ := tkT_some hb5 h6
      simp only [Option.bind_some, Sum.elim_inl]
      exact done_rd _ (fun h _ => enc (strL key) text 0 0 (by rw [bytesL_strL hkb]; unfold encR; rw [if_pos c1, e5, e6, h, List.append_nil]) hks)
    rw [show (k == 1) = false from beq_eq_false_iff_ne.2 c1]
    simp only [cond_false]
    by_cases c2 : k = 2
    · rw [show (k == 2) = true from beq_iff_eq.2 c2]
      simp only [cond_true]
      exact q_rd hb5 (fun n => (w, a, t, k, strL key, [], n, 0, ())) _ _ (fun n n0 hn hq => enc (strL key) [] n.toNat 0 (by rw [bytesL_strL hkb]; unfold encR; rw [if_neg c1, if_pos (.inl c2), e5, hq, hn]) hks)
    rw [show (k == 2) = false from beq_eq_false_iff_ne.2 c2]
    simp only [cond_false]
    by_cases c3 : k = 3
    · rw [show (k == 3) = true from beq_iff_eq.2 c3]
      simp only [cond_true]
      exact q_rd hb5 (fun n => (w, a, t, k, strL key, [], n, 0, ())) _ _ (fun n n0 hn hq => enc (strL key) [] n.toNat 0 (by rw [bytesL_strL hkb]; unfold encR; rw [if_neg c1, if_pos (.inr c3), e5, hq, hn]) hks)
    rw [show (k == 3) = false from beq_eq_false_iff_ne.2 c3, show (k == 5) = false from beq_eq_false_iff_ne.2 (by omega)]
    simp only [cond_false]
    exact done_rd _ (fun h _ => enc (strL key) [] 0 0 (by rw [bytesL_strL hkb]; unfold encR; rw [if_neg c1, if_neg (by omega), if_neg (by omega), e5, h]) hks)
  · simp only [if_neg k4, List.nil_append] at enc
    have key : Rd s (bif k == 1 then ((F74 1048576 r4).bind fun y => Sum.elim (fun y => (F54 y.2.1.1.1).bind fun u => Sum.elim (fun _ => some (((w, a, t, k, ByteArray.empty, y.1.1, 0, 0, ()), 0, ()), (), ())) (fun v => some (((w, a, t, k, ByteArray.empty, y.1.1, 0, 0, ()), v.1, ()), (), ())) u) (fun y => some (((w, a, t, k, ByteArray.empty, [], 0, 0, ()), y.1, ()), (), ())) y)
        else bif k == 2 then ((F76 r4).bind fun y => Sum.elim (fun y => (F75 y.1.1).bind fun z => bif !z.1.2.1 then some (((0, 0, 0, 0, ByteArray.empty, [], 0, 0, ()), 4, ()), (), ()) else (F54 y.2.1.1.1).bind fun u => Sum.elim (fun _ => some (((w, a, t, k, ByteArray.empty, [], z.1.1, 0, ()), 0, ()), (), ())) (fun v => some (((w, a, t, k, ByteArray.empty, [], z.1.1, 0, ()), v.1, ()), (), ())) u) (fun y => some (((w, a, t, k, ByteArray.empty, [], 0, 0, ()), y.1, ()), (), ())) y)
        else bif k == 3 then ((F76 r4).bind fun y => Sum.elim (fun y => (F75 y.1.1).bind fun z => bif !z.1.2.1 then some (((0, 0, 0, 0, ByteArray.empty, [], 0, 0, ()), 4, ()), (), ()) else (F54 y.2.1.1.1).bind fun u => Sum.elim (fun _ => some (((w, a, t, k, ByteArray.empty, [], z.1.1, 0, ()), 0, ()), (), ())) (fun v => some (((w, a, t, k, ByteArray.empty, [], z.1.1, 0, ()), v.1, ()), (), ())) u) (fun y => some (((w, a, t, k, ByteArray.empty, [], 0, 0, ()), y.1, ()), (), ())) y)
        else bif k == 5 then ((F68 63 r4).bind fun y => Sum.elim (fun y => (F54 y.2.1.1.1).bind fun u => Sum.elim (fun _ => some (((w, a, t, k, ByteArray.empty, [], 0, IntKind.wrap .i64 y.1.1, ()), 0, ()), (), ())) (fun v => some (((w, a, t, k, ByteArray.empty, [], 0, IntKind.wrap .i64 y.1.1, ()), v.1, ()), (), ())) u) (fun y => some (((w, a, t, k, ByteArray.empty, [], 0, 0, ()), y.1, ()), (), ())) y)
        else ((F54 r4).bind fun u => Sum.elim (fun _ => some (((w, a, t, k, ByteArray.empty, [], 0, 0, ()), 0, ()), (), ())) (fun v => some (((w, a, t, k, ByteArray.empty, [], 0, 0, ()), v.1, ()), (), ())) u)) := by
      rw [show (k == 1) = false from beq_eq_false_iff_ne.2 (by omega), show (k == 2) = false from beq_eq_false_iff_ne.2 (by omega), show (k == 3) = false from beq_eq_false_iff_ne.2 (by omega)]
      simp only [cond_false]
      by_cases c5 : k = 5
      · rw [show (k == 5) = true from beq_iff_eq.2 c5]
        simp only [cond_true]
        exact n_rd hb4 (fun n => (w, a, t, k, ByteArray.empty, [], 0, n, ())) _ (fun n n0 n1 hn => enc ByteArray.empty [] 0 (IntKind.wrap .i64 n) (by
          unfold encR
          rw [if_neg (by omega), if_neg (by omega), if_pos c5, w64 (by omega) (by omega), wu64 (by omega) (by omega), hn]) (by decide))
      · rw [show (k == 5) = false from beq_eq_false_iff_ne.2 c5]
        simp only [cond_false]
        exact done_rd _ (fun h _ => enc ByteArray.empty [] 0 0 (by unfold encR; rw [if_neg (by omega), if_neg (by omega), if_neg (by omega), h]) (by decide))
    by_cases g1 : k ≥ 1
    · rw [if_pos g1, if_neg (by omega)]
      exact key
    · rw [if_neg g1]
      exact key
/-- What is read is what was laid; or there is nothing. -/
theorem F39_any (s : List Int) (hb : Bys s) (hl : s.length < 2 ^ 62) : ∃ (x : Ev) (e : Int), F39 s = some ((x, e, ()), (), ()) ∧ ((e = 0 ∧ rgt x = 0 ∧ encE x = s ∧ EvW x) ∨ (e ≠ 0 ∧ x = (0, 0, 0, 0, ByteArray.empty, [], 0, 0, ()))) := by
  obtain ⟨x, e, h, h2⟩ := F61_any s hb hl
  unfold F39
  rw [h]
  simp only [Option.bind_some]
  by_cases e0 : e = 0
  · rw [show (e == 0) = true from beq_iff_eq.2 e0]
    simp only [cond_true]
    rw [show F25 _ = _ from F25_eq x]
    simp only [Option.bind_some]
    by_cases hr : rgt x = 0
    · rw [hr]
      exact ⟨x, 0, rfl, .inl ⟨rfl, hr, h2 e0 hr⟩⟩
    · rw [show (rgt x != 0) = true from bne_iff_ne.2 hr]
      exact ⟨_, rgt x, rfl, .inr ⟨hr, rfl⟩⟩
  · rw [show (e == 0) = false from beq_eq_false_iff_ne.2 e0, show (e != 0) = true from bne_iff_ne.2 e0]
    exact ⟨_, e, rfl, .inr ⟨e0, rfl⟩⟩
end Go.IM.V

/- Events: the law EventJunk. -/
set_option linter.unusedVariables false
set_option linter.unusedSimpArgs false
set_option linter.constructorNameAsVariable false
namespace Go.IM.V
open Go Go.IM Go.Proofs

theorem xor8 (a b : Int) : 0 ≤ iXor .u8 a b ∧ iXor .u8 a b < 256 := by
  unfold iXor
  rw [wu8_mod]
  omega
theorem turn_at' {n : Nat} (hn : 0 < n) {a : Int} (ha : 0 ≤ a ∧ a < 65536) : ∃ k : Nat, k < n ∧ (IntKind.wrap .i64 a).tmod (n : Int) = (k : Int) := by
  rw [w64 (by omega) (by omega), Int.tmod_eq_emod_of_nonneg ha.1]
  have h1 := Int.emod_nonneg a (show (n : Int) ≠ 0 by omega)
  have h2 := Int.emod_lt_of_pos a (show 0 < (n : Int) by omega)
  exact ⟨(a % n).toNat, by omega, by omega⟩
theorem encE_byte {e : Ev} (h : EvW e) (hx : Bys e.2.2.2.2.2.1) (hk : 0 ≤ e.2.2.2.1 ∧ e.2.2.2.1 < 256) (hl : e.2.2.2.2.2.1.length < 2 ^ 62) : Bys (encE e) := by
  obtain ⟨s0, s1, t0, t1, hks⟩ := h
  have kb := bytesL_byte e.2.2.2.2.1
  have kl := bytesL_len e.2.2.2.2.1
  unfold encE
  refine (((((dg_byte (by rw [wu64_mod]; omega) (by rw [wu64_mod]; omega)).app (dg_byte s0 s1)).app (dg_byte t0 t1)).app (fun x hx => by simp at hx; omega)).app ?_).app ?_
  · split
    · exact dgT_byte kb (by omega)
    · exact fun x hx => by cases hx
  · unfold encR
    split
    · exact dgT_byte hx (by omega)
    split
    · exact fixF_byte _ 8
    split
    · exact dg_byte (by rw [wu64_mod]; omega) (by rw [wu64_mod]; omega)
    · exact fun x hx => by cases hx
theorem encE_len (e : Ev) : 0 < (encE e).length ∧ (encE e).length ≤ 100 + e.2.2.2.2.1.size + e.2.2.2.2.2.1.length := by
  have h1 := dg_len (IntKind.wrap .u64 e.1)
  have h2 := dg_len e.2.1
  have h3 := dg_len e.2.2.1
  have h4 : (if 1 ≤ e.2.2.2.1 ∧ e.2.2.2.1 ≤ 4 then dgT (bytesL e.2.2.2.2.1) else []).length ≤ 10 + e.2.2.2.2.1.size := by
    split
    · have := dgT_len (bytesL e.2.2.2.2.1); rw [bytesL_len] at this; exact this
    · simp
  have h5 : (encR e.2.2.2.1 e.2.2.2.2.2.1 e.2.2.2.2.2.2.1 e.2.2.2.2.2.2.2.1).length ≤ 10 + e.2.2.2.2.2.1.length := by
    unfold encR
    split
    · exact dgT_len _
    split
    · rw [show (fix8 (qbits e.2.2.2.2.2.2.1)).length = 8 from fixF_len _ 8]; omega
    split
    · have := dg_len (IntKind.wrap .u64 e.2.2.2.2.2.2.2.1); omega
    · simp
  unfold encE
  simp only [List.length_append, List.length_cons, List.length_nil]
  omega
theorem L11_run (l : List (List Int)) (hb : ∀ s ∈ l, Bys s ∧ s.length < 2 ^ 62) (hlen : l.length < 2 ^ 62) : ∀ (d k : Nat), k + d = l.length → L11_7 l (l.length : Nat) (k : Nat) = some (.inr ((), (), ())) := by
  intro d
  induction d with
  | zero =>
    intro k hk
    rw [L11_7_eq]
    simp only [T11_7, cif]
    rw [if_neg (by omega)]
    rfl
  | succ d ih =>
    intro k hk
    have hw : IntKind.wrap .i64 ((k : Int) + 1) = ((k + 1 : Nat) : Int) := by rw [w64 (by omega) (by omega)]; omega
    have hs := hb (l.getD k []) (by rw [List.getD_eq_getElem?_getD, List.getElem?_eq_getElem (by omega)]; exact List.getElem_mem _)
    obtain ⟨x, e, h1, h2⟩ := F39_any _ hs.1 hs.2
    rw [L11_7_eq]
    simp only [T11_7, cif]
    rw [if_pos (by omega), if_pos (by omega), Int.toNat_natCast, h1]
    simp only [Option.bind_some, hw]
    rcases h2 with ⟨rfl, hr, he, hx⟩ | ⟨he, rfl⟩
    · have ok := hx.ok hr
      have k1 := rgt_kind hr
      rw [show F38 _ = _ from F38_eq x ok k1, show F26 _ = _ from F26_eq x, he, hr]
      simp only [Option.bind_some, beq_self_eq_true, cond_true, Bool.not_true, cond_false, bne_self_eq_false, Sum.elim_inl]
      exact ih (k + 1) (by omega)
    · rw [show (e == 0) = false from beq_eq_false_iff_ne.2 he, show (e != 0) = true from bne_iff_ne.2 he]
      rw [show (⟨#[]⟩ : ByteArray) = ByteArray.empty from rfl]
      simp only [Option.bind_some, beq_self_eq_true, cond_true, Bool.not_true, cond_false, bne_self_eq_false, Sum.elim_inl]
      exact ih (k + 1) (by omega)
theorem eventJunk_pure (p : List Int) (e : Ev) (at' turn cut : Int) (hp : Bys p) (hs : 0 ≤ e.2.1 ∧ e.2.1 < 18446744073709551616) (ht : 0 ≤ e.2.2.1 ∧ e.2.2.1 < 18446744073709551616)
    (hk : 0 ≤ e.2.2.2.1 ∧ e.2.2.2.1 < 256) (hx : Bys e.2.2.2.2.2.1) (ha : 0 ≤ at' ∧ at' < 65536) (hc : 0 ≤ cut ∧ cut < 65536) : F11 p e at' turn cut = some (r1 true) := by
  unfold F11
  rw [F23_eq]
  simp only [Option.bind_some, Bool.not_true, cond_false]
  rw [cif]
  split
  · rfl
  rename_i l0
  rw [cif]
  split
  · rfl
  rename_i l1
  rw [cif]
  split
  · rfl
  rename_i l2
  rw [show F24 _ 255 = _ from F24_eq e 255]
  have hW : EvW e := ⟨hs.1, hs.2, ht.1, ht.2, by omega⟩
  have nW := near_ok e 255 hW
  have nx : (near e 255).2.2.2.2.2.1 = e.2.2.2.2.2.1 := rfl
  have nk : 1 ≤ (near e 255).2.2.2.1 ∧ (near e 255).2.2.2.1 ≤ 6 := by
    show 1 ≤ IntKind.wrap .u8 (1 + e.2.2.2.1.tmod 6) ∧ IntKind.wrap .u8 (1 + e.2.2.2.1.tmod 6) ≤ 6
    rw [wu8_mod, Int.tmod_eq_emod_of_nonneg hk.1]
    omega
  have nkey : (near e 255).2.2.2.2.1.size ≤ 64 := by
    show (if e.2.2.2.2.1.size = 0 then (⟨#[107]⟩ : ByteArray) else e.2.2.2.2.1).size ≤ 64
    split
    · decide
    · omega
  have ok : EvOK (near e 255) := ⟨nW.s0, nW.s1, nW.t0, nW.t1, nW.key, fun _ => by rw [nx]; omega⟩
  have bb := encE_byte nW (by rw [nx]; exact hx) ⟨by omega, by omega⟩ (by rw [nx]; omega)
  obtain ⟨len0, len1⟩ := encE_len (near e 255)
  rw [nx] at len1
  simp only [Option.bind_some]
  generalize near e 255 = x at *
  rw [show F38 _ = _ from F38_eq x ok nk.1]
  obtain ⟨i, hi, ei⟩ := turn_at' len0 ha
  obtain ⟨k, hk', ek⟩ := turn_at' (n := (encE x).length + 1) (by omega) hc
  have hlim : lim = 1099511627776 := rfl
  have hw : IntKind.wrap .i64 ((((encE x).length : Nat) : Int) + 1) = (((encE x).length + 1 : Nat) : Int) := by rw [w64 (by omega) (by omega)]; omega
  simp only [Option.bind_some, hw, ei, ek, Int.toNat_natCast, cif]
  rw [if_pos (by omega), if_pos (by omega), if_pos (by omega), if_pos (by omega), if_pos (by omega), if_pos (by omega), if_pos (by omega), if_pos (by omega), if_pos (by omega)]
  have := L11_run [p, (encE x).set i (iXor .u8 ((encE x).getD i 0) turn), (encE x).take k] (fun s h => by
    simp only [List.mem_cons, List.not_mem_nil, or_false] at h
    rcases h with rfl | rfl | rfl
    · exact ⟨hp, by omega⟩
    · refine ⟨fun y hy => ?_, by rw [List.length_set]; omega⟩
      rcases List.mem_or_eq_of_mem_set hy with hy | rfl
      · exact bb y hy
      · exact xor8 _ _
    · exact ⟨bb.take k, by rw [List.length_take]; omega⟩) (by simp) 3 0 rfl
  rw [show ((0 : Nat) : Int) = 0 from rfl] at this
  rw [this]
  rfl
end Go.IM.V
