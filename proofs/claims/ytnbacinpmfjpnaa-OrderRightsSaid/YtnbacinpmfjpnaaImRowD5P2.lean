/- What the code of a law comes to, and what that tells: part 2. Lemmas alone; no conditions. -/
import Derived.Test.YtnbacinpmfjpnaaImRowD5P1
set_option linter.unusedVariables false
set_option linter.unusedSimpArgs false
set_option linter.constructorNameAsVariable false
namespace Go.IM.V
open Go Go.IM Go.Proofs
abbrev LL : Type := List (List DEv)
abbrev dv0 : DEv := ((0 : Int), ((0 : Int), ((0 : Int), ((0 : Int), (ByteArray.empty, ([], ((0 : Nat), ((0 : Int), ()))))))))
abbrev Pl : Type := Int × (Int × Unit)
def pl (e : DEv) : Pl := (e.2.2.1, (e.1, ()))
def kl (a b : Pl) : Bool := decide (a.1 < b.1) || (a.1 == b.1 && decide (a.2.1 < b.2.1))
theorem kl_iff {a b : Pl} : kl a b = true ↔ a.1 < b.1 ∨ (a.1 = b.1 ∧ a.2.1 < b.2.1) := by simp [kl]
theorem kl_not {a b : Pl} : kl a b = false ↔ b.1 < a.1 ∨ (a.1 = b.1 ∧ b.2.1 ≤ a.2.1) := by
  rw [← Bool.not_eq_true, kl_iff]; omega
def hp (xs : LL) (k : Nat) : Pl := pl ((xs.getD k []).getD 0 dv0)
theorem F25_eq (e : DEv) : F25 e = some ((((pl e).1, ((pl e).2.1, ())), ()), (), ()) := rfl
theorem F13_eq (e : DEv) : F13 e = some (((pl e), ()), (), ()) := rfl
theorem bneSelf (a : Int) : ((a : Int) != a) = false := by simp
theorem F35_eq (a b : Int) : F35 a b = some (((if a < b then -1 else if a > b then 1 else 0), ()), (), ()) := by
  unfold F35 F42
  simp only [bneSelf, Option.bind_some, cond_false, cif]
  split
  · rfl
  · split <;> rfl
theorem F36_eq (a b : Int) : F36 a b = some (((if a < b then -1 else if a > b then 1 else 0), ()), (), ()) := by
  unfold F36 F43
  simp only [bneSelf, Option.bind_some, cond_false, cif]
  split
  · rfl
  · split <;> rfl
theorem F34_eq (a b : Int) : F34 [a, b] = some (((if a ≠ 0 then a else b), ()), (), ()) := by
  unfold F34
  rw [L34_3_eq]; unfold T34_3
  rw [show decide ((0 : Int) < ((([a, b] : List Int).length : Nat) : Int)) = true from rfl, show decide (0 ≤ (0 : Int) ∧ (0 : Int) < ((([a, b] : List Int).length : Nat) : Int)) = true from rfl]
  simp only [cond_true, show (([a, b] : List Int).getD (0 : Int).toNat 0) = a from rfl]
  by_cases h : a = 0
  · subst h
    simp only [show ((0 : Int) != 0) = false from rfl, cond_false, Option.bind_some, Sum.elim_inl, show IntKind.wrap .i64 (0 + 1) = 1 from rfl]
    rw [L34_3_eq]; unfold T34_3
    rw [show decide ((1 : Int) < ((([0, b] : List Int).length : Nat) : Int)) = true from rfl, show decide (0 ≤ (1 : Int) ∧ (1 : Int) < ((([0, b] : List Int).length : Nat) : Int)) = true from rfl]
    simp only [cond_true, show (([0, b] : List Int).getD (1 : Int).toNat 0) = b from rfl]
    by_cases h2 : b = 0
    · subst h2
      simp only [show ((0 : Int) != 0) = false from rfl, cond_false, Option.bind_some, Sum.elim_inl, show IntKind.wrap .i64 (1 + 1) = 2 from rfl]
      rw [L34_3_eq]; unfold T34_3
      rw [show decide ((2 : Int) < ((([0, 0] : List Int).length : Nat) : Int)) = false from rfl]
      rfl
    · rw [show (b != 0) = true from bne_iff_ne.2 h2]
      rfl
  · rw [show (a != 0) = true from bne_iff_ne.2 h]
    simp only [cond_true, Option.bind_some, Sum.elim_inr, Sum.elim_inl]
    rw [if_pos h]
def cmpI (a b : Pl) : Int := if kl a b then -1 else if kl b a then 1 else 0
theorem F24_eq (a b : Pl) : F24 a b = some ((cmpI a b, ()), (), ()) := by
  unfold F24
  rw [F35_eq, F36_eq]
  simp only [Option.bind_some]
  rw [F34_eq]
  simp only [Option.bind_some]
  have : (if (if a.1 < b.1 then (-1 : Int) else if a.1 > b.1 then 1 else 0) ≠ 0 then (if a.1 < b.1 then (-1 : Int) else if a.1 > b.1 then 1 else 0) else (if a.2.1 < b.2.1 then (-1 : Int) else if a.2.1 > b.2.1 then 1 else 0)) = cmpI a b := by
    unfold cmpI
    simp only [kl_iff]
    repeat' split
    all_goals omega
  rw [this]
theorem cmp_lt (a b : Pl) : decide (cmpI a b < 0) = kl a b := by
  unfold cmpI
  cases h : kl a b
  · simp only [Bool.false_eq_true, if_false]
    split <;> rfl
  · rfl
theorem kl_asym {a b : Pl} (h : kl a b = true) : kl b a = false := by rw [kl_iff] at h; rw [kl_not]; omega
theorem cmp_le (a b : Pl) : decide (cmpI a b ≤ 0) = !kl b a := by
  unfold cmpI
  cases h : kl a b
  · simp only [Bool.false_eq_true, if_false]
    cases h2 : kl b a <;> rfl
  · rw [kl_asym h]; rfl
theorem F12_eq (a b : Pl) : F12 a b = some ((kl a b, ()), (), ()) := by
  unfold F12 kl
  rw [cif]
  by_cases h : a.1 < b.1
  · simp [h]
  · simp only [h, if_false, decide_false, Bool.false_or]
    cases h2 : a.1 == b.1 <;> simp
theorem F63_eq (n : Nat) (i j : Nat) (xs : LL) (hi : i < n) (hj : j < n) (hn : n ≤ xs.length) (hne : ∀ k, k < n → xs.getD k [] ≠ []) :
    F63 (n : Nat) (i : Nat) (j : Nat) xs = some ((kl (hp xs i) (hp xs j), ()), ((xs, ()), ()), ()) := by
  have li := List.length_pos_iff.2 (hne i hi)
  have lj := List.length_pos_iff.2 (hne j hj)
  unfold F63
  have z : ∀ k : Nat, (((0 : Nat) : Int) + (k : Int)).toNat = k := fun k => by omega
  simp only [z, Int.toNat_natCast]
  rw [decide_eq_true (show 0 ≤ (i : Int) ∧ (i : Int) < (n : Int) by omega), decide_eq_true (show i < xs.length by omega), decide_eq_true (show 0 ≤ (0 : Int) ∧ (0 : Int) < (((xs.getD i []).length : Nat) : Int) by omega)]
  rw [decide_eq_true (show 0 ≤ (j : Int) ∧ (j : Int) < (n : Int) by omega), decide_eq_true (show j < xs.length by omega), decide_eq_true (show 0 ≤ (0 : Int) ∧ (0 : Int) < (((xs.getD j []).length : Nat) : Int) by omega)]
  simp only [cond_true, F25_eq, Option.bind_some]
  rw [F24_eq]
  simp only [Option.bind_some]
  rw [cmp_lt]
  rfl
def sw (i j : Nat) (xs : LL) : LL := (xs.set i (xs.getD j [])).set j (xs.getD i [])
theorem F64_eq (n : Nat) (i j : Nat) (xs : LL) (hi : i < n) (hj : j < n) (hn : n ≤ xs.length) :
    F64 (n : Nat) (i : Nat) (j : Nat) xs = some ((), ((sw i j xs, ()), ()), ()) := by
  unfold F64
  have z : ∀ k : Nat, (((0 : Nat) : Int) + (k : Int)).toNat = k := fun k => by omega
  simp only [z, Int.toNat_natCast]
  rw [decide_eq_true (show 0 ≤ (i : Int) ∧ (i : Int) < (n : Int) by omega), decide_eq_true (show i < xs.length by omega)]
  rw [decide_eq_true (show 0 ≤ (j : Int) ∧ (j : Int) < (n : Int) by omega), decide_eq_true (show j < xs.length by omega), decide_eq_true (show j < (xs.set i (xs.getD j [])).length by rw [List.length_set]; omega)]
  rfl
theorem sw_len (i j : Nat) (xs : LL) : (sw i j xs).length = xs.length := by simp [sw]
theorem setD {α : Type} {xs : List α} {n k : Nat} {r d : α} (h : n < xs.length) : (xs.set n r).getD k d = if k = n then r else xs.getD k d := by
  rw [List.getD_eq_getElem?_getD, List.getElem?_set]
  by_cases e : n = k
  · subst e; simp [h]
  · rw [if_neg e, if_neg (Ne.symm e), ← List.getD_eq_getElem?_getD]
theorem sw_get {i j : Nat} {xs : LL} (hi : i < xs.length) (hj : j < xs.length) (k : Nat) :
    (sw i j xs).getD k [] = if k = j then xs.getD i [] else if k = i then xs.getD j [] else xs.getD k [] := by
  unfold sw
  rw [setD (by rw [List.length_set]; exact hj), setD hi]
theorem getD_get {α : Type} {xs : List α} {k : Nat} (h : k < xs.length) (d : α) : xs.getD k d = xs[k] := by
  rw [List.getD_eq_getElem?_getD, List.getElem?_eq_getElem h]; rfl
theorem sw_perm {i j : Nat} {xs : LL} (hi : i < xs.length) (hj : j < xs.length) : (sw i j xs).Perm xs := by
  have h := Array.swap_perm (xs := xs.toArray) (i := i) (j := j) hi hj
  rw [Array.perm_iff_toList_perm] at h
  have e : (xs.toArray.swap i j hi hj).toList = sw i j xs := by
    unfold sw
    rw [getD_get hi, getD_get hj]
    simp [Array.swap_def]
  rw [e] at h
  simpa using h
theorem sw_take {n i j : Nat} {xs : LL} (hi : i < n) (hj : j < n) (hn : n ≤ xs.length) : ((sw i j xs).take n).Perm (xs.take n) := by
  have e : (sw i j xs).take n = sw i j (xs.take n) := by
    unfold sw
    rw [List.take_set, List.take_set]
    have g : ∀ k, k < n → (xs.take n).getD k [] = xs.getD k [] := fun k hk => by
      rw [List.getD_eq_getElem?_getD, List.getElem?_take_of_lt hk, ← List.getD_eq_getElem?_getD]
    rw [g i hi, g j hj]
  rw [e]
  exact sw_perm (by rw [List.length_take]; omega) (by rw [List.length_take]; omega)
def Ch (p c : Nat) : Prop := c = 2 * p + 1 ∨ c = 2 * p + 2
def Hf (s n : Nat) (xs : LL) : Prop := ∀ p c, s ≤ p → Ch p c → c < n → kl (hp xs c) (hp xs p) = false
def Sf (s n i : Nat) (xs : LL) : Prop := (∀ p c, s ≤ p → p ≠ i → Ch p c → c < n → kl (hp xs c) (hp xs p) = false) ∧
  ∀ p c, s ≤ p → Ch p i → Ch i c → c < n → kl (hp xs c) (hp xs p) = false
theorem kl_trans {a b c : Pl} (h : kl b a = false) (h2 : kl c b = false) : kl c a = false := by
  rw [kl_not] at *; omega
theorem hp_sw {i j : Nat} {xs : LL} (hi : i < xs.length) (hj : j < xs.length) (k : Nat) :
    hp (sw i j xs) k = if k = j then hp xs i else if k = i then hp xs j else hp xs k := by
  unfold hp
  rw [sw_get hi hj]
  split
  · rfl
  split <;> rfl
theorem Sf.done {s n i : Nat} {xs : LL} (h : Sf s n i xs) (hc : ∀ c, Ch i c → c < n → kl (hp xs c) (hp xs i) = false) : Hf s n xs := by
  intro p c hp1 hch hcn
  by_cases e : p = i
  · subst e; exact hc c hch hcn
  · exact h.1 p c hp1 e hch hcn
theorem Sf.down {s n i j : Nat} {xs : LL} (h : Sf s n i xs) (hn : n ≤ xs.length) (hj : j < n) (hij : Ch i j) (hl : kl (hp xs j) (hp xs i) = true)
    (hm : ∀ c, Ch i c → c < n → kl (hp xs c) (hp xs j) = false) (hs : s ≤ i) : Sf s n j (sw i j xs) := by
  have hi : i < j := by unfold Ch at hij; omega
  have g := hp_sw (i := i) (j := j) (xs := xs) (by omega) (by omega)
  refine ⟨fun p c h1 h2 h3 h4 => ?_, fun p c h1 h2 h3 h4 => ?_⟩
  · have hpc : p < c := by unfold Ch at h3; omega
    rw [g c, g p, if_neg h2]
    by_cases e : p = i
    · subst e
      rw [if_pos rfl]
      by_cases e2 : c = j
      · rw [if_pos e2]; exact kl_asym hl
      · rw [if_neg e2, if_neg (by omega)]; exact hm c h3 h4
    · rw [if_neg e]
      by_cases e2 : c = j
      · exfalso; subst e2; unfold Ch at h3 hij; omega
      · rw [if_neg e2]
        by_cases e3 : c = i
        · subst e3; rw [if_pos rfl]; exact h.2 p j h1 h3 hij hj
        · rw [if_neg e3]; exact h.1 p c h1 e h3 h4
  · have e : p = i := by unfold Ch at h2 hij; omega
    subst e
    have hpc : j < c := by unfold Ch at h3; omega
    rw [g c, g p, if_neg (by omega), if_neg (by omega), if_neg (by omega), if_pos rfl]
    exact h.1 j c (by omega) (by omega) h3 h4
theorem wz {n : Int} (h0 : -4611686018427387904 ≤ n) (h1 : n ≤ 4611686018427387904) : IntKind.wrap .i64 n = n := w64 (by omega) (by omega)
structure Sifted (s n' n i : Nat) (xs : LL) (i' : Nat) (xs' : LL) : Prop where
  le : i ≤ i'
  len : xs'.length = xs.length
  same : ∀ k, n' ≤ k → xs'.getD k [] = xs.getD k []
  perm : ∀ m, n' ≤ m → m ≤ n → (xs'.take m).Perm (xs.take m)
  ne : ∀ k, k < n → xs'.getD k [] ≠ []
  heap : s ≤ i → Sf s n' i xs → Hf s n' xs'
theorem L33_run (i0 : Int) (n' n : Nat) (hnn : n' ≤ n) (hb : n ≤ 1000000) : ∀ (d i : Nat) (xs : LL), n' ≤ i + d → i ≤ n → n ≤ xs.length → (∀ k, k < n → xs.getD k [] ≠ []) →
    ∃ (i' : Nat) (xs' : LL), L33_2 i0 (n' : Nat) (i : Nat) (n : Nat) xs = some ((((i' : Nat) : Int), ()), ((((n : Nat) : Int), ()), (xs', ()), ()), ()) ∧ ∀ s, Sifted s n' n i xs i' xs' := by
  intro d
  induction d with
  | zero =>
    intro i xs hd hin hlen hne
    refine ⟨i, xs, ?_, fun s => ⟨Nat.le_refl _, rfl, fun _ _ => rfl, fun _ _ _ => .refl _, hne, fun _ h => h.done fun c hc hcn => by unfold Ch at hc; omega⟩⟩
    rw [L33_2_eq]; unfold T33_2
    rw [wz (n := 2 * (i : Int)) (by omega) (by omega), wz (n := 2 * (i : Int) + 1) (by omega) (by omega), decide_eq_true (show 2 * (i : Int) + 1 ≥ (n' : Int) by omega)]
    simp only [cond_true, Option.bind_some, Sum.elim_inr, Int.toNat_natCast]
  | succ d ih =>
    intro i xs hd hin hlen hne
    rw [L33_2_eq]; unfold T33_2
    rw [wz (n := 2 * (i : Int)) (by omega) (by omega), wz (n := 2 * (i : Int) + 1) (by omega) (by omega), wz (n := 2 * (i : Int) + 1 + 1) (by omega) (by omega)]
    by_cases h1 : n' ≤ 2 * i + 1
    · rw [decide_eq_true (show 2 * (i : Int) + 1 ≥ (n' : Int) by omega)]
      refine ⟨i, xs, ?_, fun s => ⟨Nat.le_refl _, rfl, fun _ _ => rfl, fun _ _ _ => .refl _, hne, fun _ h => h.done fun c hc hcn => by unfold Ch at hc; omega⟩⟩
      simp only [cond_true, Option.bind_some, Sum.elim_inr, Int.toNat_natCast]
    · rw [decide_eq_false (show ¬ 2 * (i : Int) + 1 ≥ (n' : Int) by omega), decide_eq_false (show ¬ 2 * (i : Int) + 1 < 0 by omega)]
      simp only [cond_false, Int.toNat_natCast]
      rw [show (2 * (i : Int) + 1 + 1) = ((2 * i + 2 : Nat) : Int) by omega, show (2 * (i : Int) + 1) = ((2 * i + 1 : Nat) : Int) by omega]
      have stop : ∀ j, Ch i j → (∀ c, Ch i c → c < n' → kl (hp xs c) (hp xs j) = false) → kl (hp xs j) (hp xs i) = false →
          ∀ s, Sifted s n' n i xs i xs := fun j hj hm hk s =>
        ⟨Nat.le_refl _, rfl, fun _ _ => rfl, fun _ _ _ => .refl _, hne, fun _ h => h.done fun c hc hcn => kl_trans hk (hm c hc hcn)⟩
      have go : ∀ j, j < n' → Ch i j → (∀ c, Ch i c → c < n' → kl (hp xs c) (hp xs j) = false) → kl (hp xs j) (hp xs i) = true →
          ∃ (i' : Nat) (xs' : LL), L33_2 i0 (n' : Nat) (j : Nat) (n : Nat) (sw i j xs) = some ((((i' : Nat) : Int), ()), ((((n : Nat) : Int), ()), (xs', ()), ()), ()) ∧ ∀ s, Sifted s n' n i xs i' xs' := by
        intro j hj hch hm hk
        have hij : i < j := by unfold Ch at hch; omega
        have hne' : ∀ k, k < n → (sw i j xs).getD k [] ≠ [] := by
          intro k hk
          rw [sw_get (by omega) (by omega)]
          split
          · exact hne i (by omega)
          split
          · exact hne j (by omega)
          · exact hne k hk
        obtain ⟨i', xs', e, hs⟩ := ih j (sw i j xs) (by omega) (by omega) (by rw [sw_len]; exact hlen) hne'
        refine ⟨i', xs', e, fun s => ?_⟩
        have q := hs s
        refine ⟨by have := q.le; omega, by rw [q.len, sw_len], fun k hk' => ?_, fun m hm1 hm2 => (q.perm m hm1 hm2).trans (sw_take (by omega) (by omega) (by omega)), q.ne, fun hsi h => q.heap (by omega) (h.down (by omega) hj hch hk hm hsi)⟩
        rw [q.same k hk', sw_get (by omega) (by omega), if_neg (by omega), if_neg (by omega)]
      have irr : ∀ a : Pl, kl a a = false := fun a => by rw [kl_not]; omega
      have h2i : 2 * i + 1 < n' := by omega
      by_cases h2 : 2 * i + 2 < n'
      · rw [decide_eq_true (show ((2 * i + 2 : Nat) : Int) < (n' : Int) by omega)]
        simp only [cond_true]
        rw [F63_eq n (2 * i + 2) (2 * i + 1) xs (by omega) (by omega) hlen hne]
        simp only [Option.bind_some]
        cases hc : kl (hp xs (2 * i + 2)) (hp xs (2 * i + 1)) with
        | true =>
          simp only [cond_true]
          have hm : ∀ c, Ch i c → c < n' → kl (hp xs c) (hp xs (2 * i + 2)) = false := by
            intro c hch _
            rcases hch with rfl | rfl
            · exact kl_asym hc
            · exact irr _
          rw [F63_eq n (2 * i + 2) i xs (by omega) (by omega) hlen hne]
          simp only [Option.bind_some]
          cases hk : kl (hp xs (2 * i + 2)) (hp xs i) with
          | false =>
            simp only [Bool.not_false, cond_true, Option.bind_some, Sum.elim_inr]
            exact ⟨i, xs, rfl, stop _ (.inr rfl) hm hk⟩
          | true =>
            simp only [Bool.not_true, cond_false]
            rw [F64_eq n i (2 * i + 2) xs (by omega) (by omega) hlen]
            simp only [Option.bind_some, Sum.elim_inl]
            exact go _ h2 (.inr rfl) hm hk
        | false =>
          simp only [cond_false]
          have hm : ∀ c, Ch i c → c < n' → kl (hp xs c) (hp xs (2 * i + 1)) = false := by
            intro c hch _
            rcases hch with rfl | rfl
            · exact irr _
            · exact hc
          rw [F63_eq n (2 * i + 1) i xs (by omega) (by omega) hlen hne]
          simp only [Option.bind_some]
          cases hk : kl (hp xs (2 * i + 1)) (hp xs i) with
          | false =>
            simp only [Bool.not_false, cond_true, Option.bind_some, Sum.elim_inr]
            exact ⟨i, xs, rfl, stop _ (.inl rfl) hm hk⟩
          | true =>
            simp only [Bool.not_true, cond_false]
            rw [F64_eq n i (2 * i + 1) xs (by omega) (by omega) hlen]
            simp only [Option.bind_some, Sum.elim_inl]
            exact go _ h2i (.inl rfl) hm hk
      · rw [decide_eq_false (show ¬ ((2 * i + 2 : Nat) : Int) < (n' : Int) by omega)]
        simp only [cond_false]
        have hm : ∀ c, Ch i c → c < n' → kl (hp xs c) (hp xs (2 * i + 1)) = false := by
          intro c hch hcn
          rcases hch with rfl | rfl
          · exact irr _
          · omega
        rw [F63_eq n (2 * i + 1) i xs (by omega) (by omega) hlen hne]
        simp only [Option.bind_some]
        cases hk : kl (hp xs (2 * i + 1)) (hp xs i) with
        | false =>
          simp only [Bool.not_false, cond_true, Option.bind_some, Sum.elim_inr]
          exact ⟨i, xs, rfl, stop _ (.inl rfl) hm hk⟩
        | true =>
          simp only [Bool.not_true, cond_false]
          rw [F64_eq n i (2 * i + 1) xs (by omega) (by omega) hlen]
          simp only [Option.bind_some, Sum.elim_inl]
          exact go _ h2i (.inl rfl) hm hk
end Go.IM.V
namespace Go.IM.V
open Go Go.IM Go.Proofs
def Er (a b : DEv) : Prop := kl (pl a) (pl b) = true
structure Cur (n : Nat) (xs : LL) (ys : List DEv) : Prop where
  nb : n ≤ 1000000
  len : n ≤ xs.length
  ne : ∀ k, k < n → xs.getD k [] ≠ []
  heap : Hf 0 n xs
  srt : ∀ q, q ∈ xs.take n → q.Pairwise Er
  ysrt : ys.Pairwise Er
  perm : ((xs.take n).flatten).Perm ys
theorem Hf.root {n : Nat} {xs : LL} (h : Hf 0 n xs) : ∀ k, k < n → kl (hp xs k) (hp xs 0) = false := by
  intro k
  induction k using Nat.strongRecOn with
  | ind k ih =>
    intro hk
    by_cases e : k = 0
    · subst e; rw [kl_not]; omega
    · have h1 := ih ((k - 1) / 2) (by omega) (by omega)
      have h2 := h ((k - 1) / 2) k (Nat.zero_le _) (by unfold Ch; omega) hk
      exact kl_trans h1 h2
theorem F62_eq (n : Nat) (xs : LL) : F62 (n : Nat) xs = some ((((n : Nat) : Int), ()), ((xs, ()), ()), ()) := rfl
theorem F33_eq (n' n i : Nat) (xs : LL) (hnn : n' ≤ n) (hb : n ≤ 1000000) (hi : i ≤ n) (hl : n ≤ xs.length) (hne : ∀ k, k < n → xs.getD k [] ≠ []) :
    ∃ (i' : Nat) (xs' : LL), F33 (i : Nat) (n' : Nat) (n : Nat) xs = some ((decide ((i' : Int) > (i : Int)), ()), ((((n : Nat) : Int), ()), (xs', ()), ()), ()) ∧ ∀ s, Sifted s n' n i xs i' xs' := by
  obtain ⟨i', xs', h, hs⟩ := L33_run (i : Nat) n' n hnn hb n' i xs (by omega) hi hl hne
  refine ⟨i', xs', ?_, hs⟩
  unfold F33
  rw [Int.toNat_natCast, h]
  simp only [Option.bind_some, Int.toNat_natCast]
theorem F37_0 (n : Nat) (xs : LL) : F37 0 (n : Nat) xs = some ((), ((((n : Nat) : Int), ()), (xs, ()), ()), ()) := by
  unfold F37
  rw [Int.toNat_natCast, L37_0_eq]; unfold T37_0
  rw [show (IntKind.wrap .i64 (((IntKind.wrap .i64 ((0 : Int) - 1)) : Int).tdiv 2) == 0) = true from rfl]
  simp only [cond_true, Option.bind_some, Sum.elim_inr, Int.toNat_natCast]
theorem F26_eq (n : Nat) (xs : LL) (hb : n ≤ 1000000) (hl : n ≤ xs.length) (hne : ∀ k, k < n → xs.getD k [] ≠ []) :
    ∃ (i' : Nat) (xs' : LL), F26 0 (n : Nat) xs = some ((), ((((n : Nat) : Int), ()), (xs', ()), ()), ()) ∧ Sifted 0 n n 0 xs i' xs' := by
  obtain ⟨i', xs', h, hs⟩ := F33_eq n n 0 xs (Nat.le_refl _) hb (Nat.zero_le _) hl hne
  refine ⟨i', xs', ?_, hs 0⟩
  unfold F26
  rw [Int.toNat_natCast, F62_eq]
  simp only [Option.bind_some]
  rw [show F33 0 (n : Nat) (n : Nat) xs = _ from h]
  simp only [Option.bind_some, Int.toNat_natCast]
  rw [F37_0]
  simp only [Option.bind_some, Int.toNat_natCast]
  cases decide ((i' : Int) > ((0 : Nat) : Int)) <;> rfl
theorem F27_eq (n : Nat) (xs : LL) (h0 : 0 < n) (hb : n ≤ 1000000) (hl : n ≤ xs.length) (hne : ∀ k, k < n → xs.getD k [] ≠ []) :
    ∃ (i' : Nat) (xs' : LL), F27 (n : Nat) xs = some (((), ()), ((((n - 1 : Nat) : Int), ()), (xs', ()), ()), ()) ∧ Sifted 0 (n - 1) n 0 (sw 0 (n - 1) xs) i' xs' := by
  have hne' : ∀ k, k < n → (sw 0 (n - 1) xs).getD k [] ≠ [] := by
    intro k hk
    rw [sw_get (by omega) (by omega)]
    split
    · exact hne 0 (by omega)
    split
    · exact hne (n - 1) (by omega)
    · exact hne k hk
  obtain ⟨i', xs', h, hs⟩ := F33_eq (n - 1) n 0 (sw 0 (n - 1) xs) (by omega) hb (Nat.zero_le _) (by rw [sw_len]; exact hl) hne'
  refine ⟨i', xs', ?_, hs 0⟩
  have q := hs 0
  unfold F27
  rw [Int.toNat_natCast, F62_eq]
  simp only [Option.bind_some]
  rw [wz (n := (n : Int) - 1) (by omega) (by omega), show ((n : Int) - 1) = ((n - 1 : Nat) : Int) by omega]
  rw [show F64 (n : Nat) 0 ((n - 1 : Nat) : Int) xs = _ from F64_eq n 0 (n - 1) xs h0 (by omega) hl]
  simp only [Option.bind_some]
  rw [show F33 0 ((n - 1 : Nat) : Int) (n : Nat) (sw 0 (n - 1) xs) = _ from h]
  simp only [Option.bind_some, Int.toNat_natCast]
  have e : F65 (n : Nat) xs' = some (((), ()), ((((n - 1 : Nat) : Int), ()), (xs', ()), ()), ()) := by
    unfold F65
    have hw : IntKind.wrap .i64 ((n : Int) - 1) = ((n - 1 : Nat) : Int) := by rw [wz (by omega) (by omega)]; omega
    rw [Int.toNat_natCast, hw]
    rw [decide_eq_true (show 0 ≤ ((n - 1 : Nat) : Int) ∧ ((n - 1 : Nat) : Int) < (n : Int) by omega)]
    rw [decide_eq_true (show (((0 : Nat) : Int) + ((n - 1 : Nat) : Int)).toNat < xs'.length by rw [q.len, sw_len]; omega)]
    rw [decide_eq_true (show 0 ≤ ((n - 1 : Nat) : Int) ∧ ((n - 1 : Nat) : Int) ≤ (n : Int) by omega)]
    simp only [cond_true, Int.toNat_natCast, Nat.sub_zero]
  rw [e]
  simp only [Option.bind_some, Int.toNat_natCast]
theorem L23_run (n : Nat) (hb : n ≤ 1000000) : ∀ (m : Nat) (xs : LL), 2 * m ≤ n → n ≤ xs.length → (∀ k, k < n → xs.getD k [] ≠ []) → Hf m n xs →
    ∃ xs' : LL, L23_2 (n : Nat) ((m : Int) - 1) (n : Nat) xs = some ((), ((((n : Nat) : Int), ()), (xs', ()), ()), ()) ∧ xs'.length = xs.length ∧ (xs'.take n).Perm (xs.take n) ∧ (∀ k, k < n → xs'.getD k [] ≠ []) ∧ Hf 0 n xs' := by
  intro m
  induction m with
  | zero =>
    intro xs _ hl hne h
    refine ⟨xs, ?_, rfl, .refl _, hne, h⟩
    rw [L23_2_eq]; unfold T23_2
    rw [decide_eq_false (by omega)]
    simp only [cond_false, Option.bind_some, Sum.elim_inr, Int.toNat_natCast]
  | succ m ih =>
    intro xs hm hl hne h
    rw [L23_2_eq]; unfold T23_2
    rw [decide_eq_true (by omega), Int.toNat_natCast, show (((m + 1 : Nat) : Int) - 1) = (m : Int) by omega]
    simp only [cond_true]
    obtain ⟨i', xs', e, hs⟩ := F33_eq n n m xs (Nat.le_refl _) hb (by omega) hl hne
    have q := hs m
    rw [e]
    simp only [Option.bind_some, Sum.elim_inl, Int.toNat_natCast]
    rw [wz (n := (m : Int) - 1) (by omega) (by omega)]
    have hf := q.heap (Nat.le_refl _) ⟨fun p c h1 h2 h3 h4 => h p c (by omega) h3 h4, fun p c h1 h2 h3 h4 => by unfold Ch at h2; omega⟩
    obtain ⟨xs2, e2, l2, p2, n2, h2⟩ := ih xs' (by omega) (by rw [q.len]; exact hl) q.ne hf
    exact ⟨xs2, e2, by rw [l2, q.len], p2.trans (q.perm n (Nat.le_refl _) (Nat.le_refl _)), n2, h2⟩
theorem F23_eq (n : Nat) (xs : LL) (hb : n ≤ 1000000) (hl : n ≤ xs.length) (hne : ∀ k, k < n → xs.getD k [] ≠ []) :
    ∃ xs' : LL, F23 (n : Nat) xs = some ((), ((((n : Nat) : Int), ()), (xs', ()), ()), ()) ∧ xs'.length = xs.length ∧ (xs'.take n).Perm (xs.take n) ∧ (∀ k, k < n → xs'.getD k [] ≠ []) ∧ Hf 0 n xs' := by
  obtain ⟨xs', e, r⟩ := L23_run n hb (n / 2) xs (by omega) hl hne (fun p c h1 h2 h3 => by unfold Ch at h2; omega)
  refine ⟨xs', ?_, r⟩
  unfold F23
  rw [Int.toNat_natCast, F62_eq]
  simp only [Option.bind_some]
  rw [Int.tdiv_eq_ediv_of_nonneg (by omega), wz (n := (n : Int) / 2) (by omega) (by omega), wz (n := (n : Int) / 2 - 1) (by omega) (by omega), show ((n : Int) / 2 - 1) = (((n / 2 : Nat) : Int) - 1) by omega, e]
  simp only [Option.bind_some, Int.toNat_natCast]
theorem L11_run (qs : LL) (hq : qs.length ≤ 1000) : ∀ (d k : Nat) (q : LL), k + d = qs.length → q.length ≤ k →
    L11_3 qs (qs.length : Nat) (k : Nat) q = some ((), (((), ()), ((), ()), (q ++ (qs.drop k).filter (fun l => !l.isEmpty), ()), ()), ()) := by
  intro d
  induction d with
  | zero =>
    intro k q hk hqk
    rw [L11_3_eq]; unfold T11_3
    rw [decide_eq_false (by omega), List.drop_eq_nil_of_le (by omega)]
    simp only [cond_false, Option.bind_some, Sum.elim_inr, List.filter_nil, List.append_nil]
  | succ d ih =>
    intro k q hk hqk
    rw [L11_3_eq]; unfold T11_3
    have hkl : k < qs.length := by omega
    rw [decide_eq_true (show (k : Int) < (qs.length : Int) by omega), decide_eq_true (show 0 ≤ (k : Int) ∧ (k : Int) < (qs.length : Int) by omega), Int.toNat_natCast, getD_get hkl, List.drop_eq_getElem_cons hkl]
    simp only [cond_true]
    rw [show IntKind.wrap .i64 ((k : Int) + 1) = ((k + 1 : Nat) : Int) by rw [wz (by omega) (by omega)]; rfl]
    cases hx : qs[k] with
    | nil =>
      rw [show decide (((([] : List DEv).length : Nat) : Int) > 0) = false from rfl]
      simp only [cond_false, Option.bind_some, Sum.elim_inl]
      rw [ih (k + 1) q (by omega) (by omega)]
      rfl
    | cons e t =>
      rw [decide_eq_true (show ((((e :: t) : List DEv).length : Nat) : Int) > 0 by simp only [List.length_cons]; omega), decide_eq_true (show q.length + ([e :: t] : LL).length < lim by have : lim = 1099511627776 := rfl; simp only [List.length_cons, List.length_nil]; omega)]
      simp only [cond_true, Option.bind_some, Sum.elim_inl]
      rw [ih (k + 1) (q ++ [e :: t]) (by omega) (by simp; omega)]
      simp [List.filter_cons]
theorem F11_eq (qs : LL) (ys : List DEv) (hq : qs.length ≤ 1000) (hs : ∀ q ∈ qs, q.Pairwise Er) (hy : ys.Pairwise Er) (hp : qs.flatten.Perm ys) :
    ∃ (n : Nat) (xs : LL), F11 qs = some (((), ()), ((((n : Nat) : Int), ()), (xs, ()), ()), ()) ∧ Cur n xs ys := by
  have hl := L11_run qs hq qs.length 0 [] (by omega) (by simp)
  simp only [List.drop_zero, List.nil_append] at hl
  generalize hf : qs.filter (fun l => !l.isEmpty) = zs at hl
  have hzl : zs.length ≤ 1000 := by rw [← hf]; exact Nat.le_trans (List.length_filter_le _ _) hq
  have hzn : ∀ k, k < zs.length → zs.getD k [] ≠ [] := by
    intro k hk
    rw [getD_get hk]
    have : zs[k] ∈ qs.filter (fun l => !l.isEmpty) := by rw [hf]; exact List.getElem_mem hk
    have := (List.mem_filter.1 this).2
    simpa using this
  obtain ⟨xs, e, l1, p1, n1, h1⟩ := F23_eq zs.length zs (by omega) (Nat.le_refl _) hzn
  refine ⟨zs.length, xs, ?_, ⟨by omega, by omega, n1, h1, ?_, hy, ?_⟩⟩
  · unfold F11
    rw [show L11_3 qs (qs.length : Nat) 0 ([] : LL) = _ from hl]
    simp only [Option.bind_some]
    rw [e]
    simp only [Option.bind_some, Int.toNat_natCast]
  · intro q hq
    have := p1.mem_iff.1 hq
    rw [List.take_length, ← hf] at this
    exact hs q (List.mem_filter.1 this).1
  · refine p1.flatten.trans ?_
    rw [List.take_length, ← hf, List.flatten_filter_not_isEmpty]
    exact hp
theorem head_get {xs : LL} {n : Nat} {y : DEv} {t : List DEv} (h : 0 < n) (hl : n ≤ xs.length) (e : xs.getD 0 [] = y :: t) : xs.take n = (y :: t) :: (xs.drop 1).take (n - 1) := by
  cases xs with
  | nil => simp at hl; omega
  | cons x xs =>
    obtain ⟨m, rfl⟩ : ∃ m, n = m + 1 := ⟨n - 1, by omega⟩
    simp only [List.getD_cons_zero] at e
    subst e
    simp
theorem Cur.root {n : Nat} {xs : LL} {y : DEv} {ys : List DEv} (h : Cur n xs (y :: ys)) : 0 < n ∧ ∃ t, xs.getD 0 [] = y :: t := by
  have hy : y ∈ (xs.take n).flatten := h.perm.mem_iff.2 (List.mem_cons_self ..)
  have hn : 0 < n := by
    rcases Nat.eq_zero_or_pos n with h0 | h0
    · rw [h0] at hy; simp at hy
    · exact h0
  refine ⟨hn, ?_⟩
  have h0 := h.ne 0 hn
  cases hx : xs.getD 0 [] with
  | nil => exact absurd hx h0
  | cons z t =>
    refine ⟨t, ?_⟩
    have hz : hp xs 0 = pl z := by unfold hp; rw [hx]; rfl
    have hmin : ∀ e ∈ (xs.take n).flatten, kl (pl e) (pl z) = false := by
      intro e he
      obtain ⟨q, hq, he⟩ := List.mem_flatten.1 he
      obtain ⟨k, hk, rfl⟩ := List.getElem_of_mem hq
      have hkn : k < n := by rw [List.length_take] at hk; omega
      have hr := h.heap.root k hkn
      rw [hz] at hr
      have hkx : (xs.take n)[k] = xs.getD k [] := by rw [getD_get (by have := h.len; omega), List.getElem_take]
      have hs := h.srt _ (List.getElem_mem hk)
      rw [hkx] at he hs
      unfold hp at hr
      cases hq : xs.getD k [] with
      | nil => rw [hq] at he; cases he
      | cons a l =>
        rw [hq] at he hs hr
        rcases List.mem_cons.1 he with rfl | he
        · exact hr
        · have := List.rel_of_pairwise_cons hs he
          exact kl_trans hr (kl_asym this)
    have hzm : z ∈ y :: ys := h.perm.mem_iff.1 (by rw [head_get hn h.len hx]; simp)
    rcases List.mem_cons.1 hzm with rfl | hzy
    · rfl
    · have := List.rel_of_pairwise_cons h.ysrt hzy
      have h2 := hmin y hy
      unfold Er at this
      rw [h2] at this; cases this
theorem Cur.nil {n : Nat} {xs : LL} (h : Cur n xs []) : n = 0 := by
  rcases Nat.eq_zero_or_pos n with h0 | h0
  · exact h0
  · exfalso
    have hn := h.ne 0 h0
    have hp := h.perm.eq_nil
    cases hx : xs.getD 0 [] with
    | nil => exact hn hx
    | cons z t => rw [head_get h0 h.len hx] at hp; simp at hp
theorem F15_nil {n : Nat} {xs : LL} (h : Cur n xs []) : F15 (n : Nat) xs = some ((dv0, false, ()), ((((n : Nat) : Int), ()), (xs, ()), ()), ()) := by
  rw [h.nil]; rfl
theorem F15_cons {n : Nat} {xs : LL} {y : DEv} {ys : List DEv} (h : Cur n xs (y :: ys)) :
    ∃ (n' : Nat) (xs' : LL), F15 (n : Nat) xs = some ((y, true, ()), ((((n' : Nat) : Int), ()), (xs', ()), ()), ()) ∧ Cur n' xs' ys := by
  obtain ⟨hn, t, ht⟩ := h.root
  have hnb := h.nb
  have hl := h.len
  have hyy := (List.pairwise_cons.1 h.ysrt).2
  unfold F15
  rw [Int.toNat_natCast]
  rw [show (((n : Nat) : Int) == 0) = false from beq_eq_false_iff_ne.2 (by omega)]
  have hz : (((0 : Nat) : Int) + 0).toNat = 0 := rfl
  have hz0 : (0 : Int).toNat = 0 := rfl
  have hz1 : (1 : Int).toNat = 1 := rfl
  simp only [hz, hz0, hz1, ht, cond_false]
  rw [decide_eq_true (show 0 ≤ (0 : Int) ∧ (0 : Int) < (n : Int) by omega), decide_eq_true (show 0 < xs.length by omega), decide_eq_true (show 0 ≤ (0 : Int) ∧ (0 : Int) < (((y :: t).length : Nat) : Int) by simp only [List.length_cons]; omega), decide_eq_true (show 0 ≤ (1 : Int) ∧ (1 : Int) ≤ (((y :: t).length : Nat) : Int) by simp only [List.length_cons]; omega)]
  simp only [cond_true, List.drop_succ_cons, List.drop_zero]
  have hsq := h.srt _ (by rw [head_get hn hl ht]; exact List.mem_cons_self ..)
  have hst := (List.pairwise_cons.1 hsq).2
  by_cases htn : t = []
  · subst htn
    rw [show decide (((([] : List DEv).length : Nat) : Int) > 0) = false from rfl]
    simp only [cond_false]
    obtain ⟨i', xs', e, q⟩ := F27_eq n xs hn hnb hl h.ne
    rw [e]
    simp only [Option.bind_some, Int.toNat_natCast]
    refine ⟨n - 1, xs', rfl, by omega, by rw [q.len, sw_len]; omega, fun k hk => q.ne k (by omega), q.heap (Nat.le_refl _) ?_, ?_, hyy, ?_⟩
    · refine ⟨fun p c h1 h2 h3 h4 => ?_, fun p c h1 h2 h3 h4 => by unfold Ch at h2; omega⟩
      have hpc : p < c := by unfold Ch at h3; omega
      rw [hp_sw (by omega) (by omega), hp_sw (by omega) (by omega), if_neg (by omega), if_neg (by omega), if_neg (by omega), if_neg (by omega)]
      exact h.heap p c h1 h3 (by omega)
    · intro r hr
      have h1 := (q.perm (n - 1) (Nat.le_refl _) (by omega)).mem_iff.1 hr
      have h2 : r ∈ (sw 0 (n - 1) xs).take n := (List.take_subset_take_left _ (by omega)) h1
      exact h.srt r ((sw_take (by omega) (by omega) hl).mem_iff.1 h2)
    · have h1 := (q.perm (n - 1) (Nat.le_refl _) (by omega)).flatten
      refine h1.trans ?_
      have h2 := (sw_take (i := 0) (j := n - 1) hn (by omega) hl).flatten
      have h3 : (sw 0 (n - 1) xs).take n = (sw 0 (n - 1) xs).take (n - 1) ++ [[y]] := by
        have hlt : n - 1 < (sw 0 (n - 1) xs).length := by rw [sw_len]; omega
        have := List.take_append_getElem hlt
        rw [show n - 1 + 1 = n by omega] at this
        rw [← this, ← getD_get hlt [], sw_get (by omega) (by omega), if_pos rfl, ht]
      rw [h3, List.flatten_append] at h2
      have h4 := h2.trans h.perm
      simp only [List.flatten_cons, List.flatten_nil, List.append_nil] at h4
      have h5 : (y :: ((sw 0 (n - 1) xs).take (n - 1)).flatten).Perm (y :: ys) := (List.perm_append_comm (l₁ := [y])).trans h4
      exact h5.cons_inv
  · have htl := List.length_pos_iff.2 htn
    rw [decide_eq_true (show ((t.length : Nat) : Int) > 0 by omega)]
    simp only [cond_true]
    have g : ∀ k, (xs.set 0 t).getD k [] = if k = 0 then t else xs.getD k [] := fun k => setD (by omega)
    obtain ⟨i', xs', e, q⟩ := F26_eq n (xs.set 0 t) hnb (by rw [List.length_set]; exact hl) (fun k hk => by rw [g]; split; exact htn; exact h.ne k hk)
    rw [e]
    simp only [Option.bind_some, Int.toNat_natCast]
    have hset : (xs.set 0 t).take n = t :: (xs.drop 1).take (n - 1) := by
      have := head_get hn hl ht
      rw [List.take_set, this]; rfl
    have hgp : ∀ k, k ≠ 0 → hp (xs.set 0 t) k = hp xs k := fun k hk => by unfold hp; rw [g, if_neg hk]
    refine ⟨n, xs', rfl, hnb, by rw [q.len, List.length_set]; exact hl, q.ne, q.heap (Nat.le_refl _) ?_, ?_, hyy, ?_⟩
    · refine ⟨fun p c h1 h2 h3 h4 => ?_, fun p c h1 h2 h3 h4 => by unfold Ch at h2; omega⟩
      have hpc : p < c := by unfold Ch at h3; omega
      rw [hgp c (by omega), hgp p h2]
      exact h.heap p c h1 h3 h4
    · intro r hr
      have h1 := (q.perm n (Nat.le_refl _) (Nat.le_refl _)).mem_iff.1 hr
      rw [hset] at h1
      rcases List.mem_cons.1 h1 with rfl | h1
      · exact hst
      · exact h.srt r (by rw [head_get hn hl ht]; exact List.mem_cons_of_mem _ h1)
    · have h1 := (q.perm n (Nat.le_refl _) (Nat.le_refl _)).flatten
      rw [hset] at h1
      refine h1.trans ?_
      have h2 := h.perm
      rw [head_get hn hl ht] at h2
      simp only [List.flatten_cons, List.cons_append] at h2 ⊢
      exact h2.cons_inv
theorem L14_run (s : Pl) : ∀ (ys : List DEv) (n : Nat) (xs : LL) (c : Nat), Cur n xs ys → c + ys.length ≤ 1000000 →
    ∃ (n' : Nat) (xs' : LL), L14_2 (c : Nat) (n : Nat) s.1 s.2.1 xs = some ((((c + (ys.takeWhile fun e => !kl s (pl e)).length : Nat) : Int), ()), ((((n' : Nat) : Int), ()), (s.1, s.2.1, ()), (xs', ()), ()), ()) ∧ Cur n' xs' (ys.dropWhile fun e => !kl s (pl e)) := by
  intro ys
  induction ys with
  | nil =>
    intro n xs c h hc
    refine ⟨n, xs, ?_, h⟩
    have h0 := h.nil
    subst h0
    rw [L14_2_eq]; unfold T14_2
    rfl
  | cons y ys ih =>
    intro n xs c h hc
    obtain ⟨hn, t, ht⟩ := h.root
    have hl := h.len
    rw [L14_2_eq]; unfold T14_2
    have hz : (((0 : Nat) : Int) + 0).toNat = 0 := rfl
    have hz0 : (0 : Int).toNat = 0 := rfl
    simp only [hz, hz0, ht, Int.toNat_natCast]
    rw [decide_eq_true (show ((n : Nat) : Int) > 0 by omega), decide_eq_true (show 0 ≤ (0 : Int) ∧ (0 : Int) < (n : Int) by omega), decide_eq_true (show 0 < xs.length by omega), decide_eq_true (show 0 ≤ (0 : Int) ∧ (0 : Int) < (((y :: t).length : Nat) : Int) by simp only [List.length_cons]; omega)]
    simp only [cond_true, F25_eq, Option.bind_some, F24_eq]
    rw [cmp_le]
    have hk : kl (s.1, (s.2.1, ())) ((pl y).1, ((pl y).2.1, ())) = kl s (pl y) := rfl
    have hk2 : kl (s.1, (s.2.1, ())) ((pl (y.1, (y.2.1, (y.2.2.1, (y.2.2.2.1, (y.2.2.2.2.1, (y.2.2.2.2.2.1, (y.2.2.2.2.2.2.1, (y.2.2.2.2.2.2.2.1, ()))))))))).1, ((pl (y.1, (y.2.1, (y.2.2.1, (y.2.2.2.1, (y.2.2.2.2.1, (y.2.2.2.2.2.1, (y.2.2.2.2.2.2.1, (y.2.2.2.2.2.2.2.1, ()))))))))).2.1, ())) = kl s (pl y) := rfl
    simp only [List.getD_cons_zero]
    rw [hk2]
    cases hq : kl s (pl y) with
    | true =>
      simp only [Bool.not_true, cond_false, Option.bind_some, Sum.elim_inr]
      refine ⟨n, xs, ?_, ?_⟩
      · simp [List.takeWhile_cons, hq]
      · simp [List.dropWhile_cons, hq]; exact h
    | false =>
      simp only [Bool.not_false, cond_true]
      obtain ⟨n', xs', e, h'⟩ := F15_cons h
      rw [e]
      simp only [Option.bind_some, Sum.elim_inl, Int.toNat_natCast]
      simp only [List.length_cons] at hc
      rw [show IntKind.wrap .i64 ((c : Int) + 1) = ((c + 1 : Nat) : Int) by rw [wz (by omega) (by omega)]; rfl]
      obtain ⟨n2, xs2, e2, h2⟩ := ih n' xs' (c + 1) h' (by omega)
      rw [e2]
      refine ⟨n2, xs2, ?_, ?_⟩
      · simp [List.takeWhile_cons, hq]; omega
      · simp [List.dropWhile_cons, hq]; exact h2
theorem F14_eq {ys : List DEv} {n : Nat} {xs : LL} (s : Pl) (h : Cur n xs ys) (hy : ys.length ≤ 1000000) :
    ∃ (n' : Nat) (xs' : LL), F14 s (n : Nat) xs = some (((((ys.takeWhile fun e => !kl s (pl e)).length : Nat) : Int), ()), ((((n' : Nat) : Int), ()), (xs', ()), ()), ()) ∧ Cur n' xs' (ys.dropWhile fun e => !kl s (pl e)) := by
  obtain ⟨n', xs', e, h'⟩ := L14_run s ys n xs 0 h (by omega)
  refine ⟨n', xs', ?_, h'⟩
  unfold F14
  rw [Int.toNat_natCast, show L14_2 0 (n : Nat) s.1 s.2.1 xs = _ from e]
  simp only [Option.bind_some, Int.toNat_natCast, Nat.zero_add]
end Go.IM.V
namespace Go.IM.V
open Go Go.IM Go.Proofs
theorem dev_eta (x : DEv) : (x.1, (x.2.1, (x.2.2.1, (x.2.2.2.1, (x.2.2.2.2.1, (x.2.2.2.2.2.1, (x.2.2.2.2.2.2.1, (x.2.2.2.2.2.2.2.1, ())))))))) = x := rfl
theorem pl_eta (x : Pl) : (x.1, (x.2.1, ())) = x := rfl
def Df (a b : DEv) : Prop := Er a b ∨ Er b a
theorem limE : lim = 1099511627776 := rfl
theorem L18_run (m : Int) : ∀ (ys : List DEv) (n : Nat) (xs : LL) (q : List DEv), Cur n xs ys → q.length + ys.length ≤ 1000000 →
    ∃ (n' : Nat) (xs' : LL), L18_4 m (n : Nat) xs q = some (((), ()), ((((n' : Nat) : Int), ()), (xs', ()), ()), (q ++ ys.take (m.toNat - q.length), ())) := by
  intro ys
  induction ys with
  | nil =>
    intro n xs q h hl
    refine ⟨n, xs, ?_⟩
    rw [L18_4_eq]; unfold T18_4
    rw [Int.toNat_natCast, F15_nil h]
    simp only [List.take_nil, List.append_nil, Option.bind_some]
    cases decide ((((q.length : Nat) : Int)) < m)
    · simp only [cond_false, Option.bind_some, Sum.elim_inr]
    · simp only [cond_true, Bool.not_false, Option.bind_some, Sum.elim_inr, Int.toNat_natCast]
  | cons y ys ih =>
    intro n xs q h hl
    rw [L18_4_eq]; unfold T18_4
    rw [Int.toNat_natCast]
    simp only [List.length_cons] at hl
    by_cases hm : ((q.length : Nat) : Int) < m
    · rw [decide_eq_true hm]
      obtain ⟨n', xs', e, h'⟩ := F15_cons h
      rw [e]
      simp only [cond_true, Bool.not_true, cond_false, Option.bind_some, dev_eta, Int.toNat_natCast]
      rw [decide_eq_true (show q.length + [y].length < lim by rw [limE]; simp only [List.length_cons, List.length_nil]; omega)]
      simp only [cond_true, Option.bind_some, Sum.elim_inl]
      obtain ⟨n2, xs2, e2⟩ := ih n' xs' (q ++ [y]) h' (by simp; omega)
      refine ⟨n2, xs2, ?_⟩
      rw [e2]
      have : (y :: ys).take (m.toNat - q.length) = y :: ys.take (m.toNat - (q ++ [y]).length) := by
        rw [show m.toNat - q.length = (m.toNat - (q ++ [y]).length) + 1 by simp; omega]
        rfl
      rw [this]
      simp
    · rw [decide_eq_false hm]
      refine ⟨n, xs, ?_⟩
      rw [show m.toNat - q.length = 0 by omega]
      simp only [cond_false, Option.bind_some, Sum.elim_inr, List.take_zero, List.append_nil, Int.toNat_natCast]
theorem F18_eq (qs : LL) (ys : List DEv) (s : Pl) (m : Int) (hq : qs.length ≤ 1000) (hs : ∀ q ∈ qs, q.Pairwise Er) (hy : ys.Pairwise Er) (hp : qs.flatten.Perm ys) (hl : ys.length ≤ 100000) :
    F18 qs s m = some (((ys.dropWhile fun e => !kl s (pl e)).take m.toNat, ()), (), ()) := by
  obtain ⟨n, xs, e1, h1⟩ := F11_eq qs ys hq hs hy hp
  obtain ⟨n2, xs2, e2, h2⟩ := F14_eq s h1 (by omega)
  have hdl : (ys.dropWhile fun e => !kl s (pl e)).length ≤ ys.length := (List.dropWhile_sublist _).length_le
  obtain ⟨n3, xs3, e3⟩ := L18_run m _ n2 xs2 [] h2 (by simp; omega)
  unfold F18
  rw [e1]
  simp only [Option.bind_some, Int.toNat_natCast, pl_eta]
  rw [e2]
  simp only [Option.bind_some, Int.toNat_natCast]
  rw [e3]
  simp
theorem F20_eq (qs : LL) (ys : List DEv) (hq : qs.length ≤ 1000) (hs : ∀ q ∈ qs, q.Pairwise Er) (hy : ys.Pairwise Er) (hp : qs.flatten.Perm ys) (hl : ys.length ≤ 100000) (h0 : ∀ e ∈ ys, 0 ≤ e.1 ∧ 0 ≤ e.2.2.1) :
    F20 qs = some ((ys, ()), (), ()) := by
  unfold F20
  rw [F18_eq qs ys _ _ hq hs hy hp hl]
  have hdw : (ys.dropWhile fun e => !kl (0, ((-1), ())) (pl e)) = ys := by
    cases ys with
    | nil => rfl
    | cons y ys =>
      have := h0 y (List.mem_cons_self ..)
      have hk : kl (0, ((-1), ())) (pl y) = true := by rw [kl_iff]; unfold pl; dsimp only; omega
      rw [List.dropWhile_cons_of_neg (by rw [hk]; simp)]
  rw [hdw, List.take_of_length_le (by omega)]
  rfl
theorem F8_eq : F8 = some ((true, ()), (), ()) := by
  unfold F8
  have er : ∀ a b : DEv, kl (pl a) (pl b) = true → Er a b := fun _ _ h => h
  rw [F20_eq _ [(0, (1, (1, (0, (ByteArray.empty, (([] : List Int), (0, (0, ())))))))), (1, (1, (2, (0, (ByteArray.empty, (([] : List Int), (0, (0, ())))))))), (0, (2, (3, (0, (ByteArray.empty, (([] : List Int), (0, (0, ()))))))))] (by simp) ?_ ?_ ?_ (by simp) ?_]
  · rfl
  · intro q hq
    simp only [List.mem_cons, List.not_mem_nil, or_false] at hq
    rcases hq with rfl | rfl
    · refine List.pairwise_cons.2 ⟨fun x hx => ?_, by simp⟩
      simp only [List.mem_cons, List.not_mem_nil, or_false] at hx
      subst hx; exact er _ _ rfl
    · simp
  · refine List.pairwise_cons.2 ⟨fun x hx => ?_, List.pairwise_cons.2 ⟨fun x hx => ?_, by simp⟩⟩
    · simp only [List.mem_cons, List.not_mem_nil, or_false] at hx
      rcases hx with rfl | rfl <;> exact er _ _ rfl
    · simp only [List.mem_cons, List.not_mem_nil, or_false] at hx
      subst hx; exact er _ _ rfl
  · simp only [List.flatten_cons, List.flatten_nil, List.append_nil]
    exact (List.Perm.swap _ _ _).cons _
  · intro e he
    simp only [List.mem_cons, List.not_mem_nil, or_false] at he
    rcases he with rfl | rfl | rfl <;> decide
end Go.IM.V
namespace Go.IM.V
open Go Go.IM Go.Proofs
structure EvG (e : Ev) : Prop where
  w0 : 0 ≤ e.1
  w1 : e.1 < 100
  s0 : 0 ≤ e.2.1
  s1 : e.2.1 < 1000
  t0 : 0 ≤ e.2.2.1
  t1 : e.2.2.1 < 1000
  f : EvF e
structure Fds (qs : LL) : Prop where
  len : qs.length ≤ 6
  srt : ∀ q ∈ qs, q.Pairwise Er
  ris : ∀ q ∈ qs, q.Pairwise (fun a b => a.2.2.1 < b.2.2.1)
  l60 : ∀ q ∈ qs, q.length ≤ 60
  df : qs.flatten.Pairwise Df
  ev : ∀ e ∈ qs.flatten, EvG e
  fl : qs.flatten.length ≤ 1000
end Go.IM.V
namespace Go.IM.V
open Go Go.IM Go.Proofs
def bk (l : List DEv) (j : Nat) : Bool := kl (pl (l.getD j dv0)) (pl (l.getD (j - 1) dv0))
theorem F30_eq (a b : DEv) : F30 a b = some ((cmpI (pl a) (pl b), ()), (), ()) := by
  unfold F30
  simp only [dev_eta, F25_eq, Option.bind_some, F24_eq, pl_eta]
theorem L29_run (l : List DEv) (hl : l.length ≤ 1000000) : ∀ i : Nat, (i = 0 ∨ i < l.length) → ∃ r : Bool, L29_2 l (i : Nat) = some (bif r then .inr ((), (), ()) else .inl ((false, ()), (), ())) ∧ (r = true ↔ ∀ j, 1 ≤ j → j ≤ i → bk l j = false) := by
  intro i
  induction i with
  | zero =>
    intro _
    refine ⟨true, ?_, ⟨fun _ j h1 h2 => by omega, fun _ => rfl⟩⟩
    rw [L29_2_eq]; unfold T29_2
    rfl
  | succ i ih =>
    intro hi
    have hil : i + 1 < l.length := by omega
    rw [L29_2_eq]; unfold T29_2
    rw [show IntKind.wrap .i64 (((i + 1 : Nat) : Int) - 1) = ((i : Nat) : Int) by rw [wz (by omega) (by omega)]; omega]
    rw [decide_eq_true (show ((i + 1 : Nat) : Int) > 0 by omega), decide_eq_true (show 0 ≤ ((i + 1 : Nat) : Int) ∧ ((i + 1 : Nat) : Int) < (l.length : Int) by omega), decide_eq_true (show 0 ≤ (i : Int) ∧ (i : Int) < (l.length : Int) by omega)]
    simp only [cond_true, dev_eta, F30_eq, Option.bind_some, Int.toNat_natCast]
    rw [cmp_lt]
    have hb : bk l (i + 1) = kl (pl (l.getD (i + 1) dv0)) (pl (l.getD i dv0)) := rfl
    rw [← hb]
    cases hq : bk l (i + 1) with
    | true =>
      refine ⟨false, rfl, ⟨fun h => (by cases h), fun h => ?_⟩⟩
      rw [h (i + 1) (by omega) (by omega)] at hq; cases hq
    | false =>
      simp only [cond_false, Option.bind_some, Sum.elim_inl]
      obtain ⟨r, e, hr⟩ := ih (by omega)
      refine ⟨r, e, hr.trans ⟨fun h j h1 h2 => ?_, fun h j h1 h2 => h j h1 (by omega)⟩⟩
      by_cases ej : j = i + 1
      · subst ej; exact hq
      · exact h j h1 (by omega)
theorem F19_eq (l : List DEv) (hl : l.length ≤ 1000000) : ∃ r : Bool, F19 l = some ((r, ()), (), ()) ∧ (r = true ↔ ∀ j, 1 ≤ j → j < l.length → bk l j = false) := by
  unfold F19 F29
  rcases Nat.eq_zero_or_pos l.length with h0 | h0
  · rw [h0]
    refine ⟨true, ?_, ⟨fun _ j h1 h2 => by omega, fun _ => rfl⟩⟩
    rw [show IntKind.wrap .i64 (((0 : Nat) : Int) - 1) = -1 from rfl, L29_2_eq]; unfold T29_2
    rfl
  · rw [show IntKind.wrap .i64 (((l.length : Nat) : Int) - 1) = ((l.length - 1 : Nat) : Int) by rw [wz (by omega) (by omega)]; omega]
    obtain ⟨r, e, hr⟩ := L29_run l hl (l.length - 1) (by omega)
    rw [e]
    refine ⟨r, ?_, hr.trans ⟨fun h j h1 h2 => h j h1 (by omega), fun h j h1 h2 => h j h1 (by omega)⟩⟩
    cases r <;> rfl
theorem L5_run (l : List DEv) (s1 s2 : Int) (hl : l.length ≤ 1000000) : ∀ (d k : Nat) (f : Bool), k + d = l.length → 1 ≤ k → ∃ r : Bool, L5_5 l f (k : Nat) s1 s2 = some ((r, ()), ((s1, s2, ()), ()), ()) ∧ (r = true ↔ f = true ∧ ∀ j, k ≤ j → j < l.length → bk l j = false) := by
  intro d
  induction d with
  | zero =>
    intro k f hk h1
    refine ⟨f, ?_, ⟨fun h => ⟨h, fun j h1 h2 => by omega⟩, fun h => h.1⟩⟩
    rw [L5_5_eq]; unfold T5_5
    rw [decide_eq_false (by omega)]
    rfl
  | succ d ih =>
    intro k f hk h1
    rw [L5_5_eq]; unfold T5_5
    rw [show IntKind.wrap .i64 ((k : Int) - 1) = ((k - 1 : Nat) : Int) by rw [wz (by omega) (by omega)]; omega]
    rw [decide_eq_true (show (k : Int) < (l.length : Int) by omega), decide_eq_true (show 0 ≤ (k : Int) ∧ (k : Int) < (l.length : Int) by omega), decide_eq_true (show 0 ≤ ((k - 1 : Nat) : Int) ∧ ((k - 1 : Nat) : Int) < (l.length : Int) by omega)]
    simp only [cond_true, dev_eta, F13_eq, F12_eq, pl_eta, Option.bind_some, Int.toNat_natCast]
    rw [show IntKind.wrap .i64 ((k : Int) + 1) = ((k + 1 : Nat) : Int) by rw [wz (by omega) (by omega)]; rfl]
    have hb : bk l k = kl (pl (l.getD k dv0)) (pl (l.getD (k - 1) dv0)) := rfl
    rw [← hb]
    cases hq : bk l k with
    | true =>
      simp only [cond_true, Option.bind_some, Sum.elim_inl]
      obtain ⟨r, e, hr⟩ := ih (k + 1) false (by omega) (by omega)
      refine ⟨r, e, hr.trans ⟨fun h => (by cases h.1), fun h => ?_⟩⟩
      rw [h.2 k (Nat.le_refl _) (by omega)] at hq; cases hq
    | false =>
      simp only [cond_false, Option.bind_some, Sum.elim_inl]
      obtain ⟨r, e, hr⟩ := ih (k + 1) f (by omega) (by omega)
      refine ⟨r, e, hr.trans ⟨fun h => ⟨h.1, fun j h1 h2 => ?_⟩, fun h => ⟨h.1, fun j h1 h2 => h.2 j (by omega) h2⟩⟩⟩
      by_cases ej : j = k
      · subst ej; exact hq
      · exact h.2 j (by omega) h2
theorem F14n_eq (s : Pl) : F14n s = some ((0, ()), (), ()) := by
  unfold F14n
  rw [L14n_2_eq]; unfold T14n_2
  rfl
theorem orderRights_pure (l : List DEv) (s : Pl) : F5 l s = some (r1 true) := by
  unfold F5
  rw [F8_eq]
  simp only [Option.bind_some, Bool.not_true, cond_false]
  rw [cif]
  by_cases h : ((l.length : Nat) : Int) > 30
  · rw [if_pos h]
  rw [if_neg h]
  obtain ⟨r, e, hr⟩ := F19_eq l (by omega)
  have h5 : ∃ r : Bool, L5_5 l true 1 s.1 s.2.1 = some ((r, ()), ((s.1, s.2.1, ()), ()), ()) ∧ (r = true ↔ true = true ∧ ∀ j, 1 ≤ j → j < l.length → bk l j = false) := by
    rcases Nat.eq_zero_or_pos l.length with h0 | h0
    · refine ⟨true, ?_, ⟨fun _ => ⟨rfl, fun j h1 h2 => by omega⟩, fun _ => rfl⟩⟩
      rw [L5_5_eq]; unfold T5_5
      rw [decide_eq_false (by omega)]
      rfl
    · exact L5_run l s.1 s.2.1 (by omega) (l.length - 1) 1 true (by omega) (Nat.le_refl _)
  obtain ⟨r', e', hr'⟩ := h5
  have : r = r' := by
    rw [Bool.eq_iff_iff, hr, hr']
    exact ⟨fun h => ⟨rfl, h⟩, fun h => h.2⟩
  subst this
  rw [e', e]
  simp only [Option.bind_some, beq_self_eq_true, cond_true]
  unfold F15n
  simp only [Option.bind_some, Bool.not_false, cond_true]
  rw [F14n_eq]
  rfl
end Go.IM.V