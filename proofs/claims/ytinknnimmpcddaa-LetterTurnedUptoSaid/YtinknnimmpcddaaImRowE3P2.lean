/- What the code of a law comes to, and what that tells: part 2. Lemmas alone; no conditions. -/
import Derived.Test.YtinknnimmpcddaaImRowE3P1
set_option linter.unusedVariables false
set_option linter.unusedSimpArgs false
set_option linter.constructorNameAsVariable false
namespace Go.IM.V
open Go Go.IM Go.Proofs
open Go.IM.Crc
def toB (xs : List Int) : List UInt8 := xs.map fun n => UInt8.ofNat n.toNat
theorem toB_get {xs : List Int} (hb : Bys xs) {i : Nat} (h : i < xs.length) : xs.getD i 0 = (((toB xs)[i]'(by simpa [toB] using h)).toNat : Int) := by
  have := hb _ (List.getElem_mem h)
  rw [List.getD_eq_getElem?_getD, List.getElem?_eq_getElem h]
  simp only [toB, List.getElem_map, Option.getD_some, UInt8.toNat_ofNat']
  omega
theorem toB_len (xs : List Int) : (toB xs).length = xs.length := by simp [toB]
theorem L11a_run (a7 : List Int) (a8 a9 : Int) : ∀ (d k : Nat) (s : Int), k + d = 8 → L72_7 s a7 a8 a9 (k : Nat) = some (r1 (stepsI d s)) := by
  intro d
  induction d with
  | zero =>
    intro k s hk
    rw [L72_7_eq]
    simp only [T72_7, cif]
    rw [if_neg (by omega)]
    rfl
  | succ d ih =>
    intro k s hk
    have hw : IntKind.wrap .i64 ((k : Int) + 1) = ((k + 1 : Nat) : Int) := by rw [w64 (by omega) (by omega)]; omega
    rw [L72_7_eq]
    simp only [T72_7, cif]
    rw [if_pos (by omega), hw]
    simp only [Option.bind_some, Sum.elim_inl]
    exact ih (k + 1) _ (by omega)
theorem L72_run (xs : List Int) (hb : Bys xs) (hl : xs.length < 2 ^ 62) : ∀ (d i : Nat) (s : Int), i + d = xs.length → L72_3 s xs (xs.length : Nat) (i : Nat) = some (r1 (sumI ((toB xs).drop i) s)) := by
  intro d
  induction d with
  | zero =>
    intro i s hi
    rw [L72_3_eq]
    simp only [T72_3, cif]
    rw [if_neg (by omega), List.drop_eq_nil_of_le (by rw [toB_len]; omega)]
    rfl
  | succ d ih =>
    intro i s hi
    have hlt : i < xs.length := by omega
    have hw : IntKind.wrap .i64 ((i : Int) + 1) = ((i + 1 : Nat) : Int) := by rw [w64 (by omega) (by omega)]; omega
    have h8 := fun s => L11a_run xs (xs.length : Nat) (i : Nat) 8 0 s (by omega)
    rw [show ((0 : Nat) : Int) = 0 from rfl] at h8
    rw [L72_3_eq]
    simp only [T72_3, cif]
    rw [if_pos (by omega), if_pos (by omega), h8, hw]
    simp only [Option.bind_some, Sum.elim_inl, Int.toNat_natCast, toB_get hb hlt]
    rw [ih (i + 1) _ (by omega), List.drop_eq_getElem_cons (l := toB xs) (i := i) (by rw [toB_len]; omega)]
    rfl
noncomputable def crc (xs : List Int) : Int := rsum (toB xs)
theorem F72_eq (xs : List Int) (hb : Bys xs) (hl : xs.length < 2 ^ 62) : F72 xs = some (r1 (crc xs)) := by
  unfold F72 crc
  have := L72_run xs hb hl xs.length 0 4294967295 (by omega)
  rw [show ((0 : Nat) : Int) = 0 from rfl] at this
  rw [this, ← sums_alike]
  rfl
theorem L12a_run (xs : List Int) (hb : Bys xs) (i : Nat) (hi : i < xs.length) : ∀ (d k : Nat) (s : Int), k + d = 8 → L39_6 xs s (i : Nat) (k : Nat) = some (r1 (rstepsI (xs.getD i 0) d k s)) := by
  intro d
  induction d with
  | zero =>
    intro k s hk
    rw [L39_6_eq]
    simp only [T39_6, cif]
    rw [if_neg (by omega)]
    rfl
  | succ d ih =>
    intro k s hk
    have hw : IntKind.wrap .i64 ((k : Int) + 1) = ((k + 1 : Nat) : Int) := by rw [w64 (by omega) (by omega)]; omega
    rw [L39_6_eq]
    simp only [T39_6, cif]
    rw [if_pos (by omega), if_pos (by omega), if_pos (by omega), hw]
    simp only [Int.toNat_natCast, Bool.cond_eq_ite, bne_iff_ne, ne_eq]
    have e : rstepsI (xs.getD i 0) (d + 1) k s = rstepsI (xs.getD i 0) d (k + 1) (rstepI (xs.getD i 0) k s) := rfl
    rw [e]
    by_cases c : bitI (xs.getD i 0) k = topI s
    · rw [if_neg (fun h => h c)]
      simp only [Option.bind_some, Sum.elim_inl]
      rw [ih (k + 1) _ (by omega)]
      unfold rstepI
      rw [if_pos c]
    · rw [if_pos (show ¬ iAnd IntKind.u32 (IntKind.u32.wrap (iShr IntKind.u8 (xs.getD i 0) (k : Int))) 1 = iShr IntKind.u32 s 31 from c)]
      simp only [Option.bind_some, Sum.elim_inl]
      rw [ih (k + 1) _ (by omega)]
      unfold rstepI
      rw [if_neg c]
theorem L39_run (xs : List Int) (hb : Bys xs) (hl : xs.length < 2 ^ 62) : ∀ (d i : Nat) (s : Int), i + d = xs.length → L39_3 xs s (i : Nat) = some (r1 (rsumI ((toB xs).drop i) s)) := by
  intro d
  induction d with
  | zero =>
    intro i s hi
    rw [L39_3_eq]
    simp only [T39_3, cif]
    rw [if_neg (by omega), List.drop_eq_nil_of_le (by rw [toB_len]; omega)]
    rfl
  | succ d ih =>
    intro i s hi
    have hlt : i < xs.length := by omega
    have hw : IntKind.wrap .i64 ((i : Int) + 1) = ((i + 1 : Nat) : Int) := by rw [w64 (by omega) (by omega)]; omega
    have h8 := L12a_run xs hb i hlt 8 0 s (by omega)
    rw [show ((0 : Nat) : Int) = 0 from rfl] at h8
    rw [L39_3_eq]
    simp only [T39_3, cif]
    rw [if_pos (by omega), h8, hw]
    simp only [Option.bind_some, Sum.elim_inl, toB_get hb hlt]
    rw [ih (i + 1) _ (by omega), List.drop_eq_getElem_cons (l := toB xs) (i := i) (by rw [toB_len]; omega)]
    rfl
theorem L12t_run (s : Int) : ∀ (d k : Nat) (t : Int), k + d = 32 → L39_16 s t (k : Nat) = some (r1 (turnI s d k t)) := by
  intro d
  induction d with
  | zero =>
    intro k t hk
    rw [L39_16_eq]
    simp only [T39_16, cif]
    rw [if_neg (by omega)]
    rfl
  | succ d ih =>
    intro k t hk
    have hw : IntKind.wrap .i64 ((k : Int) + 1) = ((k + 1 : Nat) : Int) := by rw [w64 (by omega) (by omega)]; omega
    rw [L39_16_eq]
    simp only [T39_16, cif]
    rw [if_pos (by omega), if_pos (by omega), hw]
    simp only [Option.bind_some, Sum.elim_inl]
    exact ih (k + 1) _ (by omega)
theorem F39_eq (xs : List Int) (hb : Bys xs) (hl : xs.length < 2 ^ 62) : F39 xs = some (r1 (crc xs)) := by
  unfold F39 crc
  have := L39_run xs hb hl xs.length 0 4294967295 (by omega)
  rw [show ((0 : Nat) : Int) = 0 from rfl] at this
  rw [this]
  have := L12t_run (iNot .u32 (rsumI (toB xs) 4294967295)) 32 0 0 (by omega)
  rw [show ((0 : Nat) : Int) = 0 from rfl] at this
  simp only [Option.bind_some, List.drop_zero]
  rw [this]
  rfl
def four (n : Int) : List Int := [IntKind.wrap .u8 (iShr .u32 n 24), IntKind.wrap .u8 (iShr .u32 n 16), IntKind.wrap .u8 (iShr .u32 n 8), IntKind.wrap .u8 n]
theorem four_byte (n : Int) : Bys (four n) := fun x hx => by
  simp only [four, List.mem_cons, List.not_mem_nil, or_false] at hx
  rcases hx with rfl | rfl | rfl | rfl <;> rw [wu8_mod] <;> omega
theorem four_len (n : Int) : (four n).length = 4 := rfl
theorem F71_eq (n : Int) : F71 n = some (r1 (four n)) := rfl
noncomputable def rcd (p : List Int) : List Int := dgT p ++ four (crc (dgT p))
theorem rcd_byte {p : List Int} (h : Bys p) (hl : p.length < 2 ^ 63) : Bys (rcd p) := (dgT_byte h hl).app (four_byte _)
theorem rcd_len (p : List Int) : (rcd p).length = (dg p.length).length + p.length + 4 := by unfold rcd dgT; simp [four_len]; omega
theorem F13_eq (p : List Int) (hb : Bys p) (hl : p.length < 4294967296) : F13 p = some (ro (rcd p)) := by
  have h1 := dgT_len p
  have hlim : lim = 1099511627776 := rfl
  unfold F13
  rw [F27_eq _ _ hl (by simp; omega)]
  simp only [Option.bind_some, List.nil_append]
  rw [F39_eq _ (dgT_byte hb (by omega)) (by omega)]
  simp only [Option.bind_some, cif]
  rw [if_pos (by simp; omega)]
  rfl
theorem F49_eq (p : List Int) (hb : Bys p) (hl : p.length < 4294967296) : F49 p = some (ro (rcd p)) := by
  have h1 := dgT_len p
  have hlim : lim = 1099511627776 := rfl
  unfold F49
  rw [F52_eq _ _ hl (by simp; omega)]
  simp only [Option.bind_some, List.nil_append]
  rw [F72_eq _ (dgT_byte hb (by omega)) (by omega)]
  simp only [Option.bind_some, F71_eq, cif]
  rw [if_pos (by rw [four_len]; omega)]
  rfl
noncomputable def opn (most : Int) (xs : List Int) : (List Int × List Int) ⊕ Int :=
  match tkT most xs with
  | .inr e => .inr e
  | .inl (t, r) => if r.length < 4 then .inr 5 else if four (crc (xs.take (xs.length - r.length))) = r.take 4 then .inl (t, r.drop 4) else .inr 4
theorem tkT_err {most e : Int} {xs : List Int} (h : tkT most xs = .inr e) : e = 4 ∨ e = 5 ∨ e = 6 := by
  unfold tkT at h
  split at h
  · rename_i hk; cases h; rcases tk_err hk with h | h <;> omega
  · split at h
    · cases h; omega
    · split at h
      · cases h; omega
      · cases h
theorem F70_eq' (xs : List Int) (most : Int) (hb : Bys xs) (hl : xs.length < lim) (hm : most < 9223372036854775808) : F70 xs most = some (match tkT most xs with | .inl q => r3 q.1 q.2 0 | .inr e => r3 [] xs e) := by
  unfold F70 tkT
  rw [F80_eq xs hb]
  have hlim : lim = 1099511627776 := rfl
  cases h : tk 0 0 xs with
  | inr e =>
    simp only [Option.bind_some]
    rcases tk_err h with rfl | rfl <;> rfl
  | inl q =>
    obtain ⟨n, r⟩ := q
    obtain ⟨h1, h2, h3⟩ := tk_some hb h
    have hr : r.length ≤ xs.length := by rw [h1]; simp
    simp only [Option.bind_some, bne_self_eq_false, cond_false, cif]
    by_cases c1 : most < 0
    · rw [if_pos c1, if_pos (Or.inl c1)]
    · rw [if_neg c1, wu64 (n := most) (by omega) (by omega), wu64 (n := (r.length : Int)) (by omega) (by omega)]
      by_cases c2 : n > most
      · rw [if_pos c2, if_pos (Or.inr c2)]
      · rw [if_neg c2, if_neg (show ¬ (most < 0 ∨ n > most) from by omega)]
        by_cases c3 : n > (r.length : Int)
        · rw [if_pos c3, if_pos c3]
        · rw [if_neg c3, if_neg c3, if_pos (by omega), if_pos (by rw [List.length_take]; omega), if_pos (by omega)]
theorem F37_eq (xs : List Int) (most : Int) (hb : Bys xs) (hl : xs.length < lim) (hm : most < 9223372036854775808) :
    F37 xs most = some (match opn most xs with | .inl q => r3 q.1 q.2 0 | .inr e => r3 [] xs e) := by
  have hlim : lim = 1099511627776 := rfl
  unfold F37 opn
  rw [F70_eq' xs most hb hl hm]
  cases h : tkT most xs with
  | inr e =>
    simp only [Option.bind_some]
    rcases tkT_err h with rfl | rfl | rfl <;> rfl
  | inl q =>
    obtain ⟨t, r⟩ := q
    obtain ⟨h1, h2⟩ := tkT_some hb h
    have hr : r.length ≤ xs.length := by rw [h1]; simp
    have br : Bys r := fun x hx => hb x (by rw [h1]; exact List.mem_append.2 (.inr hx))
    have hw : IntKind.wrap .i64 ((xs.length : Int) - (r.length : Int)) = ((xs.length - r.length : Nat) : Int) := by rw [w64 (by omega) (by omega)]; omega
    simp only [Option.bind_some, bne_self_eq_false, cond_false, cif, hw, Int.toNat_natCast]
    by_cases c4 : r.length < 4
    · rw [if_pos (by omega), if_pos c4]
    · rw [if_neg (by omega), if_neg c4, if_pos (by omega), F72_eq _ (hb.take _) (by rw [List.length_take]; omega)]
      simp only [Option.bind_some, F71_eq]
      have h4 : (4 : Int).toNat = 4 := rfl
      rw [if_pos (by omega), h4, strL_beq (four_byte _) (br.take 4)]
      by_cases ce : four (crc (xs.take (xs.length - r.length))) = r.take 4
      · rw [decide_eq_true ce, if_pos ce]
        simp only [Bool.not_true, cond_false]
        rw [if_pos (by omega)]
      · rw [decide_eq_false ce, if_neg ce]
        rfl
theorem opn_some {xs t r : List Int} {most : Int} (hb : Bys xs) (h : opn most xs = .inl (t, r)) : xs = rcd t ++ r ∧ (t.length : Int) ≤ most ∧ t.length ≤ xs.length := by
  unfold opn at h
  cases h1 : tkT most xs with
  | inr e => rw [h1] at h; cases h
  | inl q =>
    obtain ⟨t', r'⟩ := q
    rw [h1] at h
    dsimp only at h
    obtain ⟨g1, g2⟩ := tkT_some hb h1
    split at h
    · cases h
    · split at h
      · rename_i c4 ce
        cases h
        have hx : xs.take (xs.length - r'.length) = dgT t := by
          rw [g1, List.length_append, Nat.add_sub_cancel, List.take_left]
        rw [hx] at ce
        refine ⟨?_, g2, by rw [g1]; unfold dgT; simp; omega⟩
        unfold rcd
        rw [ce, List.append_assoc, List.take_append_drop, ← g1]
      · cases h
theorem opn_err {most e : Int} {xs : List Int} (h : opn most xs = .inr e) : e = 4 ∨ e = 5 ∨ e = 6 := by
  unfold opn at h
  split at h
  · rename_i h1; cases h; exact tkT_err h1
  · split at h
    · cases h; omega
    · split at h
      · cases h
      · cases h; omega
theorem opn_app {t rest : List Int} {most : Int} (h : (t.length : Int) ≤ most) (hl : t.length < 2 ^ 63) : opn most (rcd t ++ rest) = .inl (t, rest) := by
  unfold opn rcd
  rw [List.append_assoc, tkT_app h hl]
  dsimp only
  have e1 : (four (crc (dgT t)) ++ rest).length = 4 + rest.length := by rw [List.length_append, four_len]
  rw [if_neg (by omega)]
  have e2 : (dgT t ++ (four (crc (dgT t)) ++ rest)).take ((dgT t ++ (four (crc (dgT t)) ++ rest)).length - (four (crc (dgT t)) ++ rest).length) = dgT t := by
    rw [List.length_append, Nat.add_sub_cancel, List.take_left]
  rw [e2, List.take_left' (four_len _), List.drop_left' (four_len _), if_pos rfl]
theorem stepB_inj {s t : BitVec 32} (h : stepB s = stepB t) : s = t := by
  rw [stepB_bit, stepB_bit] at h
  have hb : s.getLsbD 0 = t.getLsbD 0 := by
    cases hs : s.getLsbD 0 <;> cases ht : t.getLsbD 0
    · rfl
    · rw [hs, ht] at h
      have h31 := congrArg (fun x : BitVec 32 => x.getLsbD 31) h
      simp at h31
    · rw [hs, ht] at h
      have h31 := congrArg (fun x : BitVec 32 => x.getLsbD 31) h
      simp at h31
    · rfl
  rw [hb] at h
  have h2 : s >>> 1 = t >>> 1 := by
    have := congrArg (fun x : BitVec 32 => x ^^^ (if t.getLsbD 0 = true then 2197175160#32 else 0#32)) h
    simpa [BitVec.xor_assoc] using this
  apply BitVec.eq_of_getLsbD_eq
  intro i hi
  cases i with
  | zero => exact hb
  | succ i =>
    have := congrArg (fun x : BitVec 32 => x.getLsbD i) h2
    simp only [BitVec.getLsbD_ushiftRight] at this
    rwa [Nat.add_comm 1 i] at this
theorem stepsB_inj : ∀ (d : Nat) {s t : BitVec 32}, stepsB d s = stepsB d t → s = t
  | 0, s, t, h => h
  | d + 1, s, t, h => stepB_inj (stepsB_inj d h)
theorem sumB_inj : ∀ (B : List UInt8) {s t : BitVec 32}, sumB B s = sumB B t → s = t
  | [], s, t, h => h
  | b :: r, s, t, h => by
    have := stepsB_inj 8 (sumB_inj r h)
    have := congrArg (fun x => x ^^^ pad b) this
    simpa [BitVec.xor_assoc] using this
theorem pad_inj {a b : UInt8} (h : pad a = pad b) : a = b := by
  have := congrArg BitVec.toNat h
  have e := pad_toNat a
  have e2 := pad_toNat b
  apply UInt8.toNat_inj.1
  omega
theorem sumB_turn (X Y : List UInt8) (a b : UInt8) (s : BitVec 32) (h : sumB (X ++ a :: Y) s = sumB (X ++ b :: Y) s) : a = b := by
  induction X generalizing s with
  | nil =>
    have := stepsB_inj 8 (sumB_inj Y h)
    have := congrArg (fun x => s ^^^ x) this
    rw [← BitVec.xor_assoc, ← BitVec.xor_assoc, BitVec.xor_self, BitVec.zero_xor, BitVec.zero_xor] at this
    exact pad_inj this
  | cons x X ih => exact ih _ h
theorem crc_bv (xs : List Int) : crc xs = ((~~~(sumB (toB xs) 4294967295#32)).toNat : Int) := by
  unfold crc
  rw [← sums_alike, show (4294967295 : Int) = ((4294967295#32).toNat : Int) from by decide, sum_bv, not_bv]
theorem crc_nn (xs : List Int) : 0 ≤ crc xs ∧ crc xs < 4294967296 := by
  rw [crc_bv]; have := (~~~(sumB (toB xs) 4294967295#32)).isLt; omega
theorem toB_app (a b : List Int) : toB (a ++ b) = toB a ++ toB b := by simp [toB]
theorem crc_turn {X Y : List Int} {a b : Int} (ha : 0 ≤ a ∧ a < 256) (hb : 0 ≤ b ∧ b < 256) (h : crc (X ++ a :: Y) = crc (X ++ b :: Y)) : a = b := by
  rw [crc_bv, crc_bv] at h
  have h1 : ~~~(sumB (toB (X ++ a :: Y)) 4294967295#32) = ~~~(sumB (toB (X ++ b :: Y)) 4294967295#32) := BitVec.eq_of_toNat_eq (by exact_mod_cast h)
  have h2 : sumB (toB (X ++ a :: Y)) 4294967295#32 = sumB (toB (X ++ b :: Y)) 4294967295#32 := by
    have := congrArg (fun x => ~~~x) h1
    simpa using this
  rw [toB_app, toB_app] at h2
  have := sumB_turn (toB X) (toB Y) (UInt8.ofNat a.toNat) (UInt8.ofNat b.toNat) _ h2
  have := congrArg UInt8.toNat this
  simp only [UInt8.toNat_ofNat'] at this
  omega
theorem shr32 {n : Int} (h : 0 ≤ n) (k : Nat) (hk : k ≤ 32) : iShr .u32 n (k : Int) = n / 2 ^ k := by
  unfold iShr
  rw [Int.toNat_natCast, Nat.min_eq_left (show k ≤ IntKind.bits .u32 from hk), Int.fdiv_eq_ediv_of_nonneg _ (Int.le_of_lt (Int.pow_pos (by decide)))]
theorem four_inj {n m : Int} (hn : 0 ≤ n ∧ n < 4294967296) (hm : 0 ≤ m ∧ m < 4294967296) (h : four n = four m) : n = m := by
  unfold four at h
  have s1 := shr32 hn.1 24 (by omega)
  have s2 := shr32 hn.1 16 (by omega)
  have s3 := shr32 hn.1 8 (by omega)
  have t1 := shr32 hm.1 24 (by omega)
  have t2 := shr32 hm.1 16 (by omega)
  have t3 := shr32 hm.1 8 (by omega)
  rw [show ((24 : Nat) : Int) = 24 from rfl] at s1 t1
  rw [show ((16 : Nat) : Int) = 16 from rfl] at s2 t2
  rw [show ((8 : Nat) : Int) = 8 from rfl] at s3 t3
  simp only [s1, s2, s3, t1, t2, t3, wu8_mod, List.cons.injEq, and_true] at h
  obtain ⟨h1, h2, h3, h4⟩ := h
  have e1 : (2 : Int) ^ 24 = 16777216 := rfl
  have e2 : (2 : Int) ^ 16 = 65536 := rfl
  have e3 : (2 : Int) ^ 8 = 256 := rfl
  rw [e1] at h1; rw [e2] at h2; rw [e3] at h3
  omega
theorem tk_cut : ∀ (f i : Nat) (n acc : Int) (j : Nat), f + i = 9 → 0 ≤ n → n < 2 ^ (64 - 7 * i) → (0 < i → 1 ≤ n) → j < (dgF f n).length → tk i acc ((dgF f n).take j) = .inr 5 := by
  intro f
  induction f with
  | zero =>
    intro i n acc j hi h0 h1 hn hj
    simp only [dgF, List.length_singleton] at hj
    obtain rfl : j = 0 := by omega
    rfl
  | succ f ih =>
    intro i n acc j hi h0 h1 hn hj
    by_cases hs : n < 128
    · rw [dgF_lt hs] at hj ⊢
      simp only [List.length_singleton] at hj
      obtain rfl : j = 0 := by omega
      rfl
    · have e : dgF (f + 1) n = (128 + n % 128) :: dgF f (n / 128) := by rw [dgF, if_neg hs]
      rw [e] at hj ⊢
      cases j with
      | zero => rfl
      | succ j =>
        simp only [List.length_cons] at hj
        rw [List.take_succ_cons]
        unfold tk
        rw [if_neg (by omega), if_neg (by omega)]
        have hp : (2 : Int) ^ (64 - 7 * i) = 2 ^ (64 - 7 * (i + 1)) * 128 := by
          rw [show 64 - 7 * i = (64 - 7 * (i + 1)) + 7 from by omega, Int.pow_add]; rfl
        exact ih (i + 1) (n / 128) _ j (by omega) (by omega) (by rw [hp] at h1; omega) (fun _ => by omega) (by omega)
theorem dgF_mono : ∀ (f : Nat) (n m : Int), 0 ≤ n → n ≤ m → (dgF f n).length ≤ (dgF f m).length
  | 0, _, _, _, _ => Nat.le_refl _
  | f + 1, n, m, h0, h => by
    unfold dgF
    split
    · split
      · exact Nat.le_refl _
      · simp
    · rw [if_neg (by omega)]
      have := dgF_mono f (n / 128) (m / 128) (by omega) (by omega)
      simp only [List.length_cons]; omega
theorem rcd_len_inj {b p : List Int} (h : (rcd b).length = (rcd p).length) : b.length = p.length := by
  rw [rcd_len, rcd_len] at h
  rcases Nat.lt_trichotomy b.length p.length with q | q | q
  · have : (dg (b.length : Int)).length ≤ (dg (p.length : Int)).length := dgF_mono 9 _ _ (by omega) (by omega)
    omega
  · exact q
  · have : (dg (p.length : Int)).length ≤ (dg (b.length : Int)).length := dgF_mono 9 _ _ (by omega) (by omega)
    omega
end Go.IM.V
namespace Go.IM.V
open Go Go.IM Go.Proofs
theorem F28_eq (q v : List Int) (hv : Vok v) (hl : v.length < 2 ^ 30) (hq : q.length + 10 * v.length + 30 < lim) : F28 q v = some (ro (q ++ encV v)) := by
  unfold F28
  have h1 := trim_le v
  rw [L37a_run q v (by omega) v.length (Nat.le_refl _)]
  simp only [Option.bind_some]
  have h2 := trimN_le v v.length
  have h3 := dg_len (trimN v v.length)
  rw [wu64 (by omega) (by omega), F26_eq _ _ (by omega) (by omega) (by omega)]
  simp only [Option.bind_some]
  have := L37b_run v (trimN v v.length) h2 hv hl (trimN v v.length) 0 (q ++ dg (trimN v v.length)) (by omega) (by simp; omega)
  rw [show ((0 : Nat) : Int) = 0 from rfl] at this
  rw [this]
  simp only [Option.bind_some]
  unfold encV encL
  rw [trim_len]
  simp [trim]
theorem lt_lim {n : Nat} (h : n < 200000000) : n < lim := by unfold lim; omega
abbrev Rw : Type := Int × List Int × Int × Unit
structure RwOK (r : Rw) : Prop where
  n0 : 0 ≤ r.1
  n1 : r.1 ≤ 63
  v : Sml r.2.1
  l : r.2.1.length ≤ 64
  t0 : 0 ≤ r.2.2.1
  t1 : r.2.2.1 ≤ 9223372036854775807
def encRw (r : Rw) : List Int := dg r.1 ++ encV r.2.1 ++ dg r.2.2.1
def encRs (l : List Rw) : List Int := dg l.length ++ l.flatMap encRw
theorem encV_len {v : List Int} {n : Nat} (h : v.length ≤ n) : (encV v).length ≤ 10 + 10 * n := by
  unfold encV
  have := encL_len (trim v)
  have := trim_le v
  omega
theorem encRw_len {r : Rw} (h : RwOK r) : (encRw r).length ≤ 700 := by
  unfold encRw
  have := dg_len r.1
  have := dg_len r.2.2.1
  have := encV_len h.l
  simp only [List.length_append]
  omega
theorem flat_len {α : Type} {f : α → List Int} {n : Nat} : ∀ {l : List α}, (∀ x ∈ l, (f x).length ≤ n) → (l.flatMap f).length ≤ n * l.length
  | [], _ => by simp
  | a :: l, h => by
    have h1 := h a (List.mem_cons_self ..)
    have h2 := flat_len (f := f) (n := n) (l := l) fun x hx => h x (List.mem_cons_of_mem _ hx)
    rw [List.flatMap_cons, List.length_append, List.length_cons, Nat.mul_succ]
    omega
theorem Sml.vk {v : List Int} (h : Sml v) : Vok v := fun x hx => by have := h x hx; omega
theorem getD_at {α : Type} {l : List α} {k : Nat} {d : α} (h : k < l.length) : l.getD (k : Int).toNat d = l[k] := by
  rw [Int.toNat_natCast, List.getD_eq_getElem?_getD, List.getElem?_eq_getElem h]; rfl
theorem L65_run (l : List Rw) (hl : l.length ≤ 100) (h : ∀ r ∈ l, RwOK r) : ∀ (d k : Nat) (q : List Int), k + d = l.length → q.length + 700 * d < 10000000 → L65_3 l (l.length : Nat) (k : Nat) q = some (((), ()), (), (q ++ (l.drop k).flatMap encRw, ())) := by
  intro d
  induction d with
  | zero =>
    intro k q hk hq
    rw [L65_3_eq]
    simp only [T65_3, cif]
    rw [if_neg (by omega), List.drop_eq_nil_of_le (by omega)]
    simp
  | succ d ih =>
    intro k q hk hq
    have hlt : k < l.length := by omega
    have hr := h _ (List.getElem_mem hlt)
    have hw : IntKind.wrap .i64 ((k : Int) + 1) = ((k + 1 : Nat) : Int) := by rw [w64 (by omega) (by omega)]; omega
    have d1 := dg_len (l[k]'hlt).1
    have d2 := encV_len hr.l
    have d3 := dg_len (l[k]'hlt).2.2.1
    have g0 := hr.n0
    have g1 := hr.n1
    have g2 := hr.l
    have g3 := hr.t0
    have g4 := hr.t1
    rw [L65_3_eq]
    simp only [T65_3, cif, getD_at hlt, hw]
    rw [if_pos (by omega), if_pos (by omega), wu64 (by omega) (by omega), F51_eq _ _ (by omega) (by omega) (lt_lim (by omega))]
    simp only [Option.bind_some]
    rw [F53_eq _ _ hr.v.vk (by omega) (lt_lim (by simp; omega))]
    simp only [Option.bind_some]
    rw [F51_eq _ _ (by omega) (by omega) (lt_lim (by simp; omega))]
    simp only [Option.bind_some, Sum.elim_inl]
    have e : q ++ dg (l[k]'hlt).1 ++ encV (l[k]'hlt).2.1 ++ dg (l[k]'hlt).2.2.1 = q ++ encRw (l[k]'hlt) := by unfold encRw; simp
    have := encRw_len hr
    rw [e, ih (k + 1) _ (by omega) (by simp; omega), List.drop_eq_getElem_cons hlt, List.flatMap_cons]
    simp
theorem F65_eq (l : List Rw) (q : List Int) (hl : l.length ≤ 64) (h : ∀ r ∈ l, RwOK r) (hq : q.length < 1000000) : F65 l q = some (ro (q ++ encRs l)) := by
  unfold F65
  have := dg_len (l.length : Int)
  rw [wu64 (by omega) (by omega), F51_eq _ _ (by omega) (by omega) (lt_lim (by omega))]
  simp only [Option.bind_some]
  have := L65_run l (by omega) h l.length 0 (q ++ dg (l.length : Int)) (by omega) (by simp; omega)
  rw [show ((0 : Nat) : Int) = 0 from rfl] at this
  rw [this]
  simp [encRs]
section
variable (x0 x1 x2 : Int) (x3 : Bool) (x4 : Int) (x5 : List Int) (x7 : List Ev) (x8 x9 x10 x11 : Int) (x12 : List Int) (x13 : Int)
theorem L10a_run (l : List Rw) (hl : l.length ≤ 100) (h : ∀ r ∈ l, RwOK r) : ∀ (d k : Nat) (q : List Int), k + d = l.length → q.length + 700 * d < 10000000 →
    L10_13 (k : Nat) x0 x1 x2 x3 x4 x5 l x7 x8 x9 x10 x11 x12 x13 q = some (((), ()), ((x0, x1, x2, x3, x4, x5, l, x7, x8, x9, x10, x11, x12, x13, ()), ()), (q ++ (l.drop k).flatMap encRw, ())) := by
  intro d
  induction d with
  | zero =>
    intro k q hk hq
    rw [L10_13_eq]
    simp only [T10_13, cif]
    rw [if_neg (by omega), List.drop_eq_nil_of_le (by omega)]
    simp
  | succ d ih =>
    intro k q hk hq
    have hlt : k < l.length := by omega
    have hr := h _ (List.getElem_mem hlt)
    have hw : IntKind.wrap .i64 ((k : Int) + 1) = ((k + 1 : Nat) : Int) := by rw [w64 (by omega) (by omega)]; omega
    have d1 := dg_len (l[k]'hlt).1
    have d2 := encV_len hr.l
    have d3 := dg_len (l[k]'hlt).2.2.1
    have g0 := hr.n0
    have g1 := hr.n1
    have g2 := hr.l
    have g3 := hr.t0
    have g4 := hr.t1
    have hcc : (0 : Int) ≤ (k : Int) ∧ (k : Int) < (l.length : Int) := by omega
    rw [L10_13_eq]
    simp only [T10_13, cif, getD_at hlt, hw]
    rw [if_pos (by omega), if_pos hcc, wu64 (by omega) (by omega), F26_eq _ _ (by omega) (by omega) (lt_lim (by omega))]
    simp only [Option.bind_some]
    rw [if_pos hcc, F28_eq _ _ hr.v.vk (by omega) (lt_lim (by simp; omega))]
    simp only [Option.bind_some]
    rw [if_pos hcc, F26_eq _ _ (by omega) (by omega) (lt_lim (by simp; omega))]
    simp only [Option.bind_some, Sum.elim_inl]
    have e : q ++ dg (l[k]'hlt).1 ++ encV (l[k]'hlt).2.1 ++ dg (l[k]'hlt).2.2.1 = q ++ encRw (l[k]'hlt) := by unfold encRw; simp
    have := encRw_len hr
    rw [e, ih (k + 1) _ (by omega) (by simp; omega), List.drop_eq_getElem_cons hlt, List.flatMap_cons]
    simp
end
structure EvR (e : Ev) : Prop where
  r : rgt e = 0
  w : EvW e
  l : (encE e).length ≤ 1000
  b : Bys (encE e)
def encEs (l : List Ev) : List Int := dg l.length ++ l.flatMap fun e => dgT (encE e)
theorem EvR.F66 {e : Ev} (h : EvR e) : F66 e = some (ro (encE e)) := F66_eq e (h.w.ok h.r)
theorem EvR.F33 {e : Ev} (h : EvR e) : F33 e = some (ro (encE e)) := F33_eq e (h.w.ok h.r) (rgt_kind h.r)
theorem EvR.len {e : Ev} (h : EvR e) : (dgT (encE e)).length ≤ 1010 := by
  have := dgT_len (encE e)
  have := h.l
  omega
theorem L32_run (l : List Ev) (hl : l.length ≤ 1000) (h : ∀ r ∈ l, EvR r) : ∀ (d k : Nat) (q : List Int), k + d = l.length → q.length + 1010 * d < 100000000 → L32_12 l (l.length : Nat) (k : Nat) q = some (((), ()), (), (q ++ (l.drop k).flatMap (fun e => dgT (encE e)), ())) := by
  intro d
  induction d with
  | zero =>
    intro k q hk hq
    rw [L32_12_eq]
    simp only [T32_12, cif]
    rw [if_neg (by omega), List.drop_eq_nil_of_le (by omega)]
    simp
  | succ d ih =>
    intro k q hk hq
    have hlt : k < l.length := by omega
    have hr := h _ (List.getElem_mem hlt)
    have hw : IntKind.wrap .i64 ((k : Int) + 1) = ((k + 1 : Nat) : Int) := by rw [w64 (by omega) (by omega)]; omega
    have d1 := hr.len
    have d2 := hr.l
    rw [L32_12_eq]
    simp only [T32_12, cif, getD_at hlt, hw]
    rw [if_pos (by omega), if_pos (by omega), show F66 _ = _ from hr.F66]
    simp only [Option.bind_some]
    rw [F52_eq _ _ (by omega) (lt_lim (by omega))]
    simp only [Option.bind_some, Sum.elim_inl]
    rw [ih (k + 1) _ (by omega) (by simp; omega), List.drop_eq_getElem_cons hlt, List.flatMap_cons]
    simp
section
variable (x0 x1 x2 : Int) (x3 : Bool) (x4 : Int) (x5 : List Int) (x6 : List Rw) (x8 x9 x10 x11 : Int) (x12 : List Int) (x13 : Int)
theorem L10b_run (l : List Ev) (hl : l.length ≤ 1000) (h : ∀ r ∈ l, EvR r) : ∀ (d k : Nat) (q : List Int), k + d = l.length → q.length + 1010 * d < 100000000 →
    L10_19 (k : Nat) x0 x1 x2 x3 x4 x5 x6 l x8 x9 x10 x11 x12 x13 q = some (((), ()), ((x0, x1, x2, x3, x4, x5, x6, l, x8, x9, x10, x11, x12, x13, ()), ()), (q ++ (l.drop k).flatMap (fun e => dgT (encE e)), ())) := by
  intro d
  induction d with
  | zero =>
    intro k q hk hq
    rw [L10_19_eq]
    simp only [T10_19, cif]
    rw [if_neg (by omega), List.drop_eq_nil_of_le (by omega)]
    simp
  | succ d ih =>
    intro k q hk hq
    have hlt : k < l.length := by omega
    have hr := h _ (List.getElem_mem hlt)
    have hw : IntKind.wrap .i64 ((k : Int) + 1) = ((k + 1 : Nat) : Int) := by rw [w64 (by omega) (by omega)]; omega
    have d1 := hr.len
    have d2 := hr.l
    rw [L10_19_eq]
    simp only [T10_19, cif, getD_at hlt, hw]
    rw [if_pos (by omega), if_pos (by omega), show F33 _ = _ from hr.F33]
    simp only [Option.bind_some]
    rw [F27_eq _ _ (by omega) (lt_lim (by omega))]
    simp only [Option.bind_some, Sum.elim_inl]
    rw [ih (k + 1) _ (by omega) (by simp; omega), List.drop_eq_getElem_cons hlt, List.flatMap_cons]
    simp
end
end Go.IM.V
namespace Go.IM.V
open Go Go.IM Go.Proofs
abbrev Lt : Type := Int × Int × Int × Bool × Int × List Int × List Rw × List Ev × Int × Int × Int × Int × List Int × Int × Unit
structure LOK (k f t : Int) (mine : Bool) (ser : Int) (hv : List Int) (rs : List Rw) (es : List Ev) (tm sz sum at' : Int) (bs : List Int) (why : Int) : Prop where
  k1 : 1 ≤ k
  k7 : k ≤ 7
  f0 : 0 ≤ f
  f1 : f ≤ 63
  t0 : 0 ≤ t
  t1 : t ≤ 63
  s0 : 0 ≤ ser
  s1 : ser ≤ 9223372036854775807
  v : Sml hv
  vl : hv.length ≤ 64
  r : ∀ r ∈ rs, RwOK r
  rl : rs.length ≤ 64
  e : ∀ e ∈ es, EvR e
  el : es.length ≤ 1000
  tm0 : 0 ≤ tm
  tm1 : tm < 18446744073709551616
  sz0 : 0 ≤ sz
  sz1 : sz < 18446744073709551616
  sm0 : 0 ≤ sum
  sm1 : sum < 4294967296
  at0 : 0 ≤ at'
  at1 : at' < 18446744073709551616
  b : Bys bs
  bl : bs.length ≤ 1000
  w0 : 0 ≤ why
  w1 : why ≤ 65536
def hdL (k f t : Int) (mine : Bool) (ser : Int) : List Int := dg 1 ++ [k] ++ dg f ++ dg t ++ dg (if mine then 1 else 0) ++ dg ser
noncomputable def bodyL (k f t : Int) (mine : Bool) (ser : Int) (hv : List Int) (rs : List Rw) (es : List Ev) (tm sz sum at' : Int) (bs : List Int) (why : Int) : List Int :=
  if k = 1 ∨ k = 2 ∨ k = 4 then hdL k f t mine ser ++ encV hv ++ encRs rs
  else if k = 3 then hdL k f t mine ser ++ encV hv ++ encEs es
  else if k = 5 then hdL k f t mine ser ++ encV hv ++ dg tm ++ dg sz ++ dg sum
  else if k = 6 then hdL k f t mine ser ++ dg sz ++ dg at' ++ dgT bs
  else hdL k f t mine ser ++ dg why
theorem hdL_len (k f t : Int) (mine : Bool) (ser : Int) : (hdL k f t mine ser).length ≤ 51 := by
  unfold hdL
  have := dg_len 1
  have := dg_len f
  have := dg_len t
  have := dg_len (if mine then 1 else 0)
  have := dg_len ser
  simp only [List.length_append, List.length_cons, List.length_nil]
  omega
theorem Bys.flat {α : Type} {f : α → List Int} : ∀ {l : List α}, (∀ x ∈ l, Bys (f x)) → Bys (l.flatMap f)
  | [], _ => fun x hx => by simp at hx
  | a :: l, h => by
    rw [List.flatMap_cons]
    exact (h a (List.mem_cons_self ..)).app (Bys.flat fun x hx => h x (List.mem_cons_of_mem _ hx))
theorem encV_byte {v : List Int} (h : Sml v) (hl : v.length ≤ 64) : Bys (encV v) := by
  have := trim_le v
  exact encL_byte h.trim.vk (by omega)
theorem encRs_byte {l : List Rw} (h : ∀ r ∈ l, RwOK r) (hl : l.length ≤ 64) : Bys (encRs l) := by
  refine (dg_byte (by omega) (by omega)).app (Bys.flat fun r hr => ?_)
  have g := h r hr
  have g0 := g.n0
  have g1 := g.n1
  have g2 := g.t0
  have g3 := g.t1
  exact ((dg_byte (by omega) (by omega)).app (encV_byte g.v g.l)).app (dg_byte (by omega) (by omega))
theorem encEs_byte {l : List Ev} (h : ∀ r ∈ l, EvR r) (hl : l.length ≤ 1000) : Bys (encEs l) := by
  refine (dg_byte (by omega) (by omega)).app (Bys.flat fun e he => ?_)
  have g := h e he
  have := g.l
  exact dgT_byte g.b (by omega)
theorem encRs_len {l : List Rw} (h : ∀ r ∈ l, RwOK r) (hl : l.length ≤ 64) : (encRs l).length ≤ 50000 := by
  unfold encRs
  have := dg_len (l.length : Int)
  have := flat_len (f := encRw) (n := 700) (l := l) fun r hr => encRw_len (h r hr)
  rw [List.length_append]
  omega
theorem encEs_len {l : List Ev} (h : ∀ r ∈ l, EvR r) (hl : l.length ≤ 1000) : (encEs l).length ≤ 1010010 := by
  unfold encEs
  have := dg_len (l.length : Int)
  have := flat_len (f := fun e => dgT (encE e)) (n := 1010) (l := l) fun r hr => (h r hr).len
  rw [List.length_append]
  omega
variable {k f t : Int} {mine : Bool} {ser : Int} {hv : List Int} {rs : List Rw} {es : List Ev} {tm sz sum at' : Int} {bs : List Int} {why : Int}
theorem hdL_byte (h : LOK k f t mine ser hv rs es tm sz sum at' bs why) : Bys (hdL k f t mine ser) := by
  have g1 := h.k1
  have g2 := h.k7
  have g3 := h.f0
  have g4 := h.f1
  have g5 := h.t0
  have g6 := h.t1
  have g7 := h.s0
  have g8 := h.s1
  unfold hdL
  refine Bys.app (Bys.app (Bys.app (Bys.app (Bys.app (dg_byte (by omega) (by omega)) ?_) (dg_byte (by omega) (by omega))) (dg_byte (by omega) (by omega))) ?_) (dg_byte (by omega) (by omega))
  · intro x hx
    rw [List.mem_singleton] at hx
    omega
  · cases mine <;> exact dg_byte (by decide) (by decide)
theorem bodyL_ok (h : LOK k f t mine ser hv rs es tm sz sum at' bs why) : Bys (bodyL k f t mine ser hv rs es tm sz sum at' bs why) ∧ (bodyL k f t mine ser hv rs es tm sz sum at' bs why).length ≤ 2000000 := by
  have hb := hdL_byte h
  have hl := hdL_len k f t mine ser
  have vb := encV_byte h.v h.vl
  have vl := encV_len h.vl
  have g1 := h.tm0
  have g2 := h.tm1
  have g3 := h.sz0
  have g4 := h.sz1
  have g5 := h.sm0
  have g6 := h.sm1
  have g7 := h.at0
  have g8 := h.at1
  have g9 := h.w0
  have g10 := h.w1
  have g11 := h.bl
  unfold bodyL
  split
  · have := encRs_len h.r h.rl
    exact ⟨(hb.app vb).app (encRs_byte h.r h.rl), by simp only [List.length_append]; omega⟩
  · split
    · have := encEs_len h.e h.el
      exact ⟨(hb.app vb).app (encEs_byte h.e h.el), by simp only [List.length_append]; omega⟩
    · split
      · have := dg_len tm
        have := dg_len sz
        have := dg_len sum
        exact ⟨(((hb.app vb).app (dg_byte (by omega) (by omega))).app (dg_byte (by omega) (by omega))).app (dg_byte (by omega) (by omega)), by simp only [List.length_append]; omega⟩
      · split
        · have := dg_len sz
          have := dg_len at'
          have := dgT_len bs
          exact ⟨((hb.app (dg_byte (by omega) (by omega))).app (dg_byte (by omega) (by omega))).app (dgT_byte h.b (by omega)), by simp only [List.length_append]; omega⟩
        · have := dg_len why
          exact ⟨hb.app (dg_byte (by omega) (by omega)), by simp only [List.length_append]; omega⟩
theorem F32_ok (h : LOK k f t mine ser hv rs es tm sz sum at' bs why) : F32 (k, f, t, mine, ser, hv, rs, es, tm, sz, sum, at', bs, why, ()) = some (ro (rcd (bodyL k f t mine ser hv rs es tm sz sum at' bs why))) := by
  obtain ⟨bb, bl⟩ := bodyL_ok h
  have h1 := h.k1
  have h2 := h.k7
  have f0 := h.f0
  have f1 := h.f1
  have t0 := h.t0
  have t1 := h.t1
  have s0 := h.s0
  have s1 := h.s1
  have d0 := dg_len 1
  have d1 := dg_len f
  have d2 := dg_len t
  have d3 := dg_len (if mine then 1 else 0)
  have d4 := dg_len ser
  have hf0 : (0 : Int) ≤ (if mine then 1 else 0) := by split <;> omega
  have hf1 : (if mine then 1 else 0) < (18446744073709551616 : Int) := by split <;> omega
  unfold F32
  rw [F51_eq _ _ (by omega) (by omega) (lt_lim (by first | omega | (simp only [List.length_append, List.length_cons, List.length_nil]; omega) | (simp; omega) | simp))]
  simp only [Option.bind_some, cif, List.nil_append]
  rw [if_pos (lt_lim (by first | omega | (simp only [List.length_append, List.length_cons, List.length_nil]; omega) | (simp; omega) | simp)), wu64 (by omega) (by omega), F51_eq _ _ (by omega) (by omega) (lt_lim (by first | omega | (simp only [List.length_append, List.length_cons, List.length_nil]; omega) | (simp; omega) | simp))]
  simp only [Option.bind_some]
  rw [wu64 (by omega) (by omega), F51_eq _ _ (by omega) (by omega) (lt_lim (by first | omega | (simp only [List.length_append, List.length_cons, List.length_nil]; omega) | (simp; omega) | simp))]
  simp only [Option.bind_some]
  rw [show F64 mine = some (r1 (if mine then 1 else 0)) by cases mine <;> rfl]
  simp only [Option.bind_some]
  rw [F51_eq _ _ hf0 hf1 (lt_lim (by first | omega | (simp only [List.length_append, List.length_cons, List.length_nil]; omega) | (simp; omega) | simp))]
  simp only [Option.bind_some]
  rw [F51_eq _ _ (by omega) (by omega) (lt_lim (by first | omega | (simp only [List.length_append, List.length_cons, List.length_nil]; omega) | (simp; omega) | simp))]
  simp only [Option.bind_some]
  rw [show dg 1 ++ [k] ++ dg f ++ dg t ++ dg (if mine then 1 else 0) ++ dg ser = hdL k f t mine ser from rfl]
  have hl := hdL_len k f t mine ser
  have vl := encV_len h.vl
  have vl2 := h.vl
  clear d0 d1 d2 d3 d4
  unfold bodyL at bb bl ⊢
  by_cases c1 : k = 1
  · rw [show (k == 1) = true from beq_iff_eq.2 c1]
    rw [if_pos (.inl c1)] at bb bl ⊢
    simp only [cond_true]
    rw [F53_eq _ _ h.v.vk (by omega) (lt_lim (by omega))]
    simp only [Option.bind_some]
    rw [F65_eq _ _ h.rl h.r (by first | omega | (simp only [List.length_append, List.length_cons, List.length_nil]; omega) | (simp; omega) | simp)]
    simp only [Option.bind_some]
    rw [F49_eq _ bb (by omega)]
    rfl
  rw [show (k == 1) = false from beq_eq_false_iff_ne.2 c1]
  by_cases c2 : k = 2
  · rw [show (k == 2) = true from beq_iff_eq.2 c2]
    rw [if_pos (.inr (.inl c2))] at bb bl ⊢
    simp only [cond_true, cond_false]
    rw [F53_eq _ _ h.v.vk (by omega) (lt_lim (by omega))]
    simp only [Option.bind_some]
    rw [F65_eq _ _ h.rl h.r (by first | omega | (simp only [List.length_append, List.length_cons, List.length_nil]; omega) | (simp; omega) | simp)]
    simp only [Option.bind_some]
    rw [F49_eq _ bb (by omega)]
    rfl
  rw [show (k == 2) = false from beq_eq_false_iff_ne.2 c2]
  by_cases c4 : k = 4
  · rw [show (k == 4) = true from beq_iff_eq.2 c4]
    rw [if_pos (.inr (.inr c4))] at bb bl ⊢
    simp only [cond_true, cond_false]
    rw [F53_eq _ _ h.v.vk (by omega) (lt_lim (by omega))]
    simp only [Option.bind_some]
    rw [F65_eq _ _ h.rl h.r (by first | omega | (simp only [List.length_append, List.length_cons, List.length_nil]; omega) | (simp; omega) | simp)]
    simp only [Option.bind_some]
    rw [F49_eq _ bb (by omega)]
    rfl
  rw [show (k == 4) = false from beq_eq_false_iff_ne.2 c4]
  rw [if_neg (show ¬ (k = 1 ∨ k = 2 ∨ k = 4) by omega)] at bb bl ⊢
  by_cases c3 : k = 3
  · rw [show (k == 3) = true from beq_iff_eq.2 c3]
    rw [if_pos c3] at bb bl ⊢
    simp only [cond_true, cond_false]
    have el := h.el
    have dl := dg_len (es.length : Int)
    rw [F53_eq _ _ h.v.vk (by omega) (lt_lim (by omega))]
    simp only [Option.bind_some]
    rw [wu64 (by omega) (by omega), F51_eq _ _ (by omega) (by omega) (lt_lim (by first | omega | (simp only [List.length_append, List.length_cons, List.length_nil]; omega) | (simp; omega) | simp))]
    simp only [Option.bind_some]
    have := L32_run es el h.e es.length 0 (hdL k f t mine ser ++ encV hv ++ dg (es.length : Int)) (by omega) (by first | omega | (simp only [List.length_append, List.length_cons, List.length_nil]; omega) | (simp; omega) | simp)
    rw [show ((0 : Nat) : Int) = 0 from rfl] at this
    rw [this]
    simp only [Option.bind_some]
    rw [show hdL k f t mine ser ++ encV hv ++ dg (es.length : Int) ++ List.flatMap (fun e => dgT (encE e)) (List.drop 0 es) = hdL k f t mine ser ++ encV hv ++ encEs es by unfold encEs; simp]
    rw [F49_eq _ bb (by omega)]
    rfl
  rw [show (k == 3) = false from beq_eq_false_iff_ne.2 c3]
  rw [if_neg c3] at bb bl ⊢
  have g1 := h.tm0
  have g2 := h.tm1
  have g3 := h.sz0
  have g4 := h.sz1
  have g5 := h.sm0
  have g6 := h.sm1
  have g7 := h.at0
  have g8 := h.at1
  have g9 := h.w0
  have g10 := h.w1
  have g11 := h.bl
  have e1 := dg_len tm
  have e2 := dg_len sz
  have e3 := dg_len sum
  have e4 := dg_len at'
  by_cases c5 : k = 5
  · rw [show (k == 5) = true from beq_iff_eq.2 c5]
    rw [if_pos c5] at bb bl ⊢
    simp only [cond_true, cond_false]
    rw [F53_eq _ _ h.v.vk (by omega) (lt_lim (by omega))]
    simp only [Option.bind_some]
    rw [F51_eq _ _ (by omega) (by omega) (lt_lim (by first | omega | (simp only [List.length_append, List.length_cons, List.length_nil]; omega) | (simp; omega) | simp))]
    simp only [Option.bind_some]
    rw [F51_eq _ _ (by omega) (by omega) (lt_lim (by first | omega | (simp only [List.length_append, List.length_cons, List.length_nil]; omega) | (simp; omega) | simp))]
    simp only [Option.bind_some]
    rw [wu64 (by omega) (by omega), F51_eq _ _ (by omega) (by omega) (lt_lim (by first | omega | (simp only [List.length_append, List.length_cons, List.length_nil]; omega) | (simp; omega) | simp))]
    simp only [Option.bind_some]
    rw [F49_eq _ bb (by omega)]
    rfl
  rw [show (k == 5) = false from beq_eq_false_iff_ne.2 c5]
  rw [if_neg c5] at bb bl ⊢
  by_cases c6 : k = 6
  · rw [show (k == 6) = true from beq_iff_eq.2 c6]
    rw [if_pos c6] at bb bl ⊢
    simp only [cond_true, cond_false]
    rw [F51_eq _ _ (by omega) (by omega) (lt_lim (by first | omega | (simp only [List.length_append, List.length_cons, List.length_nil]; omega) | (simp; omega) | simp))]
    simp only [Option.bind_some]
    rw [F51_eq _ _ (by omega) (by omega) (lt_lim (by first | omega | (simp only [List.length_append, List.length_cons, List.length_nil]; omega) | (simp; omega) | simp))]
    simp only [Option.bind_some]
    rw [F52_eq _ _ (by omega) (lt_lim (by first | omega | (simp only [List.length_append, List.length_cons, List.length_nil]; omega) | (simp; omega) | simp))]
    simp only [Option.bind_some]
    rw [F49_eq _ bb (by omega)]
    rfl
  rw [show (k == 6) = false from beq_eq_false_iff_ne.2 c6]
  rw [if_neg c6] at bb bl ⊢
  rw [show (k == 7) = true from beq_iff_eq.2 (by omega)]
  simp only [cond_true, cond_false]
  rw [wu64 (by omega) (by omega), F51_eq _ _ (by omega) (by omega) (lt_lim (by first | omega | (simp only [List.length_append, List.length_cons, List.length_nil]; omega) | (simp; omega) | simp))]
  simp only [Option.bind_some]
  rw [F49_eq _ bb (by omega)]
  rfl
theorem F10_ok (h : LOK k f t mine ser hv rs es tm sz sum at' bs why) : F10 (k, f, t, mine, ser, hv, rs, es, tm, sz, sum, at', bs, why, ()) = some (ro (rcd (bodyL k f t mine ser hv rs es tm sz sum at' bs why))) := by
  obtain ⟨bb, bl⟩ := bodyL_ok h
  have h1 := h.k1
  have h2 := h.k7
  have f0 := h.f0
  have f1 := h.f1
  have t0 := h.t0
  have t1 := h.t1
  have s0 := h.s0
  have s1 := h.s1
  have d0 := dg_len 1
  have d1 := dg_len f
  have d2 := dg_len t
  have d3 := dg_len (if mine then 1 else 0)
  have d4 := dg_len ser
  unfold F10
  rw [F26_eq _ _ (by omega) (by omega) (lt_lim (by first | omega | (simp only [List.length_append, List.length_cons, List.length_nil]; omega) | (simp; omega) | simp))]
  simp only [Option.bind_some, cif, List.nil_append]
  rw [if_pos (lt_lim (by first | omega | (simp only [List.length_append, List.length_cons, List.length_nil]; omega) | (simp; omega) | simp))]
  have key : ∀ (flg : Int), flg = (if mine then 1 else 0) → ((F26 (dg 1 ++ [k]) (IntKind.wrap .u64 f)).bind fun a => (F26 a.2.2.1 (IntKind.wrap .u64 t)).bind fun b => (F26 b.2.2.1 flg).bind fun c => F26 c.2.2.1 ser) = some (ro (hdL k f t mine ser)) := by
    intro flg hflg
    have hf0 : (0 : Int) ≤ flg := by rw [hflg]; split <;> omega
    have hf1 : flg < (18446744073709551616 : Int) := by rw [hflg]; split <;> omega
    have d3' := dg_len flg
    rw [wu64 (by omega) (by omega), F26_eq _ _ (by omega) (by omega) (lt_lim (by first | omega | (simp only [List.length_append, List.length_cons, List.length_nil]; omega) | (simp; omega) | simp))]
    simp only [Option.bind_some]
    rw [wu64 (by omega) (by omega), F26_eq _ _ (by omega) (by omega) (lt_lim (by first | omega | (simp only [List.length_append, List.length_cons, List.length_nil]; omega) | (simp; omega) | simp))]
    simp only [Option.bind_some]
    rw [F26_eq _ _ hf0 hf1 (lt_lim (by first | omega | (simp only [List.length_append, List.length_cons, List.length_nil]; omega) | (simp; omega) | simp))]
    simp only [Option.bind_some]
    rw [F26_eq _ _ (by omega) (by omega) (lt_lim (by first | omega | (simp only [List.length_append, List.length_cons, List.length_nil]; omega) | (simp; omega) | simp)), hflg]
    rfl
  have two : ∀ {G : Option ((Unit × Unit) × Unit × (List Int × Unit))} {K : ((Unit × Unit) × Unit × (List Int × Unit)) → Option ((Unit × Unit) × Unit × (List Int × Unit))}, (∀ (flg : Int), flg = (if mine then 1 else 0) → ((F26 (dg 1 ++ [k]) (IntKind.wrap .u64 f)).bind fun a => (F26 a.2.2.1 (IntKind.wrap .u64 t)).bind fun b => (F26 b.2.2.1 flg).bind fun c => (F26 c.2.2.1 ser).bind K) = K (ro (hdL k f t mine ser))) := by
    intro G K flg hflg
    have := congrArg (fun q => q.bind K) (key flg hflg)
    simpa only [Option.bind_assoc, Option.bind_some] using this
  have pick : ∀ {K : ((Unit × Unit) × Unit × (List Int × Unit)) → Option ((Unit × Unit) × Unit × (List Int × Unit))}, (bif mine then ((F26 (dg 1 ++ [k]) (IntKind.wrap .u64 f)).bind fun a => (F26 a.2.2.1 (IntKind.wrap .u64 t)).bind fun b => (F26 b.2.2.1 1).bind fun c => (F26 c.2.2.1 ser).bind K)
      else ((F26 (dg 1 ++ [k]) (IntKind.wrap .u64 f)).bind fun a => (F26 a.2.2.1 (IntKind.wrap .u64 t)).bind fun b => (F26 b.2.2.1 0).bind fun c => (F26 c.2.2.1 ser).bind K)) = K (ro (hdL k f t mine ser)) := by
    intro K
    cases hm : mine with
    | true =>
      have := two (G := none) (K := K) 1 (by rw [hm]; rfl)
      rw [hm] at this; exact this
    | false =>
      have := two (G := none) (K := K) 0 (by rw [hm]; rfl)
      rw [hm] at this; exact this
  rw [pick]
  dsimp only
  have hl := hdL_len k f t mine ser
  have vl := encV_len h.vl
  have vl2 := h.vl
  clear d0 d1 d2 d3 d4
  unfold bodyL at bb bl ⊢
  by_cases c1 : k = 1
  · rw [show (k == 1) = true from beq_iff_eq.2 c1]
    rw [if_pos (.inl c1)] at bb bl ⊢
    simp only [cond_true]
    have rl := h.rl
    have dl := dg_len (rs.length : Int)
    rw [F28_eq _ _ h.v.vk (by omega) (lt_lim (by omega))]
    simp only [Option.bind_some]
    rw [wu64 (by omega) (by omega), F26_eq _ _ (by omega) (by omega) (lt_lim (by first | omega | (simp only [List.length_append, List.length_cons, List.length_nil]; omega) | (simp; omega) | simp))]
    simp only [Option.bind_some]
    have := L10a_run k f t mine ser hv es tm sz sum at' bs why rs (by omega) h.r rs.length 0 (hdL k f t mine ser ++ encV hv ++ dg (rs.length : Int)) (by omega) (by first | omega | (simp only [List.length_append, List.length_cons, List.length_nil]; omega) | (simp; omega) | simp)
    rw [show ((0 : Nat) : Int) = 0 from rfl] at this
    rw [this]
    simp only [Option.bind_some]
    rw [show hdL k f t mine ser ++ encV hv ++ dg (rs.length : Int) ++ List.flatMap encRw (List.drop 0 rs) = hdL k f t mine ser ++ encV hv ++ encRs rs by unfold encRs; simp]
    rw [F13_eq _ bb (by omega)]
    rfl
  rw [show (k == 1) = false from beq_eq_false_iff_ne.2 c1]
  by_cases c2 : k = 2
  · rw [show (k == 2) = true from beq_iff_eq.2 c2]
    rw [if_pos (.inr (.inl c2))] at bb bl ⊢
    simp only [cond_true, cond_false]
    have rl := h.rl
    have dl := dg_len (rs.length : Int)
    rw [F28_eq _ _ h.v.vk (by omega) (lt_lim (by omega))]
    simp only [Option.bind_some]
    rw [wu64 (by omega) (by omega), F26_eq _ _ (by omega) (by omega) (lt_lim (by first | omega | (simp only [List.length_append, List.length_cons, List.length_nil]; omega) | (simp; omega) | simp))]
    simp only [Option.bind_some]
    have := L10a_run k f t mine ser hv es tm sz sum at' bs why rs (by omega) h.r rs.length 0 (hdL k f t mine ser ++ encV hv ++ dg (rs.length : Int)) (by omega) (by first | omega | (simp only [List.length_append, List.length_cons, List.length_nil]; omega) | (simp; omega) | simp)
    rw [show ((0 : Nat) : Int) = 0 from rfl] at this
    rw [this]
    simp only [Option.bind_some]
    rw [show hdL k f t mine ser ++ encV hv ++ dg (rs.length : Int) ++ List.flatMap encRw (List.drop 0 rs) = hdL k f t mine ser ++ encV hv ++ encRs rs by unfold encRs; simp]
    rw [F13_eq _ bb (by omega)]
    rfl
  rw [show (k == 2) = false from beq_eq_false_iff_ne.2 c2]
  by_cases c4 : k = 4
  · rw [show (k == 4) = true from beq_iff_eq.2 c4]
    rw [if_pos (.inr (.inr c4))] at bb bl ⊢
    simp only [cond_true, cond_false]
    have rl := h.rl
    have dl := dg_len (rs.length : Int)
    rw [F28_eq _ _ h.v.vk (by omega) (lt_lim (by omega))]
    simp only [Option.bind_some]
    rw [wu64 (by omega) (by omega), F26_eq _ _ (by omega) (by omega) (lt_lim (by first | omega | (simp only [List.length_append, List.length_cons, List.length_nil]; omega) | (simp; omega) | simp))]
    simp only [Option.bind_some]
    have := L10a_run k f t mine ser hv es tm sz sum at' bs why rs (by omega) h.r rs.length 0 (hdL k f t mine ser ++ encV hv ++ dg (rs.length : Int)) (by omega) (by first | omega | (simp only [List.length_append, List.length_cons, List.length_nil]; omega) | (simp; omega) | simp)
    rw [show ((0 : Nat) : Int) = 0 from rfl] at this
    rw [this]
    simp only [Option.bind_some]
    rw [show hdL k f t mine ser ++ encV hv ++ dg (rs.length : Int) ++ List.flatMap encRw (List.drop 0 rs) = hdL k f t mine ser ++ encV hv ++ encRs rs by unfold encRs; simp]
    rw [F13_eq _ bb (by omega)]
    rfl
  rw [show (k == 4) = false from beq_eq_false_iff_ne.2 c4]
  rw [if_neg (show ¬ (k = 1 ∨ k = 2 ∨ k = 4) by omega)] at bb bl ⊢
  by_cases c3 : k = 3
  · rw [show (k == 3) = true from beq_iff_eq.2 c3]
    rw [if_pos c3] at bb bl ⊢
    simp only [cond_true, cond_false]
    have el := h.el
    have dl := dg_len (es.length : Int)
    rw [F28_eq _ _ h.v.vk (by omega) (lt_lim (by omega))]
    simp only [Option.bind_some]
    rw [wu64 (by omega) (by omega), F26_eq _ _ (by omega) (by omega) (lt_lim (by first | omega | (simp only [List.length_append, List.length_cons, List.length_nil]; omega) | (simp; omega) | simp))]
    simp only [Option.bind_some]
    have := L10b_run k f t mine ser hv rs tm sz sum at' bs why es el h.e es.length 0 (hdL k f t mine ser ++ encV hv ++ dg (es.length : Int)) (by omega) (by first | omega | (simp only [List.length_append, List.length_cons, List.length_nil]; omega) | (simp; omega) | simp)
    rw [show ((0 : Nat) : Int) = 0 from rfl] at this
    rw [this]
    simp only [Option.bind_some]
    rw [show hdL k f t mine ser ++ encV hv ++ dg (es.length : Int) ++ List.flatMap (fun e => dgT (encE e)) (List.drop 0 es) = hdL k f t mine ser ++ encV hv ++ encEs es by unfold encEs; simp]
    rw [F13_eq _ bb (by omega)]
    rfl
  rw [show (k == 3) = false from beq_eq_false_iff_ne.2 c3]
  rw [if_neg c3] at bb bl ⊢
  have g1 := h.tm0
  have g2 := h.tm1
  have g3 := h.sz0
  have g4 := h.sz1
  have g5 := h.sm0
  have g6 := h.sm1
  have g7 := h.at0
  have g8 := h.at1
  have g9 := h.w0
  have g10 := h.w1
  have g11 := h.bl
  have e1 := dg_len tm
  have e2 := dg_len sz
  have e3 := dg_len sum
  have e4 := dg_len at'
  by_cases c5 : k = 5
  · rw [show (k == 5) = true from beq_iff_eq.2 c5]
    rw [if_pos c5] at bb bl ⊢
    simp only [cond_true, cond_false]
    rw [F28_eq _ _ h.v.vk (by omega) (lt_lim (by omega))]
    simp only [Option.bind_some]
    rw [F26_eq _ _ (by omega) (by omega) (lt_lim (by first | omega | (simp only [List.length_append, List.length_cons, List.length_nil]; omega) | (simp; omega) | simp))]
    simp only [Option.bind_some]
    rw [F26_eq _ _ (by omega) (by omega) (lt_lim (by first | omega | (simp only [List.length_append, List.length_cons, List.length_nil]; omega) | (simp; omega) | simp))]
    simp only [Option.bind_some]
    rw [wu64 (by omega) (by omega), F26_eq _ _ (by omega) (by omega) (lt_lim (by first | omega | (simp only [List.length_append, List.length_cons, List.length_nil]; omega) | (simp; omega) | simp))]
    simp only [Option.bind_some]
    rw [F13_eq _ bb (by omega)]
    rfl
  rw [show (k == 5) = false from beq_eq_false_iff_ne.2 c5]
  rw [if_neg c5] at bb bl ⊢
  by_cases c6 : k = 6
  · rw [show (k == 6) = true from beq_iff_eq.2 c6]
    rw [if_pos c6] at bb bl ⊢
    simp only [cond_true, cond_false]
    rw [F26_eq _ _ (by omega) (by omega) (lt_lim (by first | omega | (simp only [List.length_append, List.length_cons, List.length_nil]; omega) | (simp; omega) | simp))]
    simp only [Option.bind_some]
    rw [F26_eq _ _ (by omega) (by omega) (lt_lim (by first | omega | (simp only [List.length_append, List.length_cons, List.length_nil]; omega) | (simp; omega) | simp))]
    simp only [Option.bind_some]
    rw [F27_eq _ _ (by omega) (lt_lim (by first | omega | (simp only [List.length_append, List.length_cons, List.length_nil]; omega) | (simp; omega) | simp))]
    simp only [Option.bind_some]
    rw [F13_eq _ bb (by omega)]
    rfl
  rw [show (k == 6) = false from beq_eq_false_iff_ne.2 c6]
  rw [if_neg c6] at bb bl ⊢
  simp only [cond_false]
  rw [wu64 (by omega) (by omega), F26_eq _ _ (by omega) (by omega) (lt_lim (by first | omega | (simp only [List.length_append, List.length_cons, List.length_nil]; omega) | (simp; omega) | simp))]
  simp only [Option.bind_some]
  rw [F13_eq _ bb (by omega)]
  rfl
end Go.IM.V
namespace Go.IM.V
open Go Go.IM Go.Proofs
section
variable (k f t : Int) (mine : Bool) (ser : Int) (hv : List Int)
end
end Go.IM.V
namespace Go.IM.V
open Go Go.IM Go.Proofs
theorem lok0 : LOK 7 1 2 false 3 [] [] [] 0 0 0 0 [] 3 :=
  ⟨by decide, by decide, by decide, by decide, by decide, by decide, by decide, by decide, fun x hx => (by cases hx), by decide, fun x hx => (by cases hx), by decide, fun x hx => (by cases hx), by decide, by decide, by decide, by decide, by decide, by decide, by decide, by decide, by decide, fun x hx => (by cases hx), by decide, by decide, by decide⟩
theorem body0 : bodyL 7 1 2 false 3 [] [] [] 0 0 0 0 [] 3 = [1, 7, 1, 2, 0, 3, 3] := by decide +kernel
theorem byt0 : Bys [1, 7, 1, 2, 0, 3, 3] := by intro x hx; simp at hx; omega
theorem rd0 : F38 [1, 7, 1, 2, 0, 3, 3] = some (((7, 1, 2, false, 3, [], [], [], 0, 0, 0, 0, [], 3, ()), 0, ()), (), ()) := by
  unfold F38 F57
  simp only [Option.bind_some]
  rw [F58_eq _ _ byt0, show tnum 18446744073709551615 [1, 7, 1, 2, 0, 3, 3] = .inl (1, [7, 1, 2, 0, 3, 3]) by decide +kernel]
  simp only [Option.bind_some, Sum.elim_inl]
  rw [show ((1 : Int) != 1) = false from rfl]
  simp only [cond_false]
  rw [F73_eq]
  simp only [Option.bind_some, Sum.elim_inl]
  rw [F58_eq _ _ (show Bys [1, 2, 0, 3, 3] from byt0.drop 2), show tnum 63 [1, 2, 0, 3, 3] = .inl (1, [2, 0, 3, 3]) by decide +kernel]
  simp only [Option.bind_some, Sum.elim_inl]
  rw [F58_eq _ _ (show Bys [2, 0, 3, 3] from byt0.drop 3), show tnum 63 [2, 0, 3, 3] = .inl (2, [0, 3, 3]) by decide +kernel]
  simp only [Option.bind_some, Sum.elim_inl]
  rw [F58_eq _ _ (show Bys [0, 3, 3] from byt0.drop 4), show tnum 1 [0, 3, 3] = .inl (0, [3, 3]) by decide +kernel]
  simp only [Option.bind_some, Sum.elim_inl]
  rw [F58_eq _ _ (show Bys [3, 3] from byt0.drop 5), show tnum 9223372036854775807 [3, 3] = .inl (3, [3]) by decide +kernel]
  simp only [Option.bind_some, Sum.elim_inl]
  rw [show ((7 : Int) == 1) = false from rfl, show ((7 : Int) == 2) = false from rfl, show ((7 : Int) == 3) = false from rfl, show ((7 : Int) == 4) = false from rfl, show ((7 : Int) == 5) = false from rfl, show ((7 : Int) == 6) = false from rfl, show ((7 : Int) == 7) = true from rfl]
  simp only [cond_false, cond_true]
  rw [F58_eq _ _ (show Bys [3] from byt0.drop 6), show tnum 65536 [3] = .inl (3, []) by decide +kernel]
  simp only [Option.bind_some, Sum.elim_inl]
  rw [F61_eq]
  rfl
theorem rcd0_len : (rcd [1, 7, 1, 2, 0, 3, 3]).length = 12 := by rw [rcd_len]; decide +kernel
theorem two0 : (rcd [1, 7, 1, 2, 0, 3, 3]).getD (2 : Int).toNat 0 = 7 := by decide +kernel
theorem turned0 : opn 4194304 ((rcd [1, 7, 1, 2, 0, 3, 3]).set (2 : Int).toNat (iXor .u8 ((rcd [1, 7, 1, 2, 0, 3, 3]).getD (2 : Int).toNat 0) 1)) = .inr 4 := by decide +kernel
theorem F8_eq : F8 = some (r1 true) := by
  unfold F8 F32h
  rw [F32_ok lok0, body0]
  have hne : List.isEmpty (α := Int) (rcd [1, 7, 1, 2, 0, 3, 3]) = false := by decide +kernel
  have hbr := rcd_byte byt0 (by decide)
  have hlr := rcd0_len
  simp only [Option.bind_some, hne, cond_false]
  have hd : F12 (rcd [1, 7, 1, 2, 0, 3, 3]) = some (((7, 1, 2, false, 3, [], [], [], 0, 0, 0, 0, [], 3, ()), 0, ()), (), ()) := by
    unfold F12
    have ho : opn 4194304 (rcd [1, 7, 1, 2, 0, 3, 3]) = .inl ([1, 7, 1, 2, 0, 3, 3], []) := by
      have := opn_app (t := [1, 7, 1, 2, 0, 3, 3]) (rest := []) (most := 4194304) (by decide) (by decide)
      rwa [List.append_nil] at this
    rw [F37_eq _ _ hbr (lt_lim (by omega)) (by decide), ho]
    simp only [Option.bind_some]
    rw [rd0]
    simp only [Option.bind_some]
    rw [show ((0 : Int) != 0) = false from rfl]
    simp only [cond_false]
    rw [F32_ok lok0, body0]
    simp only [Option.bind_some]
    rw [show ((strL (rcd [1, 7, 1, 2, 0, 3, 3])).toList == (strL (rcd [1, 7, 1, 2, 0, 3, 3])).toList) = true from beq_self_eq_true _]
    rfl
  rw [hd]
  simp only [Option.bind_some]
  rw [show ((0 : Int) != 0) = false from rfl, show ((3 : Int) != 3) = false from rfl, show ((2 : Int) != 2) = false from rfl]
  simp only [cond_false, cif, hlr]
  have hbt : Bys ((rcd [1, 7, 1, 2, 0, 3, 3]).set (2 : Int).toNat (iXor .u8 ((rcd [1, 7, 1, 2, 0, 3, 3]).getD (2 : Int).toNat 0) 1)) := by
    intro x hx
    rcases List.mem_or_eq_of_mem_set hx with hx | hx
    · exact hbr x hx
    · rw [hx, two0]; decide
  rw [if_pos (by decide), if_pos (by decide), if_pos (by decide), if_pos (by decide)]
  have hd2 : ∃ (x : Lt), F12 ((rcd [1, 7, 1, 2, 0, 3, 3]).set (2 : Int).toNat (iXor .u8 ((rcd [1, 7, 1, 2, 0, 3, 3]).getD (2 : Int).toNat 0) 1)) = some ((x, 4, ()), (), ()) := by
    unfold F12
    rw [F37_eq _ _ hbt (lt_lim (by rw [List.length_set]; omega)) (by decide), turned0]
    exact ⟨_, rfl⟩
  obtain ⟨x, hx⟩ := hd2
  rw [hx]
  rfl
end Go.IM.V
namespace Go.IM.V
open Go Go.IM Go.Proofs
noncomputable def l36f_4 : Code := (.seq (.seq (.region 4 (regOf Try.f36 4) false) (.cond (.tmp 21) .skip (.exit 0))) (.seq (.block 1 (.seq (.region 6 (regOf Try.f36 6) false) (.seq (.region 7 (regOf Try.f36 7) true) (.seq (.region 8 (regOf Try.f36 8) true) (.seq (.seq (.region 9 (regOf Try.f36 9) false) (.cond (.tmp 78) (.region 10 (regOf Try.f36 10) false) .skip)) (.seq (.seq (.region 11 (regOf Try.f36 11) false) (.cond (.tmp 90) (.region 12 (regOf Try.f36 12) false) .skip)) (.region 13 (regOf Try.f36 13) true))))))) (.region 5 (regOf Try.f36 5) false)))
noncomputable def b36f : Code := (.seq (.region 0 (regOf Try.f36 0) false) (.seq (.region 1 (regOf Try.f36 1) false) (.seq (.region 2 (regOf Try.f36 2) false) (.seq (.seq (.region 3 (regOf Try.f36 3) false) (.block 0 (.loop l36f_4))) (.seq (.region 14 (regOf Try.f36 14) false) .ret)))))
theorem body36f : Try.f36.body = some b36f := by kernel_rfl
noncomputable def C36f_4 : Tab := [(900013, cHot), (600011, cHot), (1000300030, cHot)]
theorem C36f_4_ok : TabOK Try.prog C36f_4 := ⟨cHot_ok, cHot_ok, cHot_ok, trivial⟩
noncomputable def LO36f_4 : Tab := []
noncomputable def i36f_4 : Tm := { sl := [(0, .v (.l (.i .u16))), (1, .v (.i .i64)), (5, .sb (.l tDEv) 3 0), (6, .m (.i .u64) 1), (7, .v (.i .i64))], bx := [[.o 0, .o 1, .o 2], [.r (.i .u64)]], bf := [tDEv, tDEv, tDEv] }
noncomputable def o36f_4 : OT := (.exit 0 { sl := [], bx := [[.o 0, .o 1, .o 2], [.r (.i .u64)]], bf := [tDEv, tDEv, tDEv] })
noncomputable def uT36f_4_0 (a0 : (List Int)) (a7 : Int) (b1_0 : (List Int)) (q0 : (List DEv)) : DEv :=
  (0, ((IntKind.wrap .u64 ((IntKind.wrap .u64 (((q0).length : Nat) : Int)) + 1)), (((((b1_0).set (0 : Int).toNat (IntKind.wrap .u64 (((b1_0).getD (0 : Int).toNat (0 : Int)) + (IntKind.wrap .u64 (1 + (((IntKind.wrap .u64 (IntKind.wrap .u16 ((((a0).getD (a7 : Int).toNat (0 : Int)) : Int).tdiv 16))) : Int).tmod 4))))))).getD (0 : Int).toNat (0 : Int)), ((IntKind.wrap .u8 (1 + (((IntKind.wrap .u8 (IntKind.wrap .u16 ((((a0).getD (a7 : Int).toNat (0 : Int)) : Int).tdiv 64))) : Int).tmod 4))), ((strL [(IntKind.wrap .u8 (97 + (((IntKind.wrap .u8 (IntKind.wrap .u16 ((((a0).getD (a7 : Int).toNat (0 : Int)) : Int).tdiv 256))) : Int).tmod 4)))]), ([(IntKind.wrap .u8 a7)], (((((FloatKind.f64).format.div ((FloatKind.nearest .f64 a7)) (4616189618054758400))).getD 0), (0, ()))))))))
noncomputable def uT36f_4_1 (a0 : (List Int)) (a7 : Int) (b1_0 : (List Int)) (q0 : (List DEv)) : DEv :=
  (0, ((IntKind.wrap .u64 ((IntKind.wrap .u64 (((q0).length : Nat) : Int)) + 1)), (((((b1_0).set (0 : Int).toNat (IntKind.wrap .u64 (((b1_0).getD (0 : Int).toNat (0 : Int)) + (IntKind.wrap .u64 (1 + (((IntKind.wrap .u64 (IntKind.wrap .u16 ((((a0).getD (a7 : Int).toNat (0 : Int)) : Int).tdiv 16))) : Int).tmod 4))))))).getD (0 : Int).toNat (0 : Int)), ((IntKind.wrap .u8 (1 + (((IntKind.wrap .u8 (IntKind.wrap .u16 ((((a0).getD (a7 : Int).toNat (0 : Int)) : Int).tdiv 64))) : Int).tmod 4))), ((strL [(IntKind.wrap .u8 (97 + (((IntKind.wrap .u8 (IntKind.wrap .u16 ((((a0).getD (a7 : Int).toNat (0 : Int)) : Int).tdiv 256))) : Int).tmod 4)))]), ([(IntKind.wrap .u8 a7)], (0, (0, ()))))))))
noncomputable def uT36f_4_2 (a0 : (List Int)) (a7 : Int) (b1_0 : (List Int)) (q0 : (List DEv)) : DEv :=
  (0, ((IntKind.wrap .u64 ((IntKind.wrap .u64 (((q0).length : Nat) : Int)) + 1)), (((((b1_0).set (0 : Int).toNat (IntKind.wrap .u64 (((b1_0).getD (0 : Int).toNat (0 : Int)) + (IntKind.wrap .u64 (1 + (((IntKind.wrap .u64 (IntKind.wrap .u16 ((((a0).getD (a7 : Int).toNat (0 : Int)) : Int).tdiv 16))) : Int).tmod 4))))))).getD (0 : Int).toNat (0 : Int)), ((IntKind.wrap .u8 (1 + (((IntKind.wrap .u8 (IntKind.wrap .u16 ((((a0).getD (a7 : Int).toNat (0 : Int)) : Int).tdiv 64))) : Int).tmod 4))), ((strL [(IntKind.wrap .u8 (97 + (((IntKind.wrap .u8 (IntKind.wrap .u16 ((((a0).getD (a7 : Int).toNat (0 : Int)) : Int).tdiv 256))) : Int).tmod 4)))]), (([] : List Int), (((((FloatKind.f64).format.div ((FloatKind.nearest .f64 a7)) (4616189618054758400))).getD 0), (0, ()))))))))
noncomputable def uT36f_4_3 (a0 : (List Int)) (a7 : Int) (b1_0 : (List Int)) (q0 : (List DEv)) : DEv :=
  (0, ((IntKind.wrap .u64 ((IntKind.wrap .u64 (((q0).length : Nat) : Int)) + 1)), (((((b1_0).set (0 : Int).toNat (IntKind.wrap .u64 (((b1_0).getD (0 : Int).toNat (0 : Int)) + (IntKind.wrap .u64 (1 + (((IntKind.wrap .u64 (IntKind.wrap .u16 ((((a0).getD (a7 : Int).toNat (0 : Int)) : Int).tdiv 16))) : Int).tmod 4))))))).getD (0 : Int).toNat (0 : Int)), ((IntKind.wrap .u8 (1 + (((IntKind.wrap .u8 (IntKind.wrap .u16 ((((a0).getD (a7 : Int).toNat (0 : Int)) : Int).tdiv 64))) : Int).tmod 4))), ((strL [(IntKind.wrap .u8 (97 + (((IntKind.wrap .u8 (IntKind.wrap .u16 ((((a0).getD (a7 : Int).toNat (0 : Int)) : Int).tdiv 256))) : Int).tmod 4)))]), (([] : List Int), (0, (0, ()))))))))
noncomputable def uT36f_4_4 (a0 : (List Int)) (a7 : Int) (b1_0 : (List Int)) (q1 : (List DEv)) : DEv :=
  (1, ((IntKind.wrap .u64 ((IntKind.wrap .u64 (((q1).length : Nat) : Int)) + 1)), (((((b1_0).set (1 : Int).toNat (IntKind.wrap .u64 (((b1_0).getD (1 : Int).toNat (0 : Int)) + (IntKind.wrap .u64 (1 + (((IntKind.wrap .u64 (IntKind.wrap .u16 ((((a0).getD (a7 : Int).toNat (0 : Int)) : Int).tdiv 16))) : Int).tmod 4))))))).getD (1 : Int).toNat (0 : Int)), ((IntKind.wrap .u8 (1 + (((IntKind.wrap .u8 (IntKind.wrap .u16 ((((a0).getD (a7 : Int).toNat (0 : Int)) : Int).tdiv 64))) : Int).tmod 4))), ((strL [(IntKind.wrap .u8 (97 + (((IntKind.wrap .u8 (IntKind.wrap .u16 ((((a0).getD (a7 : Int).toNat (0 : Int)) : Int).tdiv 256))) : Int).tmod 4)))]), ([(IntKind.wrap .u8 a7)], (((((FloatKind.f64).format.div ((FloatKind.nearest .f64 a7)) (4616189618054758400))).getD 0), (0, ()))))))))
noncomputable def uT36f_4_5 (a0 : (List Int)) (a7 : Int) (b1_0 : (List Int)) (q1 : (List DEv)) : DEv :=
  (1, ((IntKind.wrap .u64 ((IntKind.wrap .u64 (((q1).length : Nat) : Int)) + 1)), (((((b1_0).set (1 : Int).toNat (IntKind.wrap .u64 (((b1_0).getD (1 : Int).toNat (0 : Int)) + (IntKind.wrap .u64 (1 + (((IntKind.wrap .u64 (IntKind.wrap .u16 ((((a0).getD (a7 : Int).toNat (0 : Int)) : Int).tdiv 16))) : Int).tmod 4))))))).getD (1 : Int).toNat (0 : Int)), ((IntKind.wrap .u8 (1 + (((IntKind.wrap .u8 (IntKind.wrap .u16 ((((a0).getD (a7 : Int).toNat (0 : Int)) : Int).tdiv 64))) : Int).tmod 4))), ((strL [(IntKind.wrap .u8 (97 + (((IntKind.wrap .u8 (IntKind.wrap .u16 ((((a0).getD (a7 : Int).toNat (0 : Int)) : Int).tdiv 256))) : Int).tmod 4)))]), ([(IntKind.wrap .u8 a7)], (0, (0, ()))))))))
noncomputable def uT36f_4_6 (a0 : (List Int)) (a7 : Int) (b1_0 : (List Int)) (q1 : (List DEv)) : DEv :=
  (1, ((IntKind.wrap .u64 ((IntKind.wrap .u64 (((q1).length : Nat) : Int)) + 1)), (((((b1_0).set (1 : Int).toNat (IntKind.wrap .u64 (((b1_0).getD (1 : Int).toNat (0 : Int)) + (IntKind.wrap .u64 (1 + (((IntKind.wrap .u64 (IntKind.wrap .u16 ((((a0).getD (a7 : Int).toNat (0 : Int)) : Int).tdiv 16))) : Int).tmod 4))))))).getD (1 : Int).toNat (0 : Int)), ((IntKind.wrap .u8 (1 + (((IntKind.wrap .u8 (IntKind.wrap .u16 ((((a0).getD (a7 : Int).toNat (0 : Int)) : Int).tdiv 64))) : Int).tmod 4))), ((strL [(IntKind.wrap .u8 (97 + (((IntKind.wrap .u8 (IntKind.wrap .u16 ((((a0).getD (a7 : Int).toNat (0 : Int)) : Int).tdiv 256))) : Int).tmod 4)))]), (([] : List Int), (((((FloatKind.f64).format.div ((FloatKind.nearest .f64 a7)) (4616189618054758400))).getD 0), (0, ()))))))))
noncomputable def uT36f_4_7 (a0 : (List Int)) (a7 : Int) (b1_0 : (List Int)) (q1 : (List DEv)) : DEv :=
  (1, ((IntKind.wrap .u64 ((IntKind.wrap .u64 (((q1).length : Nat) : Int)) + 1)), (((((b1_0).set (1 : Int).toNat (IntKind.wrap .u64 (((b1_0).getD (1 : Int).toNat (0 : Int)) + (IntKind.wrap .u64 (1 + (((IntKind.wrap .u64 (IntKind.wrap .u16 ((((a0).getD (a7 : Int).toNat (0 : Int)) : Int).tdiv 16))) : Int).tmod 4))))))).getD (1 : Int).toNat (0 : Int)), ((IntKind.wrap .u8 (1 + (((IntKind.wrap .u8 (IntKind.wrap .u16 ((((a0).getD (a7 : Int).toNat (0 : Int)) : Int).tdiv 64))) : Int).tmod 4))), ((strL [(IntKind.wrap .u8 (97 + (((IntKind.wrap .u8 (IntKind.wrap .u16 ((((a0).getD (a7 : Int).toNat (0 : Int)) : Int).tdiv 256))) : Int).tmod 4)))]), (([] : List Int), (0, (0, ()))))))))
noncomputable def uT36f_4_8 (a0 : (List Int)) (a7 : Int) (b1_0 : (List Int)) (q2 : (List DEv)) : DEv :=
  (2, ((IntKind.wrap .u64 ((IntKind.wrap .u64 (((q2).length : Nat) : Int)) + 1)), (((((b1_0).set (2 : Int).toNat (IntKind.wrap .u64 (((b1_0).getD (2 : Int).toNat (0 : Int)) + (IntKind.wrap .u64 (1 + (((IntKind.wrap .u64 (IntKind.wrap .u16 ((((a0).getD (a7 : Int).toNat (0 : Int)) : Int).tdiv 16))) : Int).tmod 4))))))).getD (2 : Int).toNat (0 : Int)), ((IntKind.wrap .u8 (1 + (((IntKind.wrap .u8 (IntKind.wrap .u16 ((((a0).getD (a7 : Int).toNat (0 : Int)) : Int).tdiv 64))) : Int).tmod 4))), ((strL [(IntKind.wrap .u8 (97 + (((IntKind.wrap .u8 (IntKind.wrap .u16 ((((a0).getD (a7 : Int).toNat (0 : Int)) : Int).tdiv 256))) : Int).tmod 4)))]), ([(IntKind.wrap .u8 a7)], (((((FloatKind.f64).format.div ((FloatKind.nearest .f64 a7)) (4616189618054758400))).getD 0), (0, ()))))))))
noncomputable def uT36f_4_9 (a0 : (List Int)) (a7 : Int) (b1_0 : (List Int)) (q2 : (List DEv)) : DEv :=
  (2, ((IntKind.wrap .u64 ((IntKind.wrap .u64 (((q2).length : Nat) : Int)) + 1)), (((((b1_0).set (2 : Int).toNat (IntKind.wrap .u64 (((b1_0).getD (2 : Int).toNat (0 : Int)) + (IntKind.wrap .u64 (1 + (((IntKind.wrap .u64 (IntKind.wrap .u16 ((((a0).getD (a7 : Int).toNat (0 : Int)) : Int).tdiv 16))) : Int).tmod 4))))))).getD (2 : Int).toNat (0 : Int)), ((IntKind.wrap .u8 (1 + (((IntKind.wrap .u8 (IntKind.wrap .u16 ((((a0).getD (a7 : Int).toNat (0 : Int)) : Int).tdiv 64))) : Int).tmod 4))), ((strL [(IntKind.wrap .u8 (97 + (((IntKind.wrap .u8 (IntKind.wrap .u16 ((((a0).getD (a7 : Int).toNat (0 : Int)) : Int).tdiv 256))) : Int).tmod 4)))]), ([(IntKind.wrap .u8 a7)], (0, (0, ()))))))))
noncomputable def uT36f_4_10 (a0 : (List Int)) (a7 : Int) (b1_0 : (List Int)) (q2 : (List DEv)) : DEv :=
  (2, ((IntKind.wrap .u64 ((IntKind.wrap .u64 (((q2).length : Nat) : Int)) + 1)), (((((b1_0).set (2 : Int).toNat (IntKind.wrap .u64 (((b1_0).getD (2 : Int).toNat (0 : Int)) + (IntKind.wrap .u64 (1 + (((IntKind.wrap .u64 (IntKind.wrap .u16 ((((a0).getD (a7 : Int).toNat (0 : Int)) : Int).tdiv 16))) : Int).tmod 4))))))).getD (2 : Int).toNat (0 : Int)), ((IntKind.wrap .u8 (1 + (((IntKind.wrap .u8 (IntKind.wrap .u16 ((((a0).getD (a7 : Int).toNat (0 : Int)) : Int).tdiv 64))) : Int).tmod 4))), ((strL [(IntKind.wrap .u8 (97 + (((IntKind.wrap .u8 (IntKind.wrap .u16 ((((a0).getD (a7 : Int).toNat (0 : Int)) : Int).tdiv 256))) : Int).tmod 4)))]), (([] : List Int), (((((FloatKind.f64).format.div ((FloatKind.nearest .f64 a7)) (4616189618054758400))).getD 0), (0, ()))))))))
noncomputable def uT36f_4_11 (a0 : (List Int)) (a7 : Int) (b1_0 : (List Int)) (q2 : (List DEv)) : DEv :=
  (2, ((IntKind.wrap .u64 ((IntKind.wrap .u64 (((q2).length : Nat) : Int)) + 1)), (((((b1_0).set (2 : Int).toNat (IntKind.wrap .u64 (((b1_0).getD (2 : Int).toNat (0 : Int)) + (IntKind.wrap .u64 (1 + (((IntKind.wrap .u64 (IntKind.wrap .u16 ((((a0).getD (a7 : Int).toNat (0 : Int)) : Int).tdiv 16))) : Int).tmod 4))))))).getD (2 : Int).toNat (0 : Int)), ((IntKind.wrap .u8 (1 + (((IntKind.wrap .u8 (IntKind.wrap .u16 ((((a0).getD (a7 : Int).toNat (0 : Int)) : Int).tdiv 64))) : Int).tmod 4))), ((strL [(IntKind.wrap .u8 (97 + (((IntKind.wrap .u8 (IntKind.wrap .u16 ((((a0).getD (a7 : Int).toNat (0 : Int)) : Int).tdiv 256))) : Int).tmod 4)))]), (([] : List Int), (0, (0, ()))))))))
noncomputable def T36f_4 (a0 : (List Int)) (a1 : Int) (a7 : Int) (b1_0 : (List Int)) (q0 : (List DEv)) (q1 : (List DEv)) (q2 : (List DEv)) : Option ((((List Int) × (Int × (Unit × (Unit × (Int × Unit))))) × ((Unit × (Unit × (Unit × Unit))) × (((List Int) × Unit) × Unit)) × ((List DEv) × ((List DEv) × ((List DEv) × Unit)))) ⊕ (Unit × ((Unit × (Unit × (Unit × Unit))) × (((List Int) × Unit) × Unit)) × ((List DEv) × ((List DEv) × ((List DEv) × Unit))))) :=
  (bif (decide ((a7 : Int) < (((a0).length : Nat) : Int))) then (bif (decide ((a7 : Int) < 60)) then (bif (decide (0 ≤ (a7 : Int) ∧ (a7 : Int) < (((a0).length : Nat) : Int))) then (bif (decide ((a1 : Int) ≠ 0)) then (bif (decide (((((IntKind.wrap .i64 ((a0).getD (a7 : Int).toNat (0 : Int))) : Int).tmod a1) : Int) = 0)) then (bif (decide (0 ≤ (0 : Int) ∧ (0 : Int) < (((b1_0).length : Nat) : Int))) then (bif (decide ((0 : Int).toNat < (b1_0).length)) then (bif (decide (0 ≤ (a7 : Int) ∧ (a7 : Int) < (((a0).length : Nat) : Int))) then (bif (decide (0 ≤ (0 : Int) ∧ (0 : Int) < (((b1_0).length : Nat) : Int))) then (bif (decide ((0 : Int).toNat < (b1_0).length)) then (bif (decide (0 ≤ (0 : Int) ∧ (0 : Int) < (((((b1_0).set (0 : Int).toNat (IntKind.wrap .u64 (((b1_0).getD (0 : Int).toNat (0 : Int)) + (IntKind.wrap .u64 (1 + (((IntKind.wrap .u64 (IntKind.wrap .u16 ((((a0).getD (a7 : Int).toNat (0 : Int)) : Int).tdiv 16))) : Int).tmod 4))))))).length : Nat) : Int))) then (bif (decide ((0 : Int).toNat < (((b1_0).set (0 : Int).toNat (IntKind.wrap .u64 (((b1_0).getD (0 : Int).toNat (0 : Int)) + (IntKind.wrap .u64 (1 + (((IntKind.wrap .u64 (IntKind.wrap .u16 ((((a0).getD (a7 : Int).toNat (0 : Int)) : Int).tdiv 16))) : Int).tmod 4))))))).length)) then (bif (decide (0 ≤ (a7 : Int) ∧ (a7 : Int) < (((a0).length : Nat) : Int))) then (bif (decide (0 ≤ (a7 : Int) ∧ (a7 : Int) < (((a0).length : Nat) : Int))) then (bif (((IntKind.wrap .u8 (1 + (((IntKind.wrap .u8 (IntKind.wrap .u16 ((((a0).getD (a7 : Int).toNat (0 : Int)) : Int).tdiv 64))) : Int).tmod 4))) : Int) == 1) then (bif (((IntKind.wrap .u8 (1 + (((IntKind.wrap .u8 (IntKind.wrap .u16 ((((a0).getD (a7 : Int).toNat (0 : Int)) : Int).tdiv 64))) : Int).tmod 4))) : Int) == 2) then (bif (((FloatKind.f64).format.div ((FloatKind.nearest .f64 a7)) (4616189618054758400))).isSome then (bif (decide ((q0).length + ([(uT36f_4_0 a0 a7 b1_0 q0)]).length < lim)) then (some (.inl ((a0, a1, (), (), (IntKind.wrap .i64 (a7 + 1)), ()), (((), (), (), ()), (((b1_0).set (0 : Int).toNat (IntKind.wrap .u64 (((b1_0).getD (0 : Int).toNat (0 : Int)) + (IntKind.wrap .u64 (1 + (((IntKind.wrap .u64 (IntKind.wrap .u16 ((((a0).getD (a7 : Int).toNat (0 : Int)) : Int).tdiv 16))) : Int).tmod 4)))))), ()), ()), ((q0 ++ [(uT36f_4_0 a0 a7 b1_0 q0)]), q1, q2, ())))) else none) else none) else (bif (((IntKind.wrap .u8 (1 + (((IntKind.wrap .u8 (IntKind.wrap .u16 ((((a0).getD (a7 : Int).toNat (0 : Int)) : Int).tdiv 64))) : Int).tmod 4))) : Int) == 3) then (bif (((FloatKind.f64).format.div ((FloatKind.nearest .f64 a7)) (4616189618054758400))).isSome then (bif (decide ((q0).length + ([(uT36f_4_0 a0 a7 b1_0 q0)]).length < lim)) then (some (.inl ((a0, a1, (), (), (IntKind.wrap .i64 (a7 + 1)), ()), (((), (), (), ()), (((b1_0).set (0 : Int).toNat (IntKind.wrap .u64 (((b1_0).getD (0 : Int).toNat (0 : Int)) + (IntKind.wrap .u64 (1 + (((IntKind.wrap .u64 (IntKind.wrap .u16 ((((a0).getD (a7 : Int).toNat (0 : Int)) : Int).tdiv 16))) : Int).tmod 4)))))), ()), ()), ((q0 ++ [(uT36f_4_0 a0 a7 b1_0 q0)]), q1, q2, ())))) else none) else none) else (bif (decide ((q0).length + ([(uT36f_4_1 a0 a7 b1_0 q0)]).length < lim)) then (some (.inl ((a0, a1, (), (), (IntKind.wrap .i64 (a7 + 1)), ()), (((), (), (), ()), (((b1_0).set (0 : Int).toNat (IntKind.wrap .u64 (((b1_0).getD (0 : Int).toNat (0 : Int)) + (IntKind.wrap .u64 (1 + (((IntKind.wrap .u64 (IntKind.wrap .u16 ((((a0).getD (a7 : Int).toNat (0 : Int)) : Int).tdiv 16))) : Int).tmod 4)))))), ()), ()), ((q0 ++ [(uT36f_4_1 a0 a7 b1_0 q0)]), q1, q2, ())))) else none))) else (bif (((IntKind.wrap .u8 (1 + (((IntKind.wrap .u8 (IntKind.wrap .u16 ((((a0).getD (a7 : Int).toNat (0 : Int)) : Int).tdiv 64))) : Int).tmod 4))) : Int) == 2) then (bif (((FloatKind.f64).format.div ((FloatKind.nearest .f64 a7)) (4616189618054758400))).isSome then (bif (decide ((q0).length + ([(uT36f_4_2 a0 a7 b1_0 q0)]).length < lim)) then (some (.inl ((a0, a1, (), (), (IntKind.wrap .i64 (a7 + 1)), ()), (((), (), (), ()), (((b1_0).set (0 : Int).toNat (IntKind.wrap .u64 (((b1_0).getD (0 : Int).toNat (0 : Int)) + (IntKind.wrap .u64 (1 + (((IntKind.wrap .u64 (IntKind.wrap .u16 ((((a0).getD (a7 : Int).toNat (0 : Int)) : Int).tdiv 16))) : Int).tmod 4)))))), ()), ()), ((q0 ++ [(uT36f_4_2 a0 a7 b1_0 q0)]), q1, q2, ())))) else none) else none) else (bif (((IntKind.wrap .u8 (1 + (((IntKind.wrap .u8 (IntKind.wrap .u16 ((((a0).getD (a7 : Int).toNat (0 : Int)) : Int).tdiv 64))) : Int).tmod 4))) : Int) == 3) then (bif (((FloatKind.f64).format.div ((FloatKind.nearest .f64 a7)) (4616189618054758400))).isSome then (bif (decide ((q0).length + ([(uT36f_4_2 a0 a7 b1_0 q0)]).length < lim)) then (some (.inl ((a0, a1, (), (), (IntKind.wrap .i64 (a7 + 1)), ()), (((), (), (), ()), (((b1_0).set (0 : Int).toNat (IntKind.wrap .u64 (((b1_0).getD (0 : Int).toNat (0 : Int)) + (IntKind.wrap .u64 (1 + (((IntKind.wrap .u64 (IntKind.wrap .u16 ((((a0).getD (a7 : Int).toNat (0 : Int)) : Int).tdiv 16))) : Int).tmod 4)))))), ()), ()), ((q0 ++ [(uT36f_4_2 a0 a7 b1_0 q0)]), q1, q2, ())))) else none) else none) else (bif (decide ((q0).length + ([(uT36f_4_3 a0 a7 b1_0 q0)]).length < lim)) then (some (.inl ((a0, a1, (), (), (IntKind.wrap .i64 (a7 + 1)), ()), (((), (), (), ()), (((b1_0).set (0 : Int).toNat (IntKind.wrap .u64 (((b1_0).getD (0 : Int).toNat (0 : Int)) + (IntKind.wrap .u64 (1 + (((IntKind.wrap .u64 (IntKind.wrap .u16 ((((a0).getD (a7 : Int).toNat (0 : Int)) : Int).tdiv 16))) : Int).tmod 4)))))), ()), ()), ((q0 ++ [(uT36f_4_3 a0 a7 b1_0 q0)]), q1, q2, ())))) else none)))) else none) else none) else none) else none) else none) else none) else none) else none) else none) else (bif (decide (((((IntKind.wrap .i64 ((a0).getD (a7 : Int).toNat (0 : Int))) : Int).tmod a1) : Int) = 1)) then (bif (decide (0 ≤ (1 : Int) ∧ (1 : Int) < (((b1_0).length : Nat) : Int))) then (bif (decide ((1 : Int).toNat < (b1_0).length)) then (bif (decide (0 ≤ (a7 : Int) ∧ (a7 : Int) < (((a0).length : Nat) : Int))) then (bif (decide (0 ≤ (1 : Int) ∧ (1 : Int) < (((b1_0).length : Nat) : Int))) then (bif (decide ((1 : Int).toNat < (b1_0).length)) then (bif (decide (0 ≤ (1 : Int) ∧ (1 : Int) < (((((b1_0).set (1 : Int).toNat (IntKind.wrap .u64 (((b1_0).getD (1 : Int).toNat (0 : Int)) + (IntKind.wrap .u64 (1 + (((IntKind.wrap .u64 (IntKind.wrap .u16 ((((a0).getD (a7 : Int).toNat (0 : Int)) : Int).tdiv 16))) : Int).tmod 4))))))).length : Nat) : Int))) then (bif (decide ((1 : Int).toNat < (((b1_0).set (1 : Int).toNat (IntKind.wrap .u64 (((b1_0).getD (1 : Int).toNat (0 : Int)) + (IntKind.wrap .u64 (1 + (((IntKind.wrap .u64 (IntKind.wrap .u16 ((((a0).getD (a7 : Int).toNat (0 : Int)) : Int).tdiv 16))) : Int).tmod 4))))))).length)) then (bif (decide (0 ≤ (a7 : Int) ∧ (a7 : Int) < (((a0).length : Nat) : Int))) then (bif (decide (0 ≤ (a7 : Int) ∧ (a7 : Int) < (((a0).length : Nat) : Int))) then (bif (((IntKind.wrap .u8 (1 + (((IntKind.wrap .u8 (IntKind.wrap .u16 ((((a0).getD (a7 : Int).toNat (0 : Int)) : Int).tdiv 64))) : Int).tmod 4))) : Int) == 1) then (bif (((IntKind.wrap .u8 (1 + (((IntKind.wrap .u8 (IntKind.wrap .u16 ((((a0).getD (a7 : Int).toNat (0 : Int)) : Int).tdiv 64))) : Int).tmod 4))) : Int) == 2) then (bif (((FloatKind.f64).format.div ((FloatKind.nearest .f64 a7)) (4616189618054758400))).isSome then (bif (decide ((q1).length + ([(uT36f_4_4 a0 a7 b1_0 q1)]).length < lim)) then (some (.inl ((a0, a1, (), (), (IntKind.wrap .i64 (a7 + 1)), ()), (((), (), (), ()), (((b1_0).set (1 : Int).toNat (IntKind.wrap .u64 (((b1_0).getD (1 : Int).toNat (0 : Int)) + (IntKind.wrap .u64 (1 + (((IntKind.wrap .u64 (IntKind.wrap .u16 ((((a0).getD (a7 : Int).toNat (0 : Int)) : Int).tdiv 16))) : Int).tmod 4)))))), ()), ()), (q0, (q1 ++ [(uT36f_4_4 a0 a7 b1_0 q1)]), q2, ())))) else none) else none) else (bif (((IntKind.wrap .u8 (1 + (((IntKind.wrap .u8 (IntKind.wrap .u16 ((((a0).getD (a7 : Int).toNat (0 : Int)) : Int).tdiv 64))) : Int).tmod 4))) : Int) == 3) then (bif (((FloatKind.f64).format.div ((FloatKind.nearest .f64 a7)) (4616189618054758400))).isSome then (bif (decide ((q1).length + ([(uT36f_4_4 a0 a7 b1_0 q1)]).length < lim)) then (some (.inl ((a0, a1, (), (), (IntKind.wrap .i64 (a7 + 1)), ()), (((), (), (), ()), (((b1_0).set (1 : Int).toNat (IntKind.wrap .u64 (((b1_0).getD (1 : Int).toNat (0 : Int)) + (IntKind.wrap .u64 (1 + (((IntKind.wrap .u64 (IntKind.wrap .u16 ((((a0).getD (a7 : Int).toNat (0 : Int)) : Int).tdiv 16))) : Int).tmod 4)))))), ()), ()), (q0, (q1 ++ [(uT36f_4_4 a0 a7 b1_0 q1)]), q2, ())))) else none) else none) else (bif (decide ((q1).length + ([(uT36f_4_5 a0 a7 b1_0 q1)]).length < lim)) then (some (.inl ((a0, a1, (), (), (IntKind.wrap .i64 (a7 + 1)), ()), (((), (), (), ()), (((b1_0).set (1 : Int).toNat (IntKind.wrap .u64 (((b1_0).getD (1 : Int).toNat (0 : Int)) + (IntKind.wrap .u64 (1 + (((IntKind.wrap .u64 (IntKind.wrap .u16 ((((a0).getD (a7 : Int).toNat (0 : Int)) : Int).tdiv 16))) : Int).tmod 4)))))), ()), ()), (q0, (q1 ++ [(uT36f_4_5 a0 a7 b1_0 q1)]), q2, ())))) else none))) else (bif (((IntKind.wrap .u8 (1 + (((IntKind.wrap .u8 (IntKind.wrap .u16 ((((a0).getD (a7 : Int).toNat (0 : Int)) : Int).tdiv 64))) : Int).tmod 4))) : Int) == 2) then (bif (((FloatKind.f64).format.div ((FloatKind.nearest .f64 a7)) (4616189618054758400))).isSome then (bif (decide ((q1).length + ([(uT36f_4_6 a0 a7 b1_0 q1)]).length < lim)) then (some (.inl ((a0, a1, (), (), (IntKind.wrap .i64 (a7 + 1)), ()), (((), (), (), ()), (((b1_0).set (1 : Int).toNat (IntKind.wrap .u64 (((b1_0).getD (1 : Int).toNat (0 : Int)) + (IntKind.wrap .u64 (1 + (((IntKind.wrap .u64 (IntKind.wrap .u16 ((((a0).getD (a7 : Int).toNat (0 : Int)) : Int).tdiv 16))) : Int).tmod 4)))))), ()), ()), (q0, (q1 ++ [(uT36f_4_6 a0 a7 b1_0 q1)]), q2, ())))) else none) else none) else (bif (((IntKind.wrap .u8 (1 + (((IntKind.wrap .u8 (IntKind.wrap .u16 ((((a0).getD (a7 : Int).toNat (0 : Int)) : Int).tdiv 64))) : Int).tmod 4))) : Int) == 3) then (bif (((FloatKind.f64).format.div ((FloatKind.nearest .f64 a7)) (4616189618054758400))).isSome then (bif (decide ((q1).length + ([(uT36f_4_6 a0 a7 b1_0 q1)]).length < lim)) then (some (.inl ((a0, a1, (), (), (IntKind.wrap .i64 (a7 + 1)), ()), (((), (), (), ()), (((b1_0).set (1 : Int).toNat (IntKind.wrap .u64 (((b1_0).getD (1 : Int).toNat (0 : Int)) + (IntKind.wrap .u64 (1 + (((IntKind.wrap .u64 (IntKind.wrap .u16 ((((a0).getD (a7 : Int).toNat (0 : Int)) : Int).tdiv 16))) : Int).tmod 4)))))), ()), ()), (q0, (q1 ++ [(uT36f_4_6 a0 a7 b1_0 q1)]), q2, ())))) else none) else none) else (bif (decide ((q1).length + ([(uT36f_4_7 a0 a7 b1_0 q1)]).length < lim)) then (some (.inl ((a0, a1, (), (), (IntKind.wrap .i64 (a7 + 1)), ()), (((), (), (), ()), (((b1_0).set (1 : Int).toNat (IntKind.wrap .u64 (((b1_0).getD (1 : Int).toNat (0 : Int)) + (IntKind.wrap .u64 (1 + (((IntKind.wrap .u64 (IntKind.wrap .u16 ((((a0).getD (a7 : Int).toNat (0 : Int)) : Int).tdiv 16))) : Int).tmod 4)))))), ()), ()), (q0, (q1 ++ [(uT36f_4_7 a0 a7 b1_0 q1)]), q2, ())))) else none)))) else none) else none) else none) else none) else none) else none) else none) else none) else none) else (bif (decide (((((IntKind.wrap .i64 ((a0).getD (a7 : Int).toNat (0 : Int))) : Int).tmod a1) : Int) = 2)) then (bif (decide (0 ≤ (2 : Int) ∧ (2 : Int) < (((b1_0).length : Nat) : Int))) then (bif (decide ((2 : Int).toNat < (b1_0).length)) then (bif (decide (0 ≤ (a7 : Int) ∧ (a7 : Int) < (((a0).length : Nat) : Int))) then (bif (decide (0 ≤ (2 : Int) ∧ (2 : Int) < (((b1_0).length : Nat) : Int))) then (bif (decide ((2 : Int).toNat < (b1_0).length)) then (bif (decide (0 ≤ (2 : Int) ∧ (2 : Int) < (((((b1_0).set (2 : Int).toNat (IntKind.wrap .u64 (((b1_0).getD (2 : Int).toNat (0 : Int)) + (IntKind.wrap .u64 (1 + (((IntKind.wrap .u64 (IntKind.wrap .u16 ((((a0).getD (a7 : Int).toNat (0 : Int)) : Int).tdiv 16))) : Int).tmod 4))))))).length : Nat) : Int))) then (bif (decide ((2 : Int).toNat < (((b1_0).set (2 : Int).toNat (IntKind.wrap .u64 (((b1_0).getD (2 : Int).toNat (0 : Int)) + (IntKind.wrap .u64 (1 + (((IntKind.wrap .u64 (IntKind.wrap .u16 ((((a0).getD (a7 : Int).toNat (0 : Int)) : Int).tdiv 16))) : Int).tmod 4))))))).length)) then (bif (decide (0 ≤ (a7 : Int) ∧ (a7 : Int) < (((a0).length : Nat) : Int))) then (bif (decide (0 ≤ (a7 : Int) ∧ (a7 : Int) < (((a0).length : Nat) : Int))) then (bif (((IntKind.wrap .u8 (1 + (((IntKind.wrap .u8 (IntKind.wrap .u16 ((((a0).getD (a7 : Int).toNat (0 : Int)) : Int).tdiv 64))) : Int).tmod 4))) : Int) == 1) then (bif (((IntKind.wrap .u8 (1 + (((IntKind.wrap .u8 (IntKind.wrap .u16 ((((a0).getD (a7 : Int).toNat (0 : Int)) : Int).tdiv 64))) : Int).tmod 4))) : Int) == 2) then (bif (((FloatKind.f64).format.div ((FloatKind.nearest .f64 a7)) (4616189618054758400))).isSome then (bif (decide ((q2).length + ([(uT36f_4_8 a0 a7 b1_0 q2)]).length < lim)) then (some (.inl ((a0, a1, (), (), (IntKind.wrap .i64 (a7 + 1)), ()), (((), (), (), ()), (((b1_0).set (2 : Int).toNat (IntKind.wrap .u64 (((b1_0).getD (2 : Int).toNat (0 : Int)) + (IntKind.wrap .u64 (1 + (((IntKind.wrap .u64 (IntKind.wrap .u16 ((((a0).getD (a7 : Int).toNat (0 : Int)) : Int).tdiv 16))) : Int).tmod 4)))))), ()), ()), (q0, q1, (q2 ++ [(uT36f_4_8 a0 a7 b1_0 q2)]), ())))) else none) else none) else (bif (((IntKind.wrap .u8 (1 + (((IntKind.wrap .u8 (IntKind.wrap .u16 ((((a0).getD (a7 : Int).toNat (0 : Int)) : Int).tdiv 64))) : Int).tmod 4))) : Int) == 3) then (bif (((FloatKind.f64).format.div ((FloatKind.nearest .f64 a7)) (4616189618054758400))).isSome then (bif (decide ((q2).length + ([(uT36f_4_8 a0 a7 b1_0 q2)]).length < lim)) then (some (.inl ((a0, a1, (), (), (IntKind.wrap .i64 (a7 + 1)), ()), (((), (), (), ()), (((b1_0).set (2 : Int).toNat (IntKind.wrap .u64 (((b1_0).getD (2 : Int).toNat (0 : Int)) + (IntKind.wrap .u64 (1 + (((IntKind.wrap .u64 (IntKind.wrap .u16 ((((a0).getD (a7 : Int).toNat (0 : Int)) : Int).tdiv 16))) : Int).tmod 4)))))), ()), ()), (q0, q1, (q2 ++ [(uT36f_4_8 a0 a7 b1_0 q2)]), ())))) else none) else none) else (bif (decide ((q2).length + ([(uT36f_4_9 a0 a7 b1_0 q2)]).length < lim)) then (some (.inl ((a0, a1, (), (), (IntKind.wrap .i64 (a7 + 1)), ()), (((), (), (), ()), (((b1_0).set (2 : Int).toNat (IntKind.wrap .u64 (((b1_0).getD (2 : Int).toNat (0 : Int)) + (IntKind.wrap .u64 (1 + (((IntKind.wrap .u64 (IntKind.wrap .u16 ((((a0).getD (a7 : Int).toNat (0 : Int)) : Int).tdiv 16))) : Int).tmod 4)))))), ()), ()), (q0, q1, (q2 ++ [(uT36f_4_9 a0 a7 b1_0 q2)]), ())))) else none))) else (bif (((IntKind.wrap .u8 (1 + (((IntKind.wrap .u8 (IntKind.wrap .u16 ((((a0).getD (a7 : Int).toNat (0 : Int)) : Int).tdiv 64))) : Int).tmod 4))) : Int) == 2) then (bif (((FloatKind.f64).format.div ((FloatKind.nearest .f64 a7)) (4616189618054758400))).isSome then (bif (decide ((q2).length + ([(uT36f_4_10 a0 a7 b1_0 q2)]).length < lim)) then (some (.inl ((a0, a1, (), (), (IntKind.wrap .i64 (a7 + 1)), ()), (((), (), (), ()), (((b1_0).set (2 : Int).toNat (IntKind.wrap .u64 (((b1_0).getD (2 : Int).toNat (0 : Int)) + (IntKind.wrap .u64 (1 + (((IntKind.wrap .u64 (IntKind.wrap .u16 ((((a0).getD (a7 : Int).toNat (0 : Int)) : Int).tdiv 16))) : Int).tmod 4)))))), ()), ()), (q0, q1, (q2 ++ [(uT36f_4_10 a0 a7 b1_0 q2)]), ())))) else none) else none) else (bif (((IntKind.wrap .u8 (1 + (((IntKind.wrap .u8 (IntKind.wrap .u16 ((((a0).getD (a7 : Int).toNat (0 : Int)) : Int).tdiv 64))) : Int).tmod 4))) : Int) == 3) then (bif (((FloatKind.f64).format.div ((FloatKind.nearest .f64 a7)) (4616189618054758400))).isSome then (bif (decide ((q2).length + ([(uT36f_4_10 a0 a7 b1_0 q2)]).length < lim)) then (some (.inl ((a0, a1, (), (), (IntKind.wrap .i64 (a7 + 1)), ()), (((), (), (), ()), (((b1_0).set (2 : Int).toNat (IntKind.wrap .u64 (((b1_0).getD (2 : Int).toNat (0 : Int)) + (IntKind.wrap .u64 (1 + (((IntKind.wrap .u64 (IntKind.wrap .u16 ((((a0).getD (a7 : Int).toNat (0 : Int)) : Int).tdiv 16))) : Int).tmod 4)))))), ()), ()), (q0, q1, (q2 ++ [(uT36f_4_10 a0 a7 b1_0 q2)]), ())))) else none) else none) else (bif (decide ((q2).length + ([(uT36f_4_11 a0 a7 b1_0 q2)]).length < lim)) then (some (.inl ((a0, a1, (), (), (IntKind.wrap .i64 (a7 + 1)), ()), (((), (), (), ()), (((b1_0).set (2 : Int).toNat (IntKind.wrap .u64 (((b1_0).getD (2 : Int).toNat (0 : Int)) + (IntKind.wrap .u64 (1 + (((IntKind.wrap .u64 (IntKind.wrap .u16 ((((a0).getD (a7 : Int).toNat (0 : Int)) : Int).tdiv 16))) : Int).tmod 4)))))), ()), ()), (q0, q1, (q2 ++ [(uT36f_4_11 a0 a7 b1_0 q2)]), ())))) else none)))) else none) else none) else none) else none) else none) else none) else none) else none) else none) else none))) else none) else none) else (some (.inr ((), (((), (), (), ()), (b1_0, ()), ()), (q0, q1, q2, ()))))) else (some (.inr ((), (((), (), (), ()), (b1_0, ()), ()), (q0, q1, q2, ())))))
noncomputable def L36f_4 (a0 : (List Int)) (a1 : Int) (a7 : Int) (b1_0 : (List Int)) (q0 : (List DEv)) (q1 : (List DEv)) (q2 : (List DEv)) : Option (Unit × ((Unit × (Unit × (Unit × Unit))) × (((List Int) × Unit) × Unit)) × ((List DEv) × ((List DEv) × ((List DEv) × Unit)))) := loopF (fun x : (((List Int) × (Int × (Unit × (Unit × (Int × Unit))))) × ((Unit × (Unit × (Unit × Unit))) × (((List Int) × Unit) × Unit)) × ((List DEv) × ((List DEv) × ((List DEv) × Unit)))) => T36f_4 x.1.1 x.1.2.1 x.1.2.2.2.2.1 x.2.1.2.1.1 x.2.2.1 x.2.2.2.1 x.2.2.2.2.1) ((a0, a1, (), (), a7, ()), (((), (), (), ()), (b1_0, ()), ()), (q0, q1, q2, ()))
theorem L36f_4_eq (a0 : (List Int)) (a1 : Int) (a7 : Int) (b1_0 : (List Int)) (q0 : (List DEv)) (q1 : (List DEv)) (q2 : (List DEv)) : L36f_4 a0 a1 a7 b1_0 q0 q1 q2 = (T36f_4 a0 a1 a7 b1_0 q0 q1 q2).bind (Sum.elim (fun x => L36f_4 x.1.1 x.1.2.1 x.1.2.2.2.2.1 x.2.1.2.1.1 x.2.2.1 x.2.2.2.1 x.2.2.2.2.1) some) := loopF_eq _ _
noncomputable def k36f_4 : Con := ⟨i36f_4, o36f_4, fun x => L36f_4 x.1.1 x.1.2.1 x.1.2.2.2.2.1 x.2.1.2.1.1 x.2.2.1 x.2.2.2.1 x.2.2.2.2.1⟩
theorem e36f_4 (x : i36f_4.E) : vround Try.prog C36f_4 LO36f_4 Try.f36.ntmps l36f_4 i36f_4 o36f_4 x = T36f_4 x.1.1 x.1.2.1 x.1.2.2.2.2.1 x.2.1.2.1.1 x.2.2.1 x.2.2.2.1 x.2.2.2.2.1 := by kernel_rfl
theorem k36f_4_ok : Con.LOK Try.prog Try.f36.ntmps l36f_4 k36f_4 := (loop_ok C36f_4_ok (loops_of (l := []) (by kernel_rfl) (show LoopsOK Try.prog Try.f36.ntmps [] LO36f_4 from trivial)) i36f_4 o36f_4).congr fun x => (congrArg (fun T => loopF T x) (funext e36f_4)).symm
noncomputable def C36f : Tab := [(900013, cHot), (600011, cHot), (1000300030, cHot)]
theorem C36f_ok : TabOK Try.prog C36f := ⟨cHot_ok, cHot_ok, cHot_ok, trivial⟩
noncomputable def LO36f : Tab := [(4, k36f_4)]
noncomputable def i36f : Tm := { sl := [(0, .v (.l (.i .u16))), (1, .ki .i64 3)], bx := [], bf := [] }
noncomputable def o36f : OT := (.ret { sl := [(0, .sb (.l tDEv) 3 0)], bx := [[.o 0, .o 1, .o 2]], bf := [tDEv, tDEv, tDEv] })
noncomputable def F36f (a0 : (List Int)) : Option ((Unit × Unit) × ((Unit × (Unit × (Unit × Unit))) × Unit) × ((List DEv) × ((List DEv) × ((List DEv) × Unit)))) :=
  (bif ((decide (0 ≤ (3 : Int) ∧ (3 : Int) = 3 ∧ (3 : Int) < (lim : Int))) && (decide (0 < (3 : Int)))) then ((L36f_4 a0 3 0 (List.replicate (3 : Int).toNat (0 : Int)) ([] : List DEv) ([] : List DEv) ([] : List DEv)).bind fun y413 => (some (((), ()), (((), (), (), ()), ()), (y413.2.2.1, y413.2.2.2.1, y413.2.2.2.2.1, ())))) else none)
noncomputable def c36f : Con := ⟨i36f, o36f, fun x => F36f x.1.1⟩
theorem e36f (x : i36f.E) : vfn Try.prog C36f LO36f Try.f36 b36f i36f o36f x = F36f x.1.1 := by kernel_rfl
theorem c36f_ok : Con.OK Try.prog 36 c36f := (fn_ok C36f_ok Try.func36 body36f (loops_of (l := [l36f_4]) (by kernel_rfl) (show LoopsOK Try.prog Try.f36.ntmps [l36f_4] LO36f from ⟨k36f_4_ok, trivial⟩)) i36f o36f).congr fun x => (e36f x).symm
noncomputable def F36 (a0 : (List Int)) : Option (((List (List DEv)) × Unit) × Unit × Unit) := (F36f a0).map fun y => (([y.2.2.1, y.2.2.2.1, y.2.2.2.2.1], ()), (), ())
noncomputable def c36 : Con := ⟨i36f, (.ret { sl := [(0, .v (.l (.l tDEv)))], bx := [], bf := [] }), fun x => F36 x.1.1⟩
theorem c36_ok : Con.OK Try.prog 36 c36 := thaw (e := tDEv) (n := 3) rfl rfl (by decide) c36f_ok
noncomputable def b87 : Code := (.seq (.region 0 (regOf Try.f87 0) false) (.seq (.region 1 (regOf Try.f87 1) false) .ret))
theorem body87 : Try.f87.body = some b87 := by kernel_rfl
noncomputable def C87 : Tab := []
theorem C87_ok : TabOK Try.prog C87 := trivial
noncomputable def LO87 : Tab := []
noncomputable def i87 : Tm := { sl := [(0, .v (.p (.i .u64) (.p (.i .i64) .u))), (1, .v (.p (.i .u64) (.p (.i .i64) .u)))], bx := [], bf := [] }
noncomputable def o87 : OT := (.ret { sl := [(0, .v .b)], bx := [], bf := [] })
noncomputable def F87 (a0 : (Int × (Int × Unit))) (a1 : (Int × (Int × Unit))) : Option ((Bool × Unit) × Unit × Unit) :=
  (bif (decide ((a0.1 : Int) < a1.1)) then (some ((true, ()), (), ())) else (bif ((a0.1 : Int) == a1.1) then (some (((decide ((a0.2.1 : Int) < a1.2.1)), ()), (), ())) else (some ((false, ()), (), ()))))
noncomputable def c87 : Con := ⟨i87, o87, fun x => F87 x.1.1 x.1.2.1⟩
theorem e87 (x : i87.E) : vfn Try.prog C87 LO87 Try.f87 b87 i87 o87 x = F87 x.1.1 x.1.2.1 := by kernel_rfl
theorem c87_ok : Con.OK Try.prog 87 c87 := (fn_ok C87_ok Try.func87 body87 (loops_of (l := []) (by kernel_rfl) (show LoopsOK Try.prog Try.f87.ntmps [] LO87 from trivial)) i87 o87).congr fun x => (e87 x).symm
noncomputable def b88 : Code := (.seq (.region 0 (regOf Try.f88 0) false) (.seq (.region 1 (regOf Try.f88 1) false) .ret))
theorem body88 : Try.f88.body = some b88 := by kernel_rfl
noncomputable def C88 : Tab := []
theorem C88_ok : TabOK Try.prog C88 := trivial
noncomputable def LO88 : Tab := []
noncomputable def i88 : Tm := { sl := [(0, .v tDEv)], bx := [], bf := [] }
noncomputable def o88 : OT := (.ret { sl := [(0, .v (.p (.i .u64) (.p (.i .i64) .u)))], bx := [], bf := [] })
noncomputable def F88 (a0 : DEv) : Option (((Int × (Int × Unit)) × Unit) × Unit × Unit) :=
  (some (((a0.2.2.1, (a0.1, ())), ()), (), ()))
noncomputable def c88 : Con := ⟨i88, o88, fun x => F88 x.1.1⟩
theorem e88 (x : i88.E) : vfn Try.prog C88 LO88 Try.f88 b88 i88 o88 x = F88 x.1.1 := by kernel_rfl
theorem c88_ok : Con.OK Try.prog 88 c88 := (fn_ok C88_ok Try.func88 body88 (loops_of (l := []) (by kernel_rfl) (show LoopsOK Try.prog Try.f88.ntmps [] LO88 from trivial)) i88 o88).congr fun x => (e88 x).symm
noncomputable def l69_6 : Code := (.seq (.seq (.region 6 (regOf Try.f69 6) true) (.cond (.tmp 30) .skip (.exit 2))) (.block 3 (.region 7 (regOf Try.f69 7) false)))
noncomputable def l69_3 : Code := (.seq (.seq (.region 3 (regOf Try.f69 3) false) (.cond (.tmp 10) .skip (.exit 0))) (.seq (.block 1 (.seq (.region 5 (regOf Try.f69 5) false) (.seq (.block 2 (.loop l69_6)) (.seq (.region 8 (regOf Try.f69 8) false) (.seq (.region 9 (regOf Try.f69 9) false) (.seq (.region 10 (regOf Try.f69 10) false) (.region 11 (regOf Try.f69 11) false))))))) (.region 4 (regOf Try.f69 4) false)))
noncomputable def b69 : Code := (.seq (.region 0 (regOf Try.f69 0) false) (.seq (.region 1 (regOf Try.f69 1) false) (.seq (.seq (.region 2 (regOf Try.f69 2) false) (.block 0 (.loop l69_3))) (.seq (.region 12 (regOf Try.f69 12) false) .ret))))
theorem body69 : Try.f69.body = some b69 := by kernel_rfl
noncomputable def C69_6 : Tab := [(87, c87), (88, c88)]
theorem C69_6_ok : TabOK Try.prog C69_6 := ⟨c87_ok, c88_ok, trivial⟩
noncomputable def LO69_6 : Tab := []
noncomputable def i69_6 : Tm := { sl := [(0, .v (.l tDEv)), (3, .v (.l tDEv)), (4, .v (.i .i64)), (5, .v (.i .i64))], bx := [], bf := [] }
noncomputable def o69_6 : OT := (.exit 2 { sl := [(5, .v (.i .i64))], bx := [], bf := [] })
noncomputable def T69_6 (a0 : (List DEv)) (a3 : (List DEv)) (a4 : Int) (a5 : Int) : Option ((((List DEv) × ((List DEv) × (Int × (Int × Unit)))) × Unit × Unit) ⊕ ((Int × Unit) × Unit × Unit)) :=
  (bif (decide ((a5 : Int) > 0)) then (bif (decide (0 ≤ (a4 : Int) ∧ (a4 : Int) < (((a0).length : Nat) : Int))) then ((F88 (((a0).getD (a4 : Int).toNat ((0 : Int), ((0 : Int), ((0 : Int), ((0 : Int), (ByteArray.empty, ([], ((0 : Nat), ((0 : Int), ()))))))))).1, (((a0).getD (a4 : Int).toNat ((0 : Int), ((0 : Int), ((0 : Int), ((0 : Int), (ByteArray.empty, ([], ((0 : Nat), ((0 : Int), ()))))))))).2.1, (((a0).getD (a4 : Int).toNat ((0 : Int), ((0 : Int), ((0 : Int), ((0 : Int), (ByteArray.empty, ([], ((0 : Nat), ((0 : Int), ()))))))))).2.2.1, (((a0).getD (a4 : Int).toNat ((0 : Int), ((0 : Int), ((0 : Int), ((0 : Int), (ByteArray.empty, ([], ((0 : Nat), ((0 : Int), ()))))))))).2.2.2.1, (((a0).getD (a4 : Int).toNat ((0 : Int), ((0 : Int), ((0 : Int), ((0 : Int), (ByteArray.empty, ([], ((0 : Nat), ((0 : Int), ()))))))))).2.2.2.2.1, (((a0).getD (a4 : Int).toNat ((0 : Int), ((0 : Int), ((0 : Int), ((0 : Int), (ByteArray.empty, ([], ((0 : Nat), ((0 : Int), ()))))))))).2.2.2.2.2.1, (((a0).getD (a4 : Int).toNat ((0 : Int), ((0 : Int), ((0 : Int), ((0 : Int), (ByteArray.empty, ([], ((0 : Nat), ((0 : Int), ()))))))))).2.2.2.2.2.2.1, (((a0).getD (a4 : Int).toNat ((0 : Int), ((0 : Int), ((0 : Int), ((0 : Int), (ByteArray.empty, ([], ((0 : Nat), ((0 : Int), ()))))))))).2.2.2.2.2.2.2.1, ()))))))))).bind fun y417 => (bif (decide (0 ≤ ((IntKind.wrap .i64 (a5 - 1)) : Int) ∧ ((IntKind.wrap .i64 (a5 - 1)) : Int) < (((a3).length : Nat) : Int))) then ((F88 (((a3).getD ((IntKind.wrap .i64 (a5 - 1)) : Int).toNat ((0 : Int), ((0 : Int), ((0 : Int), ((0 : Int), (ByteArray.empty, ([], ((0 : Nat), ((0 : Int), ()))))))))).1, (((a3).getD ((IntKind.wrap .i64 (a5 - 1)) : Int).toNat ((0 : Int), ((0 : Int), ((0 : Int), ((0 : Int), (ByteArray.empty, ([], ((0 : Nat), ((0 : Int), ()))))))))).2.1, (((a3).getD ((IntKind.wrap .i64 (a5 - 1)) : Int).toNat ((0 : Int), ((0 : Int), ((0 : Int), ((0 : Int), (ByteArray.empty, ([], ((0 : Nat), ((0 : Int), ()))))))))).2.2.1, (((a3).getD ((IntKind.wrap .i64 (a5 - 1)) : Int).toNat ((0 : Int), ((0 : Int), ((0 : Int), ((0 : Int), (ByteArray.empty, ([], ((0 : Nat), ((0 : Int), ()))))))))).2.2.2.1, (((a3).getD ((IntKind.wrap .i64 (a5 - 1)) : Int).toNat ((0 : Int), ((0 : Int), ((0 : Int), ((0 : Int), (ByteArray.empty, ([], ((0 : Nat), ((0 : Int), ()))))))))).2.2.2.2.1, (((a3).getD ((IntKind.wrap .i64 (a5 - 1)) : Int).toNat ((0 : Int), ((0 : Int), ((0 : Int), ((0 : Int), (ByteArray.empty, ([], ((0 : Nat), ((0 : Int), ()))))))))).2.2.2.2.2.1, (((a3).getD ((IntKind.wrap .i64 (a5 - 1)) : Int).toNat ((0 : Int), ((0 : Int), ((0 : Int), ((0 : Int), (ByteArray.empty, ([], ((0 : Nat), ((0 : Int), ()))))))))).2.2.2.2.2.2.1, (((a3).getD ((IntKind.wrap .i64 (a5 - 1)) : Int).toNat ((0 : Int), ((0 : Int), ((0 : Int), ((0 : Int), (ByteArray.empty, ([], ((0 : Nat), ((0 : Int), ()))))))))).2.2.2.2.2.2.2.1, ()))))))))).bind fun y418 => ((F87 (y417.1.1.1, (y417.1.1.2.1, ())) (y418.1.1.1, (y418.1.1.2.1, ()))).bind fun y419 => (bif y419.1.1 then (some (.inl ((a0, a3, a4, (IntKind.wrap .i64 (a5 - 1)), ()), (), ()))) else (some (.inr ((a5, ()), (), ())))))) else none)) else none) else (some (.inr ((a5, ()), (), ()))))
noncomputable def L69_6 (a0 : (List DEv)) (a3 : (List DEv)) (a4 : Int) (a5 : Int) : Option ((Int × Unit) × Unit × Unit) := loopF (fun x : (((List DEv) × ((List DEv) × (Int × (Int × Unit)))) × Unit × Unit) => T69_6 x.1.1 x.1.2.1 x.1.2.2.1 x.1.2.2.2.1) ((a0, a3, a4, a5, ()), (), ())
theorem L69_6_eq (a0 : (List DEv)) (a3 : (List DEv)) (a4 : Int) (a5 : Int) : L69_6 a0 a3 a4 a5 = (T69_6 a0 a3 a4 a5).bind (Sum.elim (fun x => L69_6 x.1.1 x.1.2.1 x.1.2.2.1 x.1.2.2.2.1) some) := loopF_eq _ _
noncomputable def k69_6 : Con := ⟨i69_6, o69_6, fun x => L69_6 x.1.1 x.1.2.1 x.1.2.2.1 x.1.2.2.2.1⟩
theorem e69_6 (x : i69_6.E) : vround Try.prog C69_6 LO69_6 Try.f69.ntmps l69_6 i69_6 o69_6 x = T69_6 x.1.1 x.1.2.1 x.1.2.2.1 x.1.2.2.2.1 := by kernel_rfl
theorem k69_6_ok : Con.LOK Try.prog Try.f69.ntmps l69_6 k69_6 := (loop_ok C69_6_ok (loops_of (l := []) (by kernel_rfl) (show LoopsOK Try.prog Try.f69.ntmps [] LO69_6 from trivial)) i69_6 o69_6).congr fun x => (congrArg (fun T => loopF T x) (funext e69_6)).symm
noncomputable def C69_3 : Tab := []
theorem C69_3_ok : TabOK Try.prog C69_3 := trivial
noncomputable def LO69_3 : Tab := [(6, k69_6)]
noncomputable def i69_3 : Tm := { sl := [(0, .v (.l tDEv)), (3, .o 0), (4, .v (.i .i64))], bx := [], bf := [tDEv] }
noncomputable def o69_3 : OT := (.exit 0 { sl := [(3, .o 0)], bx := [], bf := [tDEv] })
noncomputable def T69_3 (a0 : (List DEv)) (a4 : Int) (q0 : (List DEv)) : Option ((((List DEv) × (Unit × (Int × Unit))) × Unit × ((List DEv) × Unit)) ⊕ ((Unit × Unit) × Unit × ((List DEv) × Unit))) :=
  (bif (decide ((a4 : Int) < (((a0).length : Nat) : Int))) then ((L69_6 a0 q0 a4 (((q0).length : Nat) : Int)).bind fun y421 => (bif (decide (0 ≤ (y421.1.1 : Int) ∧ (y421.1.1 : Int) ≤ (((q0).length : Nat) : Int))) then (bif (decide ((((q0).take (y421.1.1 : Int).toNat)).length < lim)) then (bif (decide (0 ≤ (a4 : Int) ∧ (a4 : Int) < (((a0).length : Nat) : Int))) then (bif (decide ((((q0).take (y421.1.1 : Int).toNat)).length + ([(((a0).getD (a4 : Int).toNat ((0 : Int), ((0 : Int), ((0 : Int), ((0 : Int), (ByteArray.empty, ([], ((0 : Nat), ((0 : Int), ()))))))))).1, (((a0).getD (a4 : Int).toNat ((0 : Int), ((0 : Int), ((0 : Int), ((0 : Int), (ByteArray.empty, ([], ((0 : Nat), ((0 : Int), ()))))))))).2.1, (((a0).getD (a4 : Int).toNat ((0 : Int), ((0 : Int), ((0 : Int), ((0 : Int), (ByteArray.empty, ([], ((0 : Nat), ((0 : Int), ()))))))))).2.2.1, (((a0).getD (a4 : Int).toNat ((0 : Int), ((0 : Int), ((0 : Int), ((0 : Int), (ByteArray.empty, ([], ((0 : Nat), ((0 : Int), ()))))))))).2.2.2.1, (((a0).getD (a4 : Int).toNat ((0 : Int), ((0 : Int), ((0 : Int), ((0 : Int), (ByteArray.empty, ([], ((0 : Nat), ((0 : Int), ()))))))))).2.2.2.2.1, (((a0).getD (a4 : Int).toNat ((0 : Int), ((0 : Int), ((0 : Int), ((0 : Int), (ByteArray.empty, ([], ((0 : Nat), ((0 : Int), ()))))))))).2.2.2.2.2.1, (((a0).getD (a4 : Int).toNat ((0 : Int), ((0 : Int), ((0 : Int), ((0 : Int), (ByteArray.empty, ([], ((0 : Nat), ((0 : Int), ()))))))))).2.2.2.2.2.2.1, (((a0).getD (a4 : Int).toNat ((0 : Int), ((0 : Int), ((0 : Int), ((0 : Int), (ByteArray.empty, ([], ((0 : Nat), ((0 : Int), ()))))))))).2.2.2.2.2.2.2.1, ()))))))))]).length < lim)) then (bif (decide (0 ≤ (y421.1.1 : Int) ∧ (y421.1.1 : Int) ≤ (((q0).length : Nat) : Int))) then (bif (decide (((((q0).take (y421.1.1 : Int).toNat) ++ [(((a0).getD (a4 : Int).toNat ((0 : Int), ((0 : Int), ((0 : Int), ((0 : Int), (ByteArray.empty, ([], ((0 : Nat), ((0 : Int), ()))))))))).1, (((a0).getD (a4 : Int).toNat ((0 : Int), ((0 : Int), ((0 : Int), ((0 : Int), (ByteArray.empty, ([], ((0 : Nat), ((0 : Int), ()))))))))).2.1, (((a0).getD (a4 : Int).toNat ((0 : Int), ((0 : Int), ((0 : Int), ((0 : Int), (ByteArray.empty, ([], ((0 : Nat), ((0 : Int), ()))))))))).2.2.1, (((a0).getD (a4 : Int).toNat ((0 : Int), ((0 : Int), ((0 : Int), ((0 : Int), (ByteArray.empty, ([], ((0 : Nat), ((0 : Int), ()))))))))).2.2.2.1, (((a0).getD (a4 : Int).toNat ((0 : Int), ((0 : Int), ((0 : Int), ((0 : Int), (ByteArray.empty, ([], ((0 : Nat), ((0 : Int), ()))))))))).2.2.2.2.1, (((a0).getD (a4 : Int).toNat ((0 : Int), ((0 : Int), ((0 : Int), ((0 : Int), (ByteArray.empty, ([], ((0 : Nat), ((0 : Int), ()))))))))).2.2.2.2.2.1, (((a0).getD (a4 : Int).toNat ((0 : Int), ((0 : Int), ((0 : Int), ((0 : Int), (ByteArray.empty, ([], ((0 : Nat), ((0 : Int), ()))))))))).2.2.2.2.2.2.1, (((a0).getD (a4 : Int).toNat ((0 : Int), ((0 : Int), ((0 : Int), ((0 : Int), (ByteArray.empty, ([], ((0 : Nat), ((0 : Int), ()))))))))).2.2.2.2.2.2.2.1, ()))))))))])).length + (((q0).drop (y421.1.1 : Int).toNat)).length < lim)) then (some (.inl ((a0, (), (IntKind.wrap .i64 (a4 + 1)), ()), (), (((((q0).take (y421.1.1 : Int).toNat) ++ [(((a0).getD (a4 : Int).toNat ((0 : Int), ((0 : Int), ((0 : Int), ((0 : Int), (ByteArray.empty, ([], ((0 : Nat), ((0 : Int), ()))))))))).1, (((a0).getD (a4 : Int).toNat ((0 : Int), ((0 : Int), ((0 : Int), ((0 : Int), (ByteArray.empty, ([], ((0 : Nat), ((0 : Int), ()))))))))).2.1, (((a0).getD (a4 : Int).toNat ((0 : Int), ((0 : Int), ((0 : Int), ((0 : Int), (ByteArray.empty, ([], ((0 : Nat), ((0 : Int), ()))))))))).2.2.1, (((a0).getD (a4 : Int).toNat ((0 : Int), ((0 : Int), ((0 : Int), ((0 : Int), (ByteArray.empty, ([], ((0 : Nat), ((0 : Int), ()))))))))).2.2.2.1, (((a0).getD (a4 : Int).toNat ((0 : Int), ((0 : Int), ((0 : Int), ((0 : Int), (ByteArray.empty, ([], ((0 : Nat), ((0 : Int), ()))))))))).2.2.2.2.1, (((a0).getD (a4 : Int).toNat ((0 : Int), ((0 : Int), ((0 : Int), ((0 : Int), (ByteArray.empty, ([], ((0 : Nat), ((0 : Int), ()))))))))).2.2.2.2.2.1, (((a0).getD (a4 : Int).toNat ((0 : Int), ((0 : Int), ((0 : Int), ((0 : Int), (ByteArray.empty, ([], ((0 : Nat), ((0 : Int), ()))))))))).2.2.2.2.2.2.1, (((a0).getD (a4 : Int).toNat ((0 : Int), ((0 : Int), ((0 : Int), ((0 : Int), (ByteArray.empty, ([], ((0 : Nat), ((0 : Int), ()))))))))).2.2.2.2.2.2.2.1, ()))))))))]) ++ ((q0).drop (y421.1.1 : Int).toNat)), ())))) else none) else none) else none) else none) else none) else none)) else (some (.inr (((), ()), (), (q0, ())))))
noncomputable def L69_3 (a0 : (List DEv)) (a4 : Int) (q0 : (List DEv)) : Option ((Unit × Unit) × Unit × ((List DEv) × Unit)) := loopF (fun x : (((List DEv) × (Unit × (Int × Unit))) × Unit × ((List DEv) × Unit)) => T69_3 x.1.1 x.1.2.2.1 x.2.2.1) ((a0, (), a4, ()), (), (q0, ()))
theorem L69_3_eq (a0 : (List DEv)) (a4 : Int) (q0 : (List DEv)) : L69_3 a0 a4 q0 = (T69_3 a0 a4 q0).bind (Sum.elim (fun x => L69_3 x.1.1 x.1.2.2.1 x.2.2.1) some) := loopF_eq _ _
noncomputable def k69_3 : Con := ⟨i69_3, o69_3, fun x => L69_3 x.1.1 x.1.2.2.1 x.2.2.1⟩
theorem e69_3 (x : i69_3.E) : vround Try.prog C69_3 LO69_3 Try.f69.ntmps l69_3 i69_3 o69_3 x = T69_3 x.1.1 x.1.2.2.1 x.2.2.1 := by kernel_rfl
theorem k69_3_ok : Con.LOK Try.prog Try.f69.ntmps l69_3 k69_3 := (loop_ok C69_3_ok (loops_of (l := [l69_6]) (by kernel_rfl) (show LoopsOK Try.prog Try.f69.ntmps [l69_6] LO69_3 from ⟨k69_6_ok, trivial⟩)) i69_3 o69_3).congr fun x => (congrArg (fun T => loopF T x) (funext e69_3)).symm
noncomputable def C69 : Tab := []
theorem C69_ok : TabOK Try.prog C69 := trivial
noncomputable def LO69 : Tab := [(3, k69_3)]
noncomputable def i69 : Tm := { sl := [(0, .v (.l tDEv))], bx := [], bf := [] }
noncomputable def o69 : OT := (.ret { sl := [(0, .v (.l tDEv))], bx := [], bf := [] })
noncomputable def F69 (a0 : (List DEv)) : Option (((List DEv) × Unit) × Unit × Unit) :=
  ((L69_3 a0 0 ([] : List DEv)).bind fun y422 => (some ((y422.2.2.1, ()), (), ())))
noncomputable def c69 : Con := ⟨i69, o69, fun x => F69 x.1.1⟩
theorem e69 (x : i69.E) : vfn Try.prog C69 LO69 Try.f69 b69 i69 o69 x = F69 x.1.1 := by kernel_rfl
theorem c69_ok : Con.OK Try.prog 69 c69 := (fn_ok C69_ok Try.func69 body69 (loops_of (l := [l69_3]) (by kernel_rfl) (show LoopsOK Try.prog Try.f69.ntmps [l69_3] LO69 from ⟨k69_3_ok, trivial⟩)) i69 o69).congr fun x => (e69 x).symm
noncomputable def l35_3 : Code := (.seq (.seq (.region 3 (regOf Try.f35 3) false) (.cond (.tmp 8) .skip (.exit 0))) (.seq (.block 1 (.region 5 (regOf Try.f35 5) false)) (.region 4 (regOf Try.f35 4) false)))
noncomputable def b35 : Code := (.seq (.region 0 (regOf Try.f35 0) false) (.seq (.region 1 (regOf Try.f35 1) false) (.seq (.seq (.region 2 (regOf Try.f35 2) false) (.block 0 (.loop l35_3))) (.seq (.region 6 (regOf Try.f35 6) false) .ret))))
theorem body35 : Try.f35.body = some b35 := by kernel_rfl
noncomputable def C35_3 : Tab := []
theorem C35_3_ok : TabOK Try.prog C35_3 := trivial
noncomputable def LO35_3 : Tab := []
noncomputable def i35_3 : Tm := { sl := [(0, .v (.l (.l tDEv))), (3, .o 0), (4, .v (.i .i64))], bx := [], bf := [tDEv] }
noncomputable def o35_3 : OT := (.exit 0 { sl := [(3, .o 0)], bx := [], bf := [tDEv] })
noncomputable def T35_3 (a0 : (List (List DEv))) (a4 : Int) (q0 : (List DEv)) : Option ((((List (List DEv)) × (Unit × (Int × Unit))) × Unit × ((List DEv) × Unit)) ⊕ ((Unit × Unit) × Unit × ((List DEv) × Unit))) :=
  (bif (decide ((a4 : Int) < (((a0).length : Nat) : Int))) then (bif (decide (0 ≤ (a4 : Int) ∧ (a4 : Int) < (((a0).length : Nat) : Int))) then (bif (decide ((q0).length + (((a0).getD (a4 : Int).toNat [])).length < lim)) then (some (.inl ((a0, (), (IntKind.wrap .i64 (a4 + 1)), ()), (), ((q0 ++ ((a0).getD (a4 : Int).toNat [])), ())))) else none) else none) else (some (.inr (((), ()), (), (q0, ())))))
noncomputable def L35_3 (a0 : (List (List DEv))) (a4 : Int) (q0 : (List DEv)) : Option ((Unit × Unit) × Unit × ((List DEv) × Unit)) := loopF (fun x : (((List (List DEv)) × (Unit × (Int × Unit))) × Unit × ((List DEv) × Unit)) => T35_3 x.1.1 x.1.2.2.1 x.2.2.1) ((a0, (), a4, ()), (), (q0, ()))
theorem L35_3_eq (a0 : (List (List DEv))) (a4 : Int) (q0 : (List DEv)) : L35_3 a0 a4 q0 = (T35_3 a0 a4 q0).bind (Sum.elim (fun x => L35_3 x.1.1 x.1.2.2.1 x.2.2.1) some) := loopF_eq _ _
noncomputable def k35_3 : Con := ⟨i35_3, o35_3, fun x => L35_3 x.1.1 x.1.2.2.1 x.2.2.1⟩
theorem e35_3 (x : i35_3.E) : vround Try.prog C35_3 LO35_3 Try.f35.ntmps l35_3 i35_3 o35_3 x = T35_3 x.1.1 x.1.2.2.1 x.2.2.1 := by kernel_rfl
theorem k35_3_ok : Con.LOK Try.prog Try.f35.ntmps l35_3 k35_3 := (loop_ok C35_3_ok (loops_of (l := []) (by kernel_rfl) (show LoopsOK Try.prog Try.f35.ntmps [] LO35_3 from trivial)) i35_3 o35_3).congr fun x => (congrArg (fun T => loopF T x) (funext e35_3)).symm
noncomputable def C35 : Tab := [(69, c69)]
theorem C35_ok : TabOK Try.prog C35 := ⟨c69_ok, trivial⟩
noncomputable def LO35 : Tab := [(3, k35_3)]
noncomputable def i35 : Tm := { sl := [(0, .v (.l (.l tDEv)))], bx := [], bf := [] }
noncomputable def o35 : OT := (.ret { sl := [(0, .v (.l tDEv))], bx := [], bf := [] })
noncomputable def F35 (a0 : (List (List DEv))) : Option (((List DEv) × Unit) × Unit × Unit) :=
  ((L35_3 a0 0 ([] : List DEv)).bind fun y423 => ((F69 y423.2.2.1).bind fun y424 => (some ((y424.1.1, ()), (), ()))))
noncomputable def c35 : Con := ⟨i35, o35, fun x => F35 x.1.1⟩
theorem e35 (x : i35.E) : vfn Try.prog C35 LO35 Try.f35 b35 i35 o35 x = F35 x.1.1 := by kernel_rfl
theorem c35_ok : Con.OK Try.prog 35 c35 := (fn_ok C35_ok Try.func35 body35 (loops_of (l := [l35_3]) (by kernel_rfl) (show LoopsOK Try.prog Try.f35.ntmps [l35_3] LO35 from ⟨k35_3_ok, trivial⟩)) i35 o35).congr fun x => (e35 x).symm
noncomputable def l34_3 : Code := (.seq (.seq (.region 3 (regOf Try.f34 3) false) (.cond (.tmp 12) .skip (.exit 0))) (.seq (.block 1 (.region 5 (regOf Try.f34 5) false)) (.region 4 (regOf Try.f34 4) false)))
noncomputable def b34 : Code := (.seq (.region 0 (regOf Try.f34 0) false) (.seq (.region 1 (regOf Try.f34 1) false) (.seq (.seq (.region 2 (regOf Try.f34 2) false) (.block 0 (.loop l34_3))) (.seq (.region 6 (regOf Try.f34 6) false) .ret))))
theorem body34 : Try.f34.body = some b34 := by kernel_rfl
noncomputable def C34_3 : Tab := []
theorem C34_3_ok : TabOK Try.prog C34_3 := trivial
noncomputable def LO34_3 : Tab := []
noncomputable def i34_3 : Tm := { sl := [(0, .v (.l (.i .u64))), (3, .o 0), (4, .v (.i .i64))], bx := [], bf := [(.i .u64)] }
noncomputable def o34_3 : OT := (.exit 0 { sl := [(3, .o 0)], bx := [], bf := [(.i .u64)] })
noncomputable def T34_3 (a0 : (List Int)) (a4 : Int) (q0 : (List Int)) : Option ((((List Int) × (Unit × (Int × Unit))) × Unit × ((List Int) × Unit)) ⊕ ((Unit × Unit) × Unit × ((List Int) × Unit))) :=
  (bif (decide ((a4 : Int) < (((a0).length : Nat) : Int))) then (bif (decide ((a4 : Int) < 64)) then (bif (decide (0 ≤ (a4 : Int) ∧ (a4 : Int) < (((a0).length : Nat) : Int))) then (bif (decide ((q0).length + ([((((a0).getD (a4 : Int).toNat (0 : Int)) : Int).tmod 9223372036854775808)]).length < lim)) then (some (.inl ((a0, (), (IntKind.wrap .i64 (a4 + 1)), ()), (), ((q0 ++ [((((a0).getD (a4 : Int).toNat (0 : Int)) : Int).tmod 9223372036854775808)]), ())))) else none) else none) else (some (.inr (((), ()), (), (q0, ()))))) else (some (.inr (((), ()), (), (q0, ())))))
noncomputable def L34_3 (a0 : (List Int)) (a4 : Int) (q0 : (List Int)) : Option ((Unit × Unit) × Unit × ((List Int) × Unit)) := loopF (fun x : (((List Int) × (Unit × (Int × Unit))) × Unit × ((List Int) × Unit)) => T34_3 x.1.1 x.1.2.2.1 x.2.2.1) ((a0, (), a4, ()), (), (q0, ()))
theorem L34_3_eq (a0 : (List Int)) (a4 : Int) (q0 : (List Int)) : L34_3 a0 a4 q0 = (T34_3 a0 a4 q0).bind (Sum.elim (fun x => L34_3 x.1.1 x.1.2.2.1 x.2.2.1) some) := loopF_eq _ _
noncomputable def k34_3 : Con := ⟨i34_3, o34_3, fun x => L34_3 x.1.1 x.1.2.2.1 x.2.2.1⟩
theorem e34_3 (x : i34_3.E) : vround Try.prog C34_3 LO34_3 Try.f34.ntmps l34_3 i34_3 o34_3 x = T34_3 x.1.1 x.1.2.2.1 x.2.2.1 := by kernel_rfl
theorem k34_3_ok : Con.LOK Try.prog Try.f34.ntmps l34_3 k34_3 := (loop_ok C34_3_ok (loops_of (l := []) (by kernel_rfl) (show LoopsOK Try.prog Try.f34.ntmps [] LO34_3 from trivial)) i34_3 o34_3).congr fun x => (congrArg (fun T => loopF T x) (funext e34_3)).symm
noncomputable def C34 : Tab := []
theorem C34_ok : TabOK Try.prog C34 := trivial
noncomputable def LO34 : Tab := [(3, k34_3)]
noncomputable def i34 : Tm := { sl := [(0, .v (.l (.i .u64)))], bx := [], bf := [] }
noncomputable def o34 : OT := (.ret { sl := [(0, .v (.l (.i .u64)))], bx := [], bf := [] })
noncomputable def F34 (a0 : (List Int)) : Option (((List Int) × Unit) × Unit × Unit) :=
  ((L34_3 a0 0 ([] : List Int)).bind fun y425 => (some ((y425.2.2.1, ()), (), ())))
noncomputable def c34 : Con := ⟨i34, o34, fun x => F34 x.1.1⟩
theorem e34 (x : i34.E) : vfn Try.prog C34 LO34 Try.f34 b34 i34 o34 x = F34 x.1.1 := by kernel_rfl
theorem c34_ok : Con.OK Try.prog 34 c34 := (fn_ok C34_ok Try.func34 body34 (loops_of (l := [l34_3]) (by kernel_rfl) (show LoopsOK Try.prog Try.f34.ntmps [l34_3] LO34 from ⟨k34_3_ok, trivial⟩)) i34 o34).congr fun x => (e34 x).symm
noncomputable def l11_9 : Code := (.seq (.seq (.region 9 (regOf Try.f11 9) false) (.cond (.tmp 45) .skip (.exit 1))) (.seq (.block 2 (.region 11 (regOf Try.f11 11) true)) (.region 10 (regOf Try.f11 10) false)))
noncomputable def b11 : Code := (.seq (.region 0 (regOf Try.f11 0) false) (.seq (.region 1 (regOf Try.f11 1) false) (.seq (.seq (.region 2 (regOf Try.f11 2) false) (.block 0 (.seq (.seq (.region 4 (regOf Try.f11 4) false) (.cond (.tmp 29) .skip (.seq (.region 5 (regOf Try.f11 5) false) (.cond (.tmp 29) .skip (.region 6 (regOf Try.f11 6) false))))) (.cond (.tmp 29) (.seq (.region 7 (regOf Try.f11 7) false) (.seq (.region 8 (regOf Try.f11 8) false) (.block 1 (.loop l11_9)))) (.seq (.region 12 (regOf Try.f11 12) false) (.cond (.tmp 77) (.seq (.region 13 (regOf Try.f11 13) false) (.region 14 (regOf Try.f11 14) false)) (.seq (.region 15 (regOf Try.f11 15) false) (.cond (.tmp 88) (.seq (.region 16 (regOf Try.f11 16) false) (.seq (.region 17 (regOf Try.f11 17) false) (.seq (.region 18 (regOf Try.f11 18) false) (.region 19 (regOf Try.f11 19) false)))) (.seq (.region 20 (regOf Try.f11 20) false) (.cond (.tmp 105) (.seq (.region 21 (regOf Try.f11 21) false) (.seq (.region 22 (regOf Try.f11 22) false) (.region 23 (regOf Try.f11 23) false))) (.region 3 (regOf Try.f11 3) false))))))))))) (.seq (.region 24 (regOf Try.f11 24) false) .ret))))
theorem body11 : Try.f11.body = some b11 := by kernel_rfl
noncomputable def C11_9 : Tab := [(34, c34)]
theorem C11_9_ok : TabOK Try.prog C11_9 := ⟨c34_ok, trivial⟩
noncomputable def LO11_9 : Tab := []
noncomputable def i11_9 : Tm := { sl := [(1, .p 0 0), (2, .p 1 0), (3, .p 2 0), (4, .v (.i .i64))], bx := [[.v (.i .u8), .v (.i .u8), .v (.i .u8), .v (.i .u8), .v .b, .v (.i .u64), .v (.i .u64), .v (.i .u32), .v (.i .u32), .v (.l (.i .u64)), .v (.l tDRw), .v (.l (.i .u16)), .v (.l (.i .u8))], [.v (.i .u8), .v (.i .i64), .v (.i .i64), .v .b, .v (.i .u64), .v (.l (.i .u64)), .v (.l tDRw), .v (.l tDEv), .v (.i .u64), .v (.i .u64), .v (.i .u32), .v (.i .u64), .v (.l (.i .u8)), .v (.i .i64)], [.v (.i .u8), .v (.i .i64), .v (.i .i64), .v .b, .v (.i .u64), .v (.l (.i .u64)), .o 0, .v (.l tDEv), .v (.i .u64), .v (.i .u64), .v (.i .u32), .v (.i .u64), .v (.l (.i .u8)), .v (.i .i64)]], bf := [tDRw] }
noncomputable def o11_9 : OT := (.exit 1 { sl := [], bx := [[.v (.i .u8), .v (.i .u8), .v (.i .u8), .v (.i .u8), .v .b, .v (.i .u64), .v (.i .u64), .v (.i .u32), .v (.i .u32), .v (.l (.i .u64)), .v (.l tDRw), .v (.l (.i .u16)), .v (.l (.i .u8))], [.v (.i .u8), .v (.i .i64), .v (.i .i64), .v .b, .v (.i .u64), .v (.l (.i .u64)), .v (.l tDRw), .v (.l tDEv), .v (.i .u64), .v (.i .u64), .v (.i .u32), .v (.i .u64), .v (.l (.i .u8)), .v (.i .i64)], [.v (.i .u8), .v (.i .i64), .v (.i .i64), .v .b, .v (.i .u64), .v (.l (.i .u64)), .v (.l tDRw), .v (.l tDEv), .v (.i .u64), .v (.i .u64), .v (.i .u32), .v (.i .u64), .v (.l (.i .u8)), .v (.i .i64)]], bf := [] })
noncomputable def T11_9 (a4 : Int) (b0_0 : Int) (b0_1 : Int) (b0_2 : Int) (b0_3 : Int) (b0_4 : Bool) (b0_5 : Int) (b0_6 : Int) (b0_7 : Int) (b0_8 : Int) (b0_9 : (List Int)) (b0_10 : (List DRw)) (b0_11 : (List Int)) (b0_12 : (List Int)) (b1_0 : Int) (b1_1 : Int) (b1_2 : Int) (b1_3 : Bool) (b1_4 : Int) (b1_5 : (List Int)) (b1_6 : (List DRw)) (b1_7 : (List DEv)) (b1_8 : Int) (b1_9 : Int) (b1_10 : Int) (b1_11 : Int) (b1_12 : (List Int)) (b1_13 : Int) (b2_0 : Int) (b2_1 : Int) (b2_2 : Int) (b2_3 : Bool) (b2_4 : Int) (b2_5 : (List Int)) (b2_7 : (List DEv)) (b2_8 : Int) (b2_9 : Int) (b2_10 : Int) (b2_11 : Int) (b2_12 : (List Int)) (b2_13 : Int) (q0 : (List DRw)) : Option (((Unit × (Unit × (Unit × (Int × Unit)))) × ((Int × (Int × (Int × (Int × (Bool × (Int × (Int × (Int × (Int × ((List Int) × ((List DRw) × ((List Int) × ((List Int) × Unit))))))))))))) × (DLt × ((Int × (Int × (Int × (Bool × (Int × ((List Int) × (Unit × ((List DEv) × (Int × (Int × (Int × DRw))))))))))) × Unit))) × ((List DRw) × Unit)) ⊕ (Unit × ((Int × (Int × (Int × (Int × (Bool × (Int × (Int × (Int × (Int × ((List Int) × ((List DRw) × ((List Int) × ((List Int) × Unit))))))))))))) × (DLt × (DLt × Unit))) × Unit)) :=
  (bif (decide ((a4 : Int) < (((b0_10).length : Nat) : Int))) then (bif (decide ((a4 : Int) < 64)) then (bif (decide (0 ≤ (a4 : Int) ∧ (a4 : Int) < (((b0_10).length : Nat) : Int))) then (bif (decide (0 ≤ (a4 : Int) ∧ (a4 : Int) < (((b0_10).length : Nat) : Int))) then ((F34 (((b0_10).getD (a4 : Int).toNat ((0 : Int), ([], ((0 : Int), ())))).2.1)).bind fun y428 => (bif (decide (0 ≤ (a4 : Int) ∧ (a4 : Int) < (((b0_10).length : Nat) : Int))) then (bif (decide ((q0).length + ([((IntKind.wrap .i64 (((IntKind.wrap .u64 ((b0_10).getD (a4 : Int).toNat ((0 : Int), ([], ((0 : Int), ())))).1) : Int).tmod 64)), (y428.1.1, (((((b0_10).getD (a4 : Int).toNat ((0 : Int), ([], ((0 : Int), ())))).2.2.1 : Int).tmod 9223372036854775808), ())))]).length < lim)) then (some (.inl (((), (), (), (IntKind.wrap .i64 (a4 + 1)), ()), ((b0_0, b0_1, b0_2, b0_3, b0_4, b0_5, b0_6, b0_7, b0_8, b0_9, b0_10, b0_11, b0_12, ()), (b1_0, b1_1, b1_2, b1_3, b1_4, b1_5, b1_6, b1_7, b1_8, b1_9, b1_10, b1_11, b1_12, b1_13, ()), (b2_0, b2_1, b2_2, b2_3, b2_4, b2_5, (), b2_7, b2_8, b2_9, b2_10, b2_11, b2_12, b2_13, ()), ()), ((q0 ++ [((IntKind.wrap .i64 (((IntKind.wrap .u64 ((b0_10).getD (a4 : Int).toNat ((0 : Int), ([], ((0 : Int), ())))).1) : Int).tmod 64)), (y428.1.1, (((((b0_10).getD (a4 : Int).toNat ((0 : Int), ([], ((0 : Int), ())))).2.2.1 : Int).tmod 9223372036854775808), ())))]), ())))) else none) else none)) else none) else none) else (some (.inr ((), ((b0_0, b0_1, b0_2, b0_3, b0_4, b0_5, b0_6, b0_7, b0_8, b0_9, b0_10, b0_11, b0_12, ()), (b1_0, b1_1, b1_2, b1_3, b1_4, b1_5, b1_6, b1_7, b1_8, b1_9, b1_10, b1_11, b1_12, b1_13, ()), (b2_0, b2_1, b2_2, b2_3, b2_4, b2_5, q0, b2_7, b2_8, b2_9, b2_10, b2_11, b2_12, b2_13, ()), ()), ())))) else (some (.inr ((), ((b0_0, b0_1, b0_2, b0_3, b0_4, b0_5, b0_6, b0_7, b0_8, b0_9, b0_10, b0_11, b0_12, ()), (b1_0, b1_1, b1_2, b1_3, b1_4, b1_5, b1_6, b1_7, b1_8, b1_9, b1_10, b1_11, b1_12, b1_13, ()), (b2_0, b2_1, b2_2, b2_3, b2_4, b2_5, q0, b2_7, b2_8, b2_9, b2_10, b2_11, b2_12, b2_13, ()), ()), ()))))
noncomputable def L11_9 (a4 : Int) (b0_0 : Int) (b0_1 : Int) (b0_2 : Int) (b0_3 : Int) (b0_4 : Bool) (b0_5 : Int) (b0_6 : Int) (b0_7 : Int) (b0_8 : Int) (b0_9 : (List Int)) (b0_10 : (List DRw)) (b0_11 : (List Int)) (b0_12 : (List Int)) (b1_0 : Int) (b1_1 : Int) (b1_2 : Int) (b1_3 : Bool) (b1_4 : Int) (b1_5 : (List Int)) (b1_6 : (List DRw)) (b1_7 : (List DEv)) (b1_8 : Int) (b1_9 : Int) (b1_10 : Int) (b1_11 : Int) (b1_12 : (List Int)) (b1_13 : Int) (b2_0 : Int) (b2_1 : Int) (b2_2 : Int) (b2_3 : Bool) (b2_4 : Int) (b2_5 : (List Int)) (b2_7 : (List DEv)) (b2_8 : Int) (b2_9 : Int) (b2_10 : Int) (b2_11 : Int) (b2_12 : (List Int)) (b2_13 : Int) (q0 : (List DRw)) : Option (Unit × ((Int × (Int × (Int × (Int × (Bool × (Int × (Int × (Int × (Int × ((List Int) × ((List DRw) × ((List Int) × ((List Int) × Unit))))))))))))) × (DLt × (DLt × Unit))) × Unit) := loopF (fun x : ((Unit × (Unit × (Unit × (Int × Unit)))) × ((Int × (Int × (Int × (Int × (Bool × (Int × (Int × (Int × (Int × ((List Int) × ((List DRw) × ((List Int) × ((List Int) × Unit))))))))))))) × (DLt × ((Int × (Int × (Int × (Bool × (Int × ((List Int) × (Unit × ((List DEv) × (Int × (Int × (Int × DRw))))))))))) × Unit))) × ((List DRw) × Unit)) => T11_9 x.1.2.2.2.1 x.2.1.1.1 x.2.1.1.2.1 x.2.1.1.2.2.1 x.2.1.1.2.2.2.1 x.2.1.1.2.2.2.2.1 x.2.1.1.2.2.2.2.2.1 x.2.1.1.2.2.2.2.2.2.1 x.2.1.1.2.2.2.2.2.2.2.1 x.2.1.1.2.2.2.2.2.2.2.2.1 x.2.1.1.2.2.2.2.2.2.2.2.2.1 x.2.1.1.2.2.2.2.2.2.2.2.2.2.1 x.2.1.1.2.2.2.2.2.2.2.2.2.2.2.1 x.2.1.1.2.2.2.2.2.2.2.2.2.2.2.2.1 x.2.1.2.1.1 x.2.1.2.1.2.1 x.2.1.2.1.2.2.1 x.2.1.2.1.2.2.2.1 x.2.1.2.1.2.2.2.2.1 x.2.1.2.1.2.2.2.2.2.1 x.2.1.2.1.2.2.2.2.2.2.1 x.2.1.2.1.2.2.2.2.2.2.2.1 x.2.1.2.1.2.2.2.2.2.2.2.2.1 x.2.1.2.1.2.2.2.2.2.2.2.2.2.1 x.2.1.2.1.2.2.2.2.2.2.2.2.2.2.1 x.2.1.2.1.2.2.2.2.2.2.2.2.2.2.2.1 x.2.1.2.1.2.2.2.2.2.2.2.2.2.2.2.2.1 x.2.1.2.1.2.2.2.2.2.2.2.2.2.2.2.2.2.1 x.2.1.2.2.1.1 x.2.1.2.2.1.2.1 x.2.1.2.2.1.2.2.1 x.2.1.2.2.1.2.2.2.1 x.2.1.2.2.1.2.2.2.2.1 x.2.1.2.2.1.2.2.2.2.2.1 x.2.1.2.2.1.2.2.2.2.2.2.2.1 x.2.1.2.2.1.2.2.2.2.2.2.2.2.1 x.2.1.2.2.1.2.2.2.2.2.2.2.2.2.1 x.2.1.2.2.1.2.2.2.2.2.2.2.2.2.2.1 x.2.1.2.2.1.2.2.2.2.2.2.2.2.2.2.2.1 x.2.1.2.2.1.2.2.2.2.2.2.2.2.2.2.2.2.1 x.2.1.2.2.1.2.2.2.2.2.2.2.2.2.2.2.2.2.1 x.2.2.1) (((), (), (), a4, ()), ((b0_0, b0_1, b0_2, b0_3, b0_4, b0_5, b0_6, b0_7, b0_8, b0_9, b0_10, b0_11, b0_12, ()), (b1_0, b1_1, b1_2, b1_3, b1_4, b1_5, b1_6, b1_7, b1_8, b1_9, b1_10, b1_11, b1_12, b1_13, ()), (b2_0, b2_1, b2_2, b2_3, b2_4, b2_5, (), b2_7, b2_8, b2_9, b2_10, b2_11, b2_12, b2_13, ()), ()), (q0, ()))
theorem L11_9_eq (a4 : Int) (b0_0 : Int) (b0_1 : Int) (b0_2 : Int) (b0_3 : Int) (b0_4 : Bool) (b0_5 : Int) (b0_6 : Int) (b0_7 : Int) (b0_8 : Int) (b0_9 : (List Int)) (b0_10 : (List DRw)) (b0_11 : (List Int)) (b0_12 : (List Int)) (b1_0 : Int) (b1_1 : Int) (b1_2 : Int) (b1_3 : Bool) (b1_4 : Int) (b1_5 : (List Int)) (b1_6 : (List DRw)) (b1_7 : (List DEv)) (b1_8 : Int) (b1_9 : Int) (b1_10 : Int) (b1_11 : Int) (b1_12 : (List Int)) (b1_13 : Int) (b2_0 : Int) (b2_1 : Int) (b2_2 : Int) (b2_3 : Bool) (b2_4 : Int) (b2_5 : (List Int)) (b2_7 : (List DEv)) (b2_8 : Int) (b2_9 : Int) (b2_10 : Int) (b2_11 : Int) (b2_12 : (List Int)) (b2_13 : Int) (q0 : (List DRw)) : L11_9 a4 b0_0 b0_1 b0_2 b0_3 b0_4 b0_5 b0_6 b0_7 b0_8 b0_9 b0_10 b0_11 b0_12 b1_0 b1_1 b1_2 b1_3 b1_4 b1_5 b1_6 b1_7 b1_8 b1_9 b1_10 b1_11 b1_12 b1_13 b2_0 b2_1 b2_2 b2_3 b2_4 b2_5 b2_7 b2_8 b2_9 b2_10 b2_11 b2_12 b2_13 q0 = (T11_9 a4 b0_0 b0_1 b0_2 b0_3 b0_4 b0_5 b0_6 b0_7 b0_8 b0_9 b0_10 b0_11 b0_12 b1_0 b1_1 b1_2 b1_3 b1_4 b1_5 b1_6 b1_7 b1_8 b1_9 b1_10 b1_11 b1_12 b1_13 b2_0 b2_1 b2_2 b2_3 b2_4 b2_5 b2_7 b2_8 b2_9 b2_10 b2_11 b2_12 b2_13 q0).bind (Sum.elim (fun x => L11_9 x.1.2.2.2.1 x.2.1.1.1 x.2.1.1.2.1 x.2.1.1.2.2.1 x.2.1.1.2.2.2.1 x.2.1.1.2.2.2.2.1 x.2.1.1.2.2.2.2.2.1 x.2.1.1.2.2.2.2.2.2.1 x.2.1.1.2.2.2.2.2.2.2.1 x.2.1.1.2.2.2.2.2.2.2.2.1 x.2.1.1.2.2.2.2.2.2.2.2.2.1 x.2.1.1.2.2.2.2.2.2.2.2.2.2.1 x.2.1.1.2.2.2.2.2.2.2.2.2.2.2.1 x.2.1.1.2.2.2.2.2.2.2.2.2.2.2.2.1 x.2.1.2.1.1 x.2.1.2.1.2.1 x.2.1.2.1.2.2.1 x.2.1.2.1.2.2.2.1 x.2.1.2.1.2.2.2.2.1 x.2.1.2.1.2.2.2.2.2.1 x.2.1.2.1.2.2.2.2.2.2.1 x.2.1.2.1.2.2.2.2.2.2.2.1 x.2.1.2.1.2.2.2.2.2.2.2.2.1 x.2.1.2.1.2.2.2.2.2.2.2.2.2.1 x.2.1.2.1.2.2.2.2.2.2.2.2.2.2.1 x.2.1.2.1.2.2.2.2.2.2.2.2.2.2.2.1 x.2.1.2.1.2.2.2.2.2.2.2.2.2.2.2.2.1 x.2.1.2.1.2.2.2.2.2.2.2.2.2.2.2.2.2.1 x.2.1.2.2.1.1 x.2.1.2.2.1.2.1 x.2.1.2.2.1.2.2.1 x.2.1.2.2.1.2.2.2.1 x.2.1.2.2.1.2.2.2.2.1 x.2.1.2.2.1.2.2.2.2.2.1 x.2.1.2.2.1.2.2.2.2.2.2.2.1 x.2.1.2.2.1.2.2.2.2.2.2.2.2.1 x.2.1.2.2.1.2.2.2.2.2.2.2.2.2.1 x.2.1.2.2.1.2.2.2.2.2.2.2.2.2.2.1 x.2.1.2.2.1.2.2.2.2.2.2.2.2.2.2.2.1 x.2.1.2.2.1.2.2.2.2.2.2.2.2.2.2.2.2.1 x.2.1.2.2.1.2.2.2.2.2.2.2.2.2.2.2.2.2.1 x.2.2.1) some) := loopF_eq _ _
noncomputable def k11_9 : Con := ⟨i11_9, o11_9, fun x => L11_9 x.1.2.2.2.1 x.2.1.1.1 x.2.1.1.2.1 x.2.1.1.2.2.1 x.2.1.1.2.2.2.1 x.2.1.1.2.2.2.2.1 x.2.1.1.2.2.2.2.2.1 x.2.1.1.2.2.2.2.2.2.1 x.2.1.1.2.2.2.2.2.2.2.1 x.2.1.1.2.2.2.2.2.2.2.2.1 x.2.1.1.2.2.2.2.2.2.2.2.2.1 x.2.1.1.2.2.2.2.2.2.2.2.2.2.1 x.2.1.1.2.2.2.2.2.2.2.2.2.2.2.1 x.2.1.1.2.2.2.2.2.2.2.2.2.2.2.2.1 x.2.1.2.1.1 x.2.1.2.1.2.1 x.2.1.2.1.2.2.1 x.2.1.2.1.2.2.2.1 x.2.1.2.1.2.2.2.2.1 x.2.1.2.1.2.2.2.2.2.1 x.2.1.2.1.2.2.2.2.2.2.1 x.2.1.2.1.2.2.2.2.2.2.2.1 x.2.1.2.1.2.2.2.2.2.2.2.2.1 x.2.1.2.1.2.2.2.2.2.2.2.2.2.1 x.2.1.2.1.2.2.2.2.2.2.2.2.2.2.1 x.2.1.2.1.2.2.2.2.2.2.2.2.2.2.2.1 x.2.1.2.1.2.2.2.2.2.2.2.2.2.2.2.2.1 x.2.1.2.1.2.2.2.2.2.2.2.2.2.2.2.2.2.1 x.2.1.2.2.1.1 x.2.1.2.2.1.2.1 x.2.1.2.2.1.2.2.1 x.2.1.2.2.1.2.2.2.1 x.2.1.2.2.1.2.2.2.2.1 x.2.1.2.2.1.2.2.2.2.2.1 x.2.1.2.2.1.2.2.2.2.2.2.2.1 x.2.1.2.2.1.2.2.2.2.2.2.2.2.1 x.2.1.2.2.1.2.2.2.2.2.2.2.2.2.1 x.2.1.2.2.1.2.2.2.2.2.2.2.2.2.2.1 x.2.1.2.2.1.2.2.2.2.2.2.2.2.2.2.2.1 x.2.1.2.2.1.2.2.2.2.2.2.2.2.2.2.2.2.1 x.2.1.2.2.1.2.2.2.2.2.2.2.2.2.2.2.2.2.1 x.2.2.1⟩
theorem e11_9 (x : i11_9.E) : vround Try.prog C11_9 LO11_9 Try.f11.ntmps l11_9 i11_9 o11_9 x = T11_9 x.1.2.2.2.1 x.2.1.1.1 x.2.1.1.2.1 x.2.1.1.2.2.1 x.2.1.1.2.2.2.1 x.2.1.1.2.2.2.2.1 x.2.1.1.2.2.2.2.2.1 x.2.1.1.2.2.2.2.2.2.1 x.2.1.1.2.2.2.2.2.2.2.1 x.2.1.1.2.2.2.2.2.2.2.2.1 x.2.1.1.2.2.2.2.2.2.2.2.2.1 x.2.1.1.2.2.2.2.2.2.2.2.2.2.1 x.2.1.1.2.2.2.2.2.2.2.2.2.2.2.1 x.2.1.1.2.2.2.2.2.2.2.2.2.2.2.2.1 x.2.1.2.1.1 x.2.1.2.1.2.1 x.2.1.2.1.2.2.1 x.2.1.2.1.2.2.2.1 x.2.1.2.1.2.2.2.2.1 x.2.1.2.1.2.2.2.2.2.1 x.2.1.2.1.2.2.2.2.2.2.1 x.2.1.2.1.2.2.2.2.2.2.2.1 x.2.1.2.1.2.2.2.2.2.2.2.2.1 x.2.1.2.1.2.2.2.2.2.2.2.2.2.1 x.2.1.2.1.2.2.2.2.2.2.2.2.2.2.1 x.2.1.2.1.2.2.2.2.2.2.2.2.2.2.2.1 x.2.1.2.1.2.2.2.2.2.2.2.2.2.2.2.2.1 x.2.1.2.1.2.2.2.2.2.2.2.2.2.2.2.2.2.1 x.2.1.2.2.1.1 x.2.1.2.2.1.2.1 x.2.1.2.2.1.2.2.1 x.2.1.2.2.1.2.2.2.1 x.2.1.2.2.1.2.2.2.2.1 x.2.1.2.2.1.2.2.2.2.2.1 x.2.1.2.2.1.2.2.2.2.2.2.2.1 x.2.1.2.2.1.2.2.2.2.2.2.2.2.1 x.2.1.2.2.1.2.2.2.2.2.2.2.2.2.1 x.2.1.2.2.1.2.2.2.2.2.2.2.2.2.2.1 x.2.1.2.2.1.2.2.2.2.2.2.2.2.2.2.2.1 x.2.1.2.2.1.2.2.2.2.2.2.2.2.2.2.2.2.1 x.2.1.2.2.1.2.2.2.2.2.2.2.2.2.2.2.2.2.1 x.2.2.1 := by kernel_rfl
theorem k11_9_ok : Con.LOK Try.prog Try.f11.ntmps l11_9 k11_9 := (loop_ok C11_9_ok (loops_of (l := []) (by kernel_rfl) (show LoopsOK Try.prog Try.f11.ntmps [] LO11_9 from trivial)) i11_9 o11_9).congr fun x => (congrArg (fun T => loopF T x) (funext e11_9)).symm
noncomputable def C11 : Tab := [(34, c34), (35, c35), (36, c36)]
theorem C11_ok : TabOK Try.prog C11 := ⟨c34_ok, c35_ok, c36_ok, trivial⟩
noncomputable def LO11 : Tab := [(9, k11_9)]
noncomputable def i11 : Tm := { sl := [(0, .v (.p (.i .u8) (.p (.i .u8) (.p (.i .u8) (.p (.i .u8) (.p .b (.p (.i .u64) (.p (.i .u64) (.p (.i .u32) (.p (.i .u32) (.p (.l (.i .u64)) (.p (.l tDRw) (.p (.l (.i .u16)) (.p (.l (.i .u8)) .u))))))))))))))], bx := [], bf := [] }
noncomputable def o11 : OT := (.ret { sl := [(0, .v tDLt)], bx := [], bf := [] })
noncomputable def F11 (a0 : (Int × (Int × (Int × (Int × (Bool × (Int × (Int × (Int × (Int × ((List Int) × ((List DRw) × ((List Int) × ((List Int) × Unit)))))))))))))) : Option ((DLt × Unit) × Unit × Unit) :=
  (bif (((IntKind.wrap .u8 (1 + ((a0.1 : Int).tmod 7))) : Int) == 1) then ((F34 a0.2.2.2.2.2.2.2.2.2.1).bind fun y426 => ((L11_9 0 a0.1 a0.2.1 a0.2.2.1 a0.2.2.2.1 a0.2.2.2.2.1 a0.2.2.2.2.2.1 a0.2.2.2.2.2.2.1 a0.2.2.2.2.2.2.2.1 a0.2.2.2.2.2.2.2.2.1 a0.2.2.2.2.2.2.2.2.2.1 a0.2.2.2.2.2.2.2.2.2.2.1 a0.2.2.2.2.2.2.2.2.2.2.2.1 a0.2.2.2.2.2.2.2.2.2.2.2.2.1 0 0 0 false 0 ([] : List Int) ([] : List DRw) ([] : List DEv) 0 0 0 0 ([] : List Int) 0 (IntKind.wrap .u8 (1 + ((a0.1 : Int).tmod 7))) (IntKind.wrap .i64 ((a0.2.1 : Int).tmod 64)) (IntKind.wrap .i64 ((a0.2.2.1 : Int).tmod 64)) a0.2.2.2.2.1 ((a0.2.2.2.2.2.1 : Int).tmod 9223372036854775808) y426.1.1 ([] : List DEv) 0 0 0 0 ([] : List Int) 0 ([] : List DRw)).bind fun y429 => (some (((y429.2.1.2.2.1.1, (y429.2.1.2.2.1.2.1, (y429.2.1.2.2.1.2.2.1, (y429.2.1.2.2.1.2.2.2.1, (y429.2.1.2.2.1.2.2.2.2.1, (y429.2.1.2.2.1.2.2.2.2.2.1, (y429.2.1.2.2.1.2.2.2.2.2.2.1, (y429.2.1.2.2.1.2.2.2.2.2.2.2.1, (y429.2.1.2.2.1.2.2.2.2.2.2.2.2.1, (y429.2.1.2.2.1.2.2.2.2.2.2.2.2.2.1, (y429.2.1.2.2.1.2.2.2.2.2.2.2.2.2.2.1, (y429.2.1.2.2.1.2.2.2.2.2.2.2.2.2.2.2.1, (y429.2.1.2.2.1.2.2.2.2.2.2.2.2.2.2.2.2.1, (y429.2.1.2.2.1.2.2.2.2.2.2.2.2.2.2.2.2.2.1, ())))))))))))))), ()), (), ())))) else (bif (((IntKind.wrap .u8 (1 + ((a0.1 : Int).tmod 7))) : Int) == 2) then ((F34 a0.2.2.2.2.2.2.2.2.2.1).bind fun y430 => ((L11_9 0 a0.1 a0.2.1 a0.2.2.1 a0.2.2.2.1 a0.2.2.2.2.1 a0.2.2.2.2.2.1 a0.2.2.2.2.2.2.1 a0.2.2.2.2.2.2.2.1 a0.2.2.2.2.2.2.2.2.1 a0.2.2.2.2.2.2.2.2.2.1 a0.2.2.2.2.2.2.2.2.2.2.1 a0.2.2.2.2.2.2.2.2.2.2.2.1 a0.2.2.2.2.2.2.2.2.2.2.2.2.1 0 0 0 false 0 ([] : List Int) ([] : List DRw) ([] : List DEv) 0 0 0 0 ([] : List Int) 0 (IntKind.wrap .u8 (1 + ((a0.1 : Int).tmod 7))) (IntKind.wrap .i64 ((a0.2.1 : Int).tmod 64)) (IntKind.wrap .i64 ((a0.2.2.1 : Int).tmod 64)) a0.2.2.2.2.1 ((a0.2.2.2.2.2.1 : Int).tmod 9223372036854775808) y430.1.1 ([] : List DEv) 0 0 0 0 ([] : List Int) 0 ([] : List DRw)).bind fun y431 => (some (((y431.2.1.2.2.1.1, (y431.2.1.2.2.1.2.1, (y431.2.1.2.2.1.2.2.1, (y431.2.1.2.2.1.2.2.2.1, (y431.2.1.2.2.1.2.2.2.2.1, (y431.2.1.2.2.1.2.2.2.2.2.1, (y431.2.1.2.2.1.2.2.2.2.2.2.1, (y431.2.1.2.2.1.2.2.2.2.2.2.2.1, (y431.2.1.2.2.1.2.2.2.2.2.2.2.2.1, (y431.2.1.2.2.1.2.2.2.2.2.2.2.2.2.1, (y431.2.1.2.2.1.2.2.2.2.2.2.2.2.2.2.1, (y431.2.1.2.2.1.2.2.2.2.2.2.2.2.2.2.2.1, (y431.2.1.2.2.1.2.2.2.2.2.2.2.2.2.2.2.2.1, (y431.2.1.2.2.1.2.2.2.2.2.2.2.2.2.2.2.2.2.1, ())))))))))))))), ()), (), ())))) else (bif (((IntKind.wrap .u8 (1 + ((a0.1 : Int).tmod 7))) : Int) == 4) then ((F34 a0.2.2.2.2.2.2.2.2.2.1).bind fun y432 => ((L11_9 0 a0.1 a0.2.1 a0.2.2.1 a0.2.2.2.1 a0.2.2.2.2.1 a0.2.2.2.2.2.1 a0.2.2.2.2.2.2.1 a0.2.2.2.2.2.2.2.1 a0.2.2.2.2.2.2.2.2.1 a0.2.2.2.2.2.2.2.2.2.1 a0.2.2.2.2.2.2.2.2.2.2.1 a0.2.2.2.2.2.2.2.2.2.2.2.1 a0.2.2.2.2.2.2.2.2.2.2.2.2.1 0 0 0 false 0 ([] : List Int) ([] : List DRw) ([] : List DEv) 0 0 0 0 ([] : List Int) 0 (IntKind.wrap .u8 (1 + ((a0.1 : Int).tmod 7))) (IntKind.wrap .i64 ((a0.2.1 : Int).tmod 64)) (IntKind.wrap .i64 ((a0.2.2.1 : Int).tmod 64)) a0.2.2.2.2.1 ((a0.2.2.2.2.2.1 : Int).tmod 9223372036854775808) y432.1.1 ([] : List DEv) 0 0 0 0 ([] : List Int) 0 ([] : List DRw)).bind fun y433 => (some (((y433.2.1.2.2.1.1, (y433.2.1.2.2.1.2.1, (y433.2.1.2.2.1.2.2.1, (y433.2.1.2.2.1.2.2.2.1, (y433.2.1.2.2.1.2.2.2.2.1, (y433.2.1.2.2.1.2.2.2.2.2.1, (y433.2.1.2.2.1.2.2.2.2.2.2.1, (y433.2.1.2.2.1.2.2.2.2.2.2.2.1, (y433.2.1.2.2.1.2.2.2.2.2.2.2.2.1, (y433.2.1.2.2.1.2.2.2.2.2.2.2.2.2.1, (y433.2.1.2.2.1.2.2.2.2.2.2.2.2.2.2.1, (y433.2.1.2.2.1.2.2.2.2.2.2.2.2.2.2.2.1, (y433.2.1.2.2.1.2.2.2.2.2.2.2.2.2.2.2.2.1, (y433.2.1.2.2.1.2.2.2.2.2.2.2.2.2.2.2.2.2.1, ())))))))))))))), ()), (), ())))) else (bif (((IntKind.wrap .u8 (1 + ((a0.1 : Int).tmod 7))) : Int) == 3) then ((F34 a0.2.2.2.2.2.2.2.2.2.1).bind fun y434 => ((F36 a0.2.2.2.2.2.2.2.2.2.2.2.1).bind fun y435 => ((F35 y435.1.1).bind fun y436 => (some ((((IntKind.wrap .u8 (1 + ((a0.1 : Int).tmod 7))), ((IntKind.wrap .i64 ((a0.2.1 : Int).tmod 64)), ((IntKind.wrap .i64 ((a0.2.2.1 : Int).tmod 64)), (a0.2.2.2.2.1, (((a0.2.2.2.2.2.1 : Int).tmod 9223372036854775808), (y434.1.1, (([] : List DRw), (y436.1.1, (0, (0, (0, (0, (([] : List Int), (0, ())))))))))))))), ()), (), ()))))) else (bif (((IntKind.wrap .u8 (1 + ((a0.1 : Int).tmod 7))) : Int) == 5) then ((F34 a0.2.2.2.2.2.2.2.2.2.1).bind fun y437 => (some ((((IntKind.wrap .u8 (1 + ((a0.1 : Int).tmod 7))), ((IntKind.wrap .i64 ((a0.2.1 : Int).tmod 64)), ((IntKind.wrap .i64 ((a0.2.2.1 : Int).tmod 64)), (a0.2.2.2.2.1, (((a0.2.2.2.2.2.1 : Int).tmod 9223372036854775808), (y437.1.1, (([] : List DRw), (([] : List DEv), (((a0.2.2.2.2.2.2.1 : Int).tmod 9223372036854775808), ((IntKind.wrap .u64 a0.2.2.2.2.2.2.2.1), (a0.2.2.2.2.2.2.2.2.1, (0, (([] : List Int), (0, ())))))))))))))), ()), (), ()))) else (bif (((IntKind.wrap .u8 (1 + ((a0.1 : Int).tmod 7))) : Int) == 6) then (some ((((IntKind.wrap .u8 (1 + ((a0.1 : Int).tmod 7))), ((IntKind.wrap .i64 ((a0.2.1 : Int).tmod 64)), ((IntKind.wrap .i64 ((a0.2.2.1 : Int).tmod 64)), (a0.2.2.2.2.1, (((a0.2.2.2.2.2.1 : Int).tmod 9223372036854775808), (([] : List Int), (([] : List DRw), (([] : List DEv), (0, ((IntKind.wrap .u64 a0.2.2.2.2.2.2.2.1), (0, ((IntKind.wrap .u64 a0.2.2.2.2.2.2.2.2.1), (a0.2.2.2.2.2.2.2.2.2.2.2.2.1, (0, ())))))))))))))), ()), (), ())) else (some ((((IntKind.wrap .u8 (1 + ((a0.1 : Int).tmod 7))), ((IntKind.wrap .i64 ((a0.2.1 : Int).tmod 64)), ((IntKind.wrap .i64 ((a0.2.2.1 : Int).tmod 64)), (a0.2.2.2.2.1, (((a0.2.2.2.2.2.1 : Int).tmod 9223372036854775808), (([] : List Int), (([] : List DRw), (([] : List DEv), (0, (0, (0, (0, (([] : List Int), ((IntKind.wrap .i64 a0.2.2.2.1), ())))))))))))))), ()), (), ()))))))))
noncomputable def c11 : Con := ⟨i11, o11, fun x => F11 x.1.1⟩
theorem e11 (x : i11.E) : vfn Try.prog C11 LO11 Try.f11 b11 i11 o11 x = F11 x.1.1 := by kernel_rfl
theorem c11_ok : Con.OK Try.prog 11 c11 := (fn_ok C11_ok Try.func11 body11 (loops_of (l := [l11_9]) (by kernel_rfl) (show LoopsOK Try.prog Try.f11.ntmps [l11_9] LO11 from ⟨k11_9_ok, trivial⟩)) i11 o11).congr fun x => (e11 x).symm
noncomputable def l9_3 : Code := (.seq (.seq (.region 3 (regOf Try.f9 3) false) (.cond (.tmp 20) .skip (.exit 0))) (.seq (.block 1 (.region 5 (regOf Try.f9 5) false)) (.region 4 (regOf Try.f9 4) false)))
noncomputable def b9 : Code := (.seq (.region 0 (regOf Try.f9 0) false) (.seq (.region 1 (regOf Try.f9 1) false) (.seq (.seq (.region 2 (regOf Try.f9 2) false) (.block 0 (.loop l9_3))) (.seq (.region 6 (regOf Try.f9 6) false) .ret))))
theorem body9 : Try.f9.body = some b9 := by kernel_rfl
noncomputable def C9_3 : Tab := []
theorem C9_3_ok : TabOK Try.prog C9_3 := trivial
noncomputable def LO9_3 : Tab := []
noncomputable def i9_3 : Tm := { sl := [(1, .p 0 0), (3, .v (.i .i64)), (4, .v (.i .i64))], bx := [[.v (.i .u8), .v (.i .u8), .v (.i .u8), .v (.i .u8), .v .b, .v (.i .u64), .v (.i .u64), .v (.i .u32), .v (.i .u32), .v (.l (.i .u64)), .v (.l tDRw), .v (.l (.i .u16)), .v (.l (.i .u8))]], bf := [] }
noncomputable def o9_3 : OT := (.exit 0 { sl := [(3, .v (.i .i64))], bx := [[.v (.i .u8), .v (.i .u8), .v (.i .u8), .v (.i .u8), .v .b, .v (.i .u64), .v (.i .u64), .v (.i .u32), .v (.i .u32), .v (.l (.i .u64)), .v (.l tDRw), .v (.l (.i .u16)), .v (.l (.i .u8))]], bf := [] })
noncomputable def T9_3 (a3 : Int) (a4 : Int) (b0_0 : Int) (b0_1 : Int) (b0_2 : Int) (b0_3 : Int) (b0_4 : Bool) (b0_5 : Int) (b0_6 : Int) (b0_7 : Int) (b0_8 : Int) (b0_9 : (List Int)) (b0_10 : (List DRw)) (b0_11 : (List Int)) (b0_12 : (List Int)) : Option (((Unit × (Int × (Int × Unit))) × ((Int × (Int × (Int × (Int × (Bool × (Int × (Int × (Int × (Int × ((List Int) × ((List DRw) × ((List Int) × ((List Int) × Unit))))))))))))) × Unit) × Unit) ⊕ ((Int × Unit) × ((Int × (Int × (Int × (Int × (Bool × (Int × (Int × (Int × (Int × ((List Int) × ((List DRw) × ((List Int) × ((List Int) × Unit))))))))))))) × Unit) × Unit)) :=
  (bif (decide ((a4 : Int) < (((b0_10).length : Nat) : Int))) then (bif (decide (0 ≤ (a4 : Int) ∧ (a4 : Int) < (((b0_10).length : Nat) : Int))) then (some (.inl (((), (IntKind.wrap .i64 (a3 + (IntKind.wrap .i64 (3 + (((((b0_10).getD (a4 : Int).toNat ((0 : Int), ([], ((0 : Int), ())))).2.1).length : Nat) : Int))))), (IntKind.wrap .i64 (a4 + 1)), ()), ((b0_0, b0_1, b0_2, b0_3, b0_4, b0_5, b0_6, b0_7, b0_8, b0_9, b0_10, b0_11, b0_12, ()), ()), ()))) else none) else (some (.inr ((a3, ()), ((b0_0, b0_1, b0_2, b0_3, b0_4, b0_5, b0_6, b0_7, b0_8, b0_9, b0_10, b0_11, b0_12, ()), ()), ()))))
noncomputable def L9_3 (a3 : Int) (a4 : Int) (b0_0 : Int) (b0_1 : Int) (b0_2 : Int) (b0_3 : Int) (b0_4 : Bool) (b0_5 : Int) (b0_6 : Int) (b0_7 : Int) (b0_8 : Int) (b0_9 : (List Int)) (b0_10 : (List DRw)) (b0_11 : (List Int)) (b0_12 : (List Int)) : Option ((Int × Unit) × ((Int × (Int × (Int × (Int × (Bool × (Int × (Int × (Int × (Int × ((List Int) × ((List DRw) × ((List Int) × ((List Int) × Unit))))))))))))) × Unit) × Unit) := loopF (fun x : ((Unit × (Int × (Int × Unit))) × ((Int × (Int × (Int × (Int × (Bool × (Int × (Int × (Int × (Int × ((List Int) × ((List DRw) × ((List Int) × ((List Int) × Unit))))))))))))) × Unit) × Unit) => T9_3 x.1.2.1 x.1.2.2.1 x.2.1.1.1 x.2.1.1.2.1 x.2.1.1.2.2.1 x.2.1.1.2.2.2.1 x.2.1.1.2.2.2.2.1 x.2.1.1.2.2.2.2.2.1 x.2.1.1.2.2.2.2.2.2.1 x.2.1.1.2.2.2.2.2.2.2.1 x.2.1.1.2.2.2.2.2.2.2.2.1 x.2.1.1.2.2.2.2.2.2.2.2.2.1 x.2.1.1.2.2.2.2.2.2.2.2.2.2.1 x.2.1.1.2.2.2.2.2.2.2.2.2.2.2.1 x.2.1.1.2.2.2.2.2.2.2.2.2.2.2.2.1) (((), a3, a4, ()), ((b0_0, b0_1, b0_2, b0_3, b0_4, b0_5, b0_6, b0_7, b0_8, b0_9, b0_10, b0_11, b0_12, ()), ()), ())
theorem L9_3_eq (a3 : Int) (a4 : Int) (b0_0 : Int) (b0_1 : Int) (b0_2 : Int) (b0_3 : Int) (b0_4 : Bool) (b0_5 : Int) (b0_6 : Int) (b0_7 : Int) (b0_8 : Int) (b0_9 : (List Int)) (b0_10 : (List DRw)) (b0_11 : (List Int)) (b0_12 : (List Int)) : L9_3 a3 a4 b0_0 b0_1 b0_2 b0_3 b0_4 b0_5 b0_6 b0_7 b0_8 b0_9 b0_10 b0_11 b0_12 = (T9_3 a3 a4 b0_0 b0_1 b0_2 b0_3 b0_4 b0_5 b0_6 b0_7 b0_8 b0_9 b0_10 b0_11 b0_12).bind (Sum.elim (fun x => L9_3 x.1.2.1 x.1.2.2.1 x.2.1.1.1 x.2.1.1.2.1 x.2.1.1.2.2.1 x.2.1.1.2.2.2.1 x.2.1.1.2.2.2.2.1 x.2.1.1.2.2.2.2.2.1 x.2.1.1.2.2.2.2.2.2.1 x.2.1.1.2.2.2.2.2.2.2.1 x.2.1.1.2.2.2.2.2.2.2.2.1 x.2.1.1.2.2.2.2.2.2.2.2.2.1 x.2.1.1.2.2.2.2.2.2.2.2.2.2.1 x.2.1.1.2.2.2.2.2.2.2.2.2.2.2.1 x.2.1.1.2.2.2.2.2.2.2.2.2.2.2.2.1) some) := loopF_eq _ _
noncomputable def k9_3 : Con := ⟨i9_3, o9_3, fun x => L9_3 x.1.2.1 x.1.2.2.1 x.2.1.1.1 x.2.1.1.2.1 x.2.1.1.2.2.1 x.2.1.1.2.2.2.1 x.2.1.1.2.2.2.2.1 x.2.1.1.2.2.2.2.2.1 x.2.1.1.2.2.2.2.2.2.1 x.2.1.1.2.2.2.2.2.2.2.1 x.2.1.1.2.2.2.2.2.2.2.2.1 x.2.1.1.2.2.2.2.2.2.2.2.2.1 x.2.1.1.2.2.2.2.2.2.2.2.2.2.1 x.2.1.1.2.2.2.2.2.2.2.2.2.2.2.1 x.2.1.1.2.2.2.2.2.2.2.2.2.2.2.2.1⟩
theorem e9_3 (x : i9_3.E) : vround Try.prog C9_3 LO9_3 Try.f9.ntmps l9_3 i9_3 o9_3 x = T9_3 x.1.2.1 x.1.2.2.1 x.2.1.1.1 x.2.1.1.2.1 x.2.1.1.2.2.1 x.2.1.1.2.2.2.1 x.2.1.1.2.2.2.2.1 x.2.1.1.2.2.2.2.2.1 x.2.1.1.2.2.2.2.2.2.1 x.2.1.1.2.2.2.2.2.2.2.1 x.2.1.1.2.2.2.2.2.2.2.2.1 x.2.1.1.2.2.2.2.2.2.2.2.2.1 x.2.1.1.2.2.2.2.2.2.2.2.2.2.1 x.2.1.1.2.2.2.2.2.2.2.2.2.2.2.1 x.2.1.1.2.2.2.2.2.2.2.2.2.2.2.2.1 := by kernel_rfl
theorem k9_3_ok : Con.LOK Try.prog Try.f9.ntmps l9_3 k9_3 := (loop_ok C9_3_ok (loops_of (l := []) (by kernel_rfl) (show LoopsOK Try.prog Try.f9.ntmps [] LO9_3 from trivial)) i9_3 o9_3).congr fun x => (congrArg (fun T => loopF T x) (funext e9_3)).symm
noncomputable def C9 : Tab := []
theorem C9_ok : TabOK Try.prog C9 := trivial
noncomputable def LO9 : Tab := [(3, k9_3)]
noncomputable def i9 : Tm := { sl := [(0, .v (.p (.i .u8) (.p (.i .u8) (.p (.i .u8) (.p (.i .u8) (.p .b (.p (.i .u64) (.p (.i .u64) (.p (.i .u32) (.p (.i .u32) (.p (.l (.i .u64)) (.p (.l tDRw) (.p (.l (.i .u16)) (.p (.l (.i .u8)) .u))))))))))))))], bx := [], bf := [] }
noncomputable def o9 : OT := (.ret { sl := [(0, .v .b)], bx := [], bf := [] })
noncomputable def F9 (a0 : (Int × (Int × (Int × (Int × (Bool × (Int × (Int × (Int × (Int × ((List Int) × ((List DRw) × ((List Int) × ((List Int) × Unit)))))))))))))) : Option ((Bool × Unit) × Unit × Unit) :=
  ((L9_3 (IntKind.wrap .i64 ((IntKind.wrap .i64 ((((a0.2.2.2.2.2.2.2.2.2.1).length : Nat) : Int) + (((a0.2.2.2.2.2.2.2.2.2.2.2.2.1).length : Nat) : Int))) + (((a0.2.2.2.2.2.2.2.2.2.2.2.1).length : Nat) : Int))) 0 a0.1 a0.2.1 a0.2.2.1 a0.2.2.2.1 a0.2.2.2.2.1 a0.2.2.2.2.2.1 a0.2.2.2.2.2.2.1 a0.2.2.2.2.2.2.2.1 a0.2.2.2.2.2.2.2.2.1 a0.2.2.2.2.2.2.2.2.2.1 a0.2.2.2.2.2.2.2.2.2.2.1 a0.2.2.2.2.2.2.2.2.2.2.2.1 a0.2.2.2.2.2.2.2.2.2.2.2.2.1).bind fun y438 => (some (((decide ((y438.1.1 : Int) ≤ 1000)), ()), (), ())))
noncomputable def c9 : Con := ⟨i9, o9, fun x => F9 x.1.1⟩
theorem e9 (x : i9.E) : vfn Try.prog C9 LO9 Try.f9 b9 i9 o9 x = F9 x.1.1 := by kernel_rfl
theorem c9_ok : Con.OK Try.prog 9 c9 := (fn_ok C9_ok Try.func9 body9 (loops_of (l := [l9_3]) (by kernel_rfl) (show LoopsOK Try.prog Try.f9.ntmps [l9_3] LO9 from ⟨k9_3_ok, trivial⟩)) i9 o9).congr fun x => (e9 x).symm
noncomputable def F10h (a0 : DLt) : Option ((Unit × Unit) × (((List Int) × Unit) × Unit) × Unit) := (F10 a0).bind fun y => bif List.isEmpty (α := Int) y.2.2.1 then none else some (((), ()), (((y.2.2.1, ()), ()), ()))
noncomputable def c10h : Con := ⟨i10, (.ret { sl := [(0, .m (.i .u8) 0)], bx := [[.r (.i .u8)]], bf := [] }), fun x => F10h x.1.1⟩
theorem c10h_ok : Con.OK Try.prog 10 c10h := heat (ik := .u8) rfl rfl c10_ok
noncomputable def b3 : Code := (.seq (.region 0 (regOf Try.f3 0) false) (.seq (.seq (.region 1 (regOf Try.f3 1) false) (.cond (.tmp 28) (.seq (.region 2 (regOf Try.f3 2) false) .ret) .skip)) (.seq (.region 3 (regOf Try.f3 3) false) (.seq (.region 4 (regOf Try.f3 4) false) (.seq (.region 5 (regOf Try.f3 5) false) (.seq (.region 6 (regOf Try.f3 6) true) (.seq (.region 7 (regOf Try.f3 7) false) (.seq (.region 8 (regOf Try.f3 8) false) .ret))))))))
theorem body3 : Try.f3.body = some b3 := by kernel_rfl
noncomputable def C3 : Tab := [(8, c8), (9, c9), (10, c10h), (11, c11), (12, c12), (500041, cHot), (500054, cHot), (500076, cHot)]
theorem C3_ok : TabOK Try.prog C3 := ⟨c8_ok, c9_ok, c10h_ok, c11_ok, c12_ok, cHot_ok, cHot_ok, cHot_ok, trivial⟩
noncomputable def LO3 : Tab := []
noncomputable def i3 : Tm := { sl := [(0, .v (.p (.i .u8) (.p (.i .u8) (.p (.i .u8) (.p (.i .u8) (.p .b (.p (.i .u64) (.p (.i .u64) (.p (.i .u32) (.p (.i .u32) (.p (.l (.i .u64)) (.p (.l tDRw) (.p (.l (.i .u16)) (.p (.l (.i .u8)) .u)))))))))))))), (1, .v (.i .u16)), (2, .v (.i .u8)), (3, .v (.i .u16)), (4, .v (.i .u8))], bx := [], bf := [] }
noncomputable def o3 : OT := (.ret { sl := [(0, .v .b)], bx := [], bf := [] })
noncomputable def F3 (a0 : (Int × (Int × (Int × (Int × (Bool × (Int × (Int × (Int × (Int × ((List Int) × ((List DRw) × ((List Int) × ((List Int) × Unit)))))))))))))) (a1 : Int) (a2 : Int) (a3 : Int) (a4 : Int) : Option ((Bool × Unit) × Unit × Unit) :=
  ((F8).bind fun y439 => (bif (!y439.1.1) then ((F8).bind fun y440 => (some ((y440.1.1, ()), (), ()))) else ((F9 (a0.1, (a0.2.1, (a0.2.2.1, (a0.2.2.2.1, (a0.2.2.2.2.1, (a0.2.2.2.2.2.1, (a0.2.2.2.2.2.2.1, (a0.2.2.2.2.2.2.2.1, (a0.2.2.2.2.2.2.2.2.1, (a0.2.2.2.2.2.2.2.2.2.1, (a0.2.2.2.2.2.2.2.2.2.2.1, (a0.2.2.2.2.2.2.2.2.2.2.2.1, (a0.2.2.2.2.2.2.2.2.2.2.2.2.1, ())))))))))))))).bind fun y441 => (bif (!y441.1.1) then ((F8).bind fun y442 => (some ((y442.1.1, ()), (), ()))) else (bif ((a2 : Int) == 0) then ((F8).bind fun y443 => (some ((y443.1.1, ()), (), ()))) else ((F11 (a0.1, (a0.2.1, (a0.2.2.1, (a0.2.2.2.1, (a0.2.2.2.2.1, (a0.2.2.2.2.2.1, (a0.2.2.2.2.2.2.1, (a0.2.2.2.2.2.2.2.1, (a0.2.2.2.2.2.2.2.2.1, (a0.2.2.2.2.2.2.2.2.2.1, (a0.2.2.2.2.2.2.2.2.2.2.1, (a0.2.2.2.2.2.2.2.2.2.2.2.1, (a0.2.2.2.2.2.2.2.2.2.2.2.2.1, ())))))))))))))).bind fun y444 => ((F10h (y444.1.1.1, (y444.1.1.2.1, (y444.1.1.2.2.1, (y444.1.1.2.2.2.1, (y444.1.1.2.2.2.2.1, (y444.1.1.2.2.2.2.2.1, (y444.1.1.2.2.2.2.2.2.1, (y444.1.1.2.2.2.2.2.2.2.1, (y444.1.1.2.2.2.2.2.2.2.2.1, (y444.1.1.2.2.2.2.2.2.2.2.2.1, (y444.1.1.2.2.2.2.2.2.2.2.2.2.1, (y444.1.1.2.2.2.2.2.2.2.2.2.2.2.1, (y444.1.1.2.2.2.2.2.2.2.2.2.2.2.2.1, (y444.1.1.2.2.2.2.2.2.2.2.2.2.2.2.2.1, ()))))))))))))))).bind fun y445 => (bif (decide (((((y445.2.1.1.1).length : Nat) : Int) : Int) ≠ 0)) then (bif (decide (0 ≤ ((((IntKind.wrap .i64 a3) : Int).tmod (((y445.2.1.1.1).length : Nat) : Int)) : Int) ∧ ((((IntKind.wrap .i64 a3) : Int).tmod (((y445.2.1.1.1).length : Nat) : Int)) : Int) ≤ (((y445.2.1.1.1).length : Nat) : Int))) then ((F12 (((y445.2.1.1.1).drop 0).take (((((IntKind.wrap .i64 a3) : Int).tmod (((y445.2.1.1.1).length : Nat) : Int)) : Int).toNat - 0))).bind fun y446 => (bif ((decide (0 ≤ ((((y445.2.1.1.1).length : Nat) : Int) : Int) ∧ ((((y445.2.1.1.1).length : Nat) : Int) : Int) ≤ (((y445.2.1.1.1).length : Nat) : Int))) && (decide (((((y445.2.1.1.1).length : Nat) : Int) : Int) = (((y445.2.1.1.1).length : Nat) : Int)))) then (bif (decide (0 < ([a4]).length ∧ (((((y445.2.1.1.1).length : Nat) : Int) : Int).toNat - 0) + ([a4]).length < lim)) then ((F12 ((((y445.2.1.1.1).drop 0).take (((((y445.2.1.1.1).length : Nat) : Int) : Int).toNat - 0)) ++ [a4])).bind fun y447 => (bif (decide (((((y445.2.1.1.1).length : Nat) : Int) : Int) ≠ 0)) then (bif (decide (((((y445.2.1.1.1).length : Nat) : Int) : Int) ≠ 0)) then (bif (decide (0 ≤ ((((IntKind.wrap .i64 a1) : Int).tmod (((y445.2.1.1.1).length : Nat) : Int)) : Int) ∧ ((((IntKind.wrap .i64 a1) : Int).tmod (((y445.2.1.1.1).length : Nat) : Int)) : Int) < (((y445.2.1.1.1).length : Nat) : Int))) then (bif (decide (((((IntKind.wrap .i64 a1) : Int).tmod (((y445.2.1.1.1).length : Nat) : Int)) : Int).toNat < (y445.2.1.1.1).length)) then (bif (decide (0 ≤ ((((IntKind.wrap .i64 a1) : Int).tmod (((y445.2.1.1.1).length : Nat) : Int)) : Int) ∧ ((((IntKind.wrap .i64 a1) : Int).tmod (((y445.2.1.1.1).length : Nat) : Int)) : Int) < (((y445.2.1.1.1).length : Nat) : Int))) then (bif (decide (((((IntKind.wrap .i64 a1) : Int).tmod (((y445.2.1.1.1).length : Nat) : Int)) : Int).toNat < (y445.2.1.1.1).length)) then ((F12 ((y445.2.1.1.1).set ((((IntKind.wrap .i64 a1) : Int).tmod (((y445.2.1.1.1).length : Nat) : Int)) : Int).toNat (iXor .u8 ((y445.2.1.1.1).getD ((((IntKind.wrap .i64 a1) : Int).tmod (((y445.2.1.1.1).length : Nat) : Int)) : Int).toNat (0 : Int)) a2))).bind fun y448 => (bif ((y446.1.2.1 : Int) == 5) then (bif ((y447.1.2.1 : Int) == 4) then (some ((((y448.1.2.1 : Int) != 0), ()), (), ())) else (some ((false, ()), (), ()))) else (some ((false, ()), (), ())))) else none) else none) else none) else none) else none) else none)) else none) else none)) else none) else none))))))))
noncomputable def c3 : Con := ⟨i3, o3, fun x => F3 x.1.1 x.1.2.1 x.1.2.2.1 x.1.2.2.2.1 x.1.2.2.2.2.1⟩
theorem e3 (x : i3.E) : vfn Try.prog C3 LO3 Try.f3 b3 i3 o3 x = F3 x.1.1 x.1.2.1 x.1.2.2.1 x.1.2.2.2.1 x.1.2.2.2.2.1 := by kernel_rfl
theorem c3_ok : Con.OK Try.prog 3 c3 := (fn_ok C3_ok Try.func3 body3 (loops_of (l := []) (by kernel_rfl) (show LoopsOK Try.prog Try.f3.ntmps [] LO3 from trivial)) i3 o3).congr fun x => (e3 x).symm
end Go.IM.V
namespace Go.IM.V
open Go Go.IM Go.Proofs
theorem opn_cut4 {p : List Int} (hl : p.length ≤ 4194304) {k : Nat} (hk : k < (rcd p).length) : opn 4194304 ((rcd p).take k) = .inr 5 := by
  have hw : rcd p = dg (p.length : Int) ++ (p ++ four (crc (dgT p))) := by unfold rcd dgT; rw [List.append_assoc]
  have hlen := rcd_len p
  by_cases c : k < (dg (p.length : Int)).length
  · have e : (rcd p).take k = (dg (p.length : Int)).take k := by rw [hw, List.take_append_of_le_length (by omega)]
    have : tkT 4194304 ((rcd p).take k) = .inr 5 := by
      unfold tkT
      rw [e, show tk 0 0 ((dg (p.length : Int)).take k) = .inr 5 from tk_cut 9 0 (p.length : Int) 0 k (by omega) (by omega) (by show _ < (18446744073709551616 : Int); omega) (by omega) c]
    unfold opn
    rw [this]
  · have e : (rcd p).take k = dg (p.length : Int) ++ (p ++ four (crc (dgT p))).take (k - (dg (p.length : Int)).length) := by
      rw [hw, List.take_append, List.take_of_length_le (by omega)]
    have hr : ((p ++ four (crc (dgT p))).take (k - (dg (p.length : Int)).length)).length = k - (dg (p.length : Int)).length := by
      rw [List.length_take, List.length_append, four_len]; omega
    rw [e]
    unfold opn tkT
    rw [tk_dg (by omega) (by omega)]
    dsimp only
    rw [if_neg (show ¬ ((4194304 : Int) < 0 ∨ (p.length : Int) > 4194304) from by omega)]
    by_cases c2 : (p.length : Int) > (((p ++ four (crc (dgT p))).take (k - (dg (p.length : Int)).length)).length : Int)
    · rw [if_pos c2]
    · rw [if_neg c2]
      dsimp only
      rw [if_pos (by rw [List.length_drop, hr, Int.toNat_natCast]; omega)]
set_option maxRecDepth 8000 in
/-- A record of which a byte is turned. -/
theorem opn_turn4 {p : List Int} (hb : Bys p) (hl : p.length ≤ 4194304) {i : Nat} {x : Int} (hx : 0 ≤ x ∧ x < 256) (hi : i < (rcd p).length) (hne : x ≠ (rcd p)[i]) {b r : List Int} (h : opn 4194304 ((rcd p).set i x) = .inl (b, r)) : r ≠ [] ∧ b ≠ p := by
  have bw : Bys (rcd p) := rcd_byte hb (by omega)
  have bv : Bys ((rcd p).set i x) := fun y hy => by
    rcases List.mem_or_eq_of_mem_set hy with q | rfl
    · exact bw y q
    · exact hx
  obtain ⟨h1, h2, h3⟩ := opn_some bv h
  have hlen : (rcd p).length = (rcd b).length + r.length := by
    have := congrArg List.length h1
    rwa [List.length_set, List.length_append] at this
  have hbp : b ≠ p := by
    rintro rfl
    have hr : r = [] := List.eq_nil_of_length_eq_zero (by omega)
    rw [hr, List.append_nil] at h1
    have := congrArg (fun l : List Int => l[i]?) h1
    simp only [List.getElem?_set_self hi, List.getElem?_eq_getElem hi, Option.some.injEq] at this
    exact hne this
  refine ⟨fun hr => ?_, hbp⟩
  rw [hr, List.append_nil] at h1
  have hl2 : b.length = p.length := rcd_len_inj (by rw [hr] at hlen; simpa using hlen.symm)
  have hL : (dgT b).length = (dgT p).length := by unfold dgT; rw [List.length_append, List.length_append, hl2]
  have hw : rcd p = dgT p ++ four (crc (dgT p)) := rfl
  have hv : (rcd p).set i x = dgT b ++ four (crc (dgT b)) := h1
  by_cases c : i < (dgT p).length
  · have hset : (rcd p).set i x = (dgT p).set i x ++ four (crc (dgT p)) := by rw [hw, List.set_append_left _ _ c]
    rw [hset] at hv
    obtain ⟨e1, e2⟩ := List.append_inj hv (by rw [List.length_set]; exact hL.symm)
    have hc := four_inj (crc_nn _) (crc_nn _) e2
    rw [← e1, List.set_eq_take_append_cons_drop, if_pos c] at hc
    have hself : dgT p = (dgT p).take i ++ (dgT p)[i]'c :: (dgT p).drop (i + 1) := by
      rw [List.getElem_cons_drop, List.take_append_drop]
    have hwi : (rcd p)[i]'hi = (dgT p)[i]'c := by simp only [hw, List.getElem_append_left c]
    conv at hc => lhs; rw [hself]
    have hmem : (dgT p)[i]'c ∈ rcd p := by rw [← hwi]; exact List.getElem_mem hi
    have hbx := bw _ hmem
    have := crc_turn hbx hx hc
    exact hne (by rw [hwi]; exact this.symm)
  · have hset : (rcd p).set i x = dgT p ++ (four (crc (dgT p))).set (i - (dgT p).length) x := by rw [hw, List.set_append_right _ _ (by omega)]
    rw [hset] at hv
    obtain ⟨e1, e2⟩ := List.append_inj hv hL.symm
    unfold dgT at e1
    rw [hl2] at e1
    exact hbp (List.append_cancel_left e1).symm
def upT (t x : Int) : Int := IntKind.wrap .u64 (t + (IntKind.wrap .u64 (1 + (((IntKind.wrap .u64 (IntKind.wrap .u16 (x.tdiv 16))) : Int).tmod 4))))
def kdX (x : Int) : Int := IntKind.wrap .u8 (1 + (((IntKind.wrap .u8 (IntKind.wrap .u16 (x.tdiv 64))) : Int).tmod 4))
def kyX (x : Int) : Int := IntKind.wrap .u8 (97 + (((IntKind.wrap .u8 (IntKind.wrap .u16 (x.tdiv 256))) : Int).tmod 4))
noncomputable def qtI (i : Int) : Nat := ((FloatKind.f64).format.div (FloatKind.nearest .f64 i) (4616189618054758400)).getD 0
noncomputable def evX (w : Int) (n : Nat) (t x i : Int) : Ev :=
  (w, (IntKind.wrap .u64 ((IntKind.wrap .u64 ((n : Nat) : Int)) + 1)), t, kdX x, strL [kyX x], (bif kdX x == 1 then [IntKind.wrap .u8 i] else []), (bif kdX x == 2 then qtI i else bif kdX x == 3 then qtI i else 0), 0, ())
theorem qt_some : ∀ i : Fin 60, ((FloatKind.f64).format.div (FloatKind.nearest .f64 ((i.val : Nat) : Int)) (4616189618054758400)).isSome = true := by decide +kernel
theorem qt_some' {i : Int} (h0 : 0 ≤ i) (h : i < 60) : ((FloatKind.f64).format.div (FloatKind.nearest .f64 i) (4616189618054758400)).isSome = true := by
  have := qt_some ⟨i.toNat, by omega⟩
  rwa [show ((i.toNat : Nat) : Int) = i by omega] at this
theorem lim2 {q : List Ev} (h : q.length < 1000000) : q.length + 1 < lim := by have : lim = 1099511627776 := rfl; omega
theorem condT {α : Type} {p : Prop} [i : Decidable p] {a b r : α} (hp : p) (h : a = r) : (bif decide p then a else b) = r := by rw [decide_eq_true hp]; exact h
theorem wu16 {n : Int} (h0 : 0 ≤ n) (h1 : n < 65536) : IntKind.wrap .u16 n = n := by
  have : IntKind.wrap .u16 n = n % 65536 := by simp [IntKind.wrap, IntKind.bits, IntKind.signed]
  rw [this]; omega
def EvF (e : Ev) : Prop := (1 ≤ e.2.2.2.1 ∧ e.2.2.2.1 ≤ 4) ∧ (∃ c, 97 ≤ c ∧ c ≤ 100 ∧ e.2.2.2.2.1 = strL [c]) ∧ (e.2.2.2.2.2.1 = [] ∨ (e.2.2.2.1 = 1 ∧ ∃ c, 0 ≤ c ∧ c < 256 ∧ e.2.2.2.2.2.1 = [c])) ∧ (e.2.2.2.2.2.2.1 = 0 ∨ ((e.2.2.2.1 = 2 ∨ e.2.2.2.1 = 3) ∧ ∃ i : Int, 0 ≤ i ∧ i < 60 ∧ e.2.2.2.2.2.2.1 = qtI i)) ∧ e.2.2.2.2.2.2.2.1 = 0
structure FdOK (w : Int) (k : Nat) (q : List Ev) (t : Int) : Prop where
  len : q.length ≤ k
  t0 : 0 ≤ t
  t1 : t ≤ 4 * k
  who : ∀ (i : Nat) (e : Ev), q[i]? = some e → e.1 = w ∧ e.2.1 = (i : Int) + 1 ∧ 1 ≤ e.2.2.1 ∧ e.2.2.1 ≤ t ∧ EvF e
  rise : ∀ (i j : Nat) (ei ej : Ev), q[i]? = some ei → q[j]? = some ej → i < j → ei.2.2.1 < ej.2.2.1
theorem FdOK.keep {w : Int} {k : Nat} {q : List Ev} {t : Int} (h : FdOK w k q t) : FdOK w (k + 1) q t :=
  ⟨Nat.le_succ_of_le h.len, h.t0, by have := h.t1; omega, h.who, h.rise⟩
theorem FdOK.upto {w : Int} {k k' : Nat} {q : List Ev} {t : Int} (h : FdOK w k q t) (hk : k ≤ k') : FdOK w k' q t :=
  ⟨Nat.le_trans h.len hk, h.t0, by have := h.t1; omega, h.who, h.rise⟩
theorem FdOK.nil (w : Int) : FdOK w 0 [] 0 := ⟨Nat.le_refl _, by omega, by omega, fun i e h => (by cases h), fun i j e f h => (by cases h)⟩
theorem upT_eq {t x : Int} (ht : 0 ≤ t ∧ t ≤ 1000000) (hx : 0 ≤ x ∧ x < 65536) : upT t x = t + (1 + x / 16 % 4) := by
  unfold upT
  have h0 : 0 ≤ x / 16 := Int.ediv_nonneg hx.1 (by omega)
  have h1 : x / 16 < 65536 := by omega
  rw [Int.tdiv_eq_ediv_of_nonneg hx.1, wu16 h0 (by omega), wu64 h0 (by omega), Int.tmod_eq_emod_of_nonneg h0]
  have h2 := Int.emod_nonneg (x / 16) (show (4 : Int) ≠ 0 by omega)
  have h3 := Int.emod_lt_of_pos (x / 16) (show (0 : Int) < 4 by omega)
  rw [wu64 (n := 1 + x / 16 % 4) (by omega) (by omega), wu64 (by omega) (by omega)]
theorem kdX_eq {x : Int} (hx : 0 ≤ x ∧ x < 65536) : kdX x = 1 + x / 64 % 4 := by
  unfold kdX
  have h0 : 0 ≤ x / 64 := Int.ediv_nonneg hx.1 (by omega)
  rw [Int.tdiv_eq_ediv_of_nonneg hx.1, wu16 h0 (by omega)]
  rw [wu8_mod (x / 64), Int.tmod_eq_emod_of_nonneg (by omega)]
  rw [wu8_mod]
  omega
theorem kyX_eq {x : Int} (hx : 0 ≤ x ∧ x < 65536) : kyX x = 97 + x / 256 % 4 := by
  unfold kyX
  have h0 : 0 ≤ x / 256 := Int.ediv_nonneg hx.1 (by omega)
  rw [Int.tdiv_eq_ediv_of_nonneg hx.1, wu16 h0 (by omega)]
  rw [wu8_mod (x / 256), Int.tmod_eq_emod_of_nonneg (by omega)]
  rw [wu8_mod]
  omega
theorem evX_form {w t x i : Int} {n : Nat} (hx : 0 ≤ x ∧ x < 65536) (hi : 0 ≤ i ∧ i < 60) : EvF (evX w n t x i) := by
  have hk := kdX_eq hx
  have hy := kyX_eq hx
  unfold evX EvF
  dsimp only
  refine ⟨by omega, ⟨kyX x, by omega, by omega, rfl⟩, ?_, ?_, rfl⟩
  · cases h1 : kdX x == 1 with
    | false => exact .inl rfl
    | true => exact .inr ⟨by simpa using h1, IntKind.wrap .u8 i, by rw [wu8_mod]; omega, by rw [wu8_mod]; omega, rfl⟩
  · cases h2 : kdX x == 2 with
    | true => exact .inr ⟨.inl (by simpa using h2), i, hi.1, hi.2, rfl⟩
    | false =>
      cases h3 : kdX x == 3 with
      | true => exact .inr ⟨.inr (by simpa using h3), i, hi.1, hi.2, rfl⟩
      | false => exact .inl rfl
theorem app1 {α : Type} {q : List α} {x e : α} {i : Nat} (h : (q ++ [x])[i]? = some e) : q[i]? = some e ∨ (i = q.length ∧ e = x) := by
  rcases Nat.lt_or_ge i q.length with hl | hl
  · rw [List.getElem?_append_left hl] at h; exact .inl h
  · rw [List.getElem?_append_right hl] at h
    rcases Nat.eq_zero_or_pos (i - q.length) with h0 | h0
    · rw [h0] at h; simp at h; exact .inr ⟨by omega, h.symm⟩
    · rw [List.getElem?_eq_none (by simp; omega)] at h; cases h
theorem lt_get? {α : Type} {q : List α} {e : α} {i : Nat} (h : q[i]? = some e) : i < q.length := (List.getElem?_eq_some_iff.1 h).1
theorem FdOK.add {w : Int} {k : Nat} {q : List Ev} {t x i : Int} (h : FdOK w k q t) (hx : 0 ≤ x ∧ x < 65536) (hk : k < 60) (hi : 0 ≤ i ∧ i < 60) : FdOK w (k + 1) (q ++ [evX w q.length (upT t x) x i]) (upT t x) := by
  have ht := upT_eq ⟨h.t0, by have := h.t1; omega⟩ hx
  have h2 := Int.emod_nonneg (x / 16) (show (4 : Int) ≠ 0 by omega)
  have h3 := Int.emod_lt_of_pos (x / 16) (show (0 : Int) < 4 by omega)
  have hl := h.len
  have h0 := h.t0
  refine ⟨by simp; omega, by omega, by have := h.t1; omega, fun j e hj => ?_, fun j j' e e' hj hj' hlt => ?_⟩
  · rcases app1 hj with hj | ⟨rfl, rfl⟩
    · obtain ⟨a, b, c, d, f⟩ := h.who j e hj
      exact ⟨a, b, c, by omega, f⟩
    · refine ⟨rfl, ?_, by show 1 ≤ upT t x; omega, Int.le_refl _, evX_form hx hi⟩
      show IntKind.wrap .u64 (IntKind.wrap .u64 (q.length : Int) + 1) = _
      rw [wu64 (n := (q.length : Int)) (by omega) (by omega), wu64 (by omega) (by omega)]
  · rcases app1 hj with hj | ⟨rfl, rfl⟩
    · rcases app1 hj' with hj' | ⟨rfl, rfl⟩
      · exact h.rise j j' e e' hj hj' hlt
      · have := (h.who j e hj).2.2.2.1
        show _ < upT t x
        omega
    · rcases app1 hj' with hj' | ⟨rfl, rfl⟩
      · have := lt_get? hj'; omega
      · omega
theorem gset {b : List Int} {i j : Nat} {v : Int} (h : i ≠ j) : (b.set i v).getD j 0 = b.getD j 0 := by
  rw [List.getD_eq_getElem?_getD, List.getElem?_set_ne h, ← List.getD_eq_getElem?_getD]
theorem gset_same {b : List Int} {i : Nat} {v : Int} (h : i < b.length) : (b.set i v).getD i 0 = v := by
  rw [List.getD_eq_getElem?_getD, List.getElem?_set_self h]; rfl
def U16s (l : List Int) : Prop := ∀ x ∈ l, 0 ≤ x ∧ x < 65536
theorem U16s.get {l : List Int} (h : U16s l) (k : Nat) : 0 ≤ l.getD k 0 ∧ l.getD k 0 < 65536 := by
  rw [List.getD_eq_getElem?_getD]
  rcases Nat.lt_or_ge k l.length with hk | hk
  · rw [List.getElem?_eq_getElem hk]; exact h _ (List.getElem_mem hk)
  · rw [List.getElem?_eq_none hk]; simp
theorem T36f_4_s0 (a0 : List Int) (k : Int) (b : List Int) (q0 q1 q2 : List Ev) (hk : 0 ≤ k ∧ k < a0.length) (h60 : k < 60) (hb : b.length = 3) (hq : q0.length < 1000000) (hw : (IntKind.wrap .i64 (a0.getD k.toNat 0)).tmod 3 = 0) :
    T36f_4 a0 3 k b q0 q1 q2 = some (.inl ((a0, 3, (), (), IntKind.wrap .i64 (k + 1), ()), (((), (), (), ()), (b.set 0 (upT (b.getD 0 0) (a0.getD k.toNat 0)), ()), ()), ((q0 ++ [evX 0 q0.length ((b.set 0 (upT (b.getD 0 0) (a0.getD k.toNat 0))).getD 0 0) (a0.getD k.toNat 0) k]), q1, q2, ()))) := by
  have c1 : decide (k < (a0.length : Int)) = true := decide_eq_true hk.2
  have c2 : decide (k < 60) = true := decide_eq_true h60
  have c3 : decide (0 ≤ k ∧ k < (a0.length : Int)) = true := decide_eq_true hk
  have c4 : decide ((3 : Int) ≠ 0) = true := rfl
  have w0 : decide (((((IntKind.wrap .i64 ((a0).getD (k : Int).toNat (0 : Int))) : Int).tmod 3) : Int) = 0) = true := by rw [hw]; rfl
  have c5 : decide (0 ≤ (0 : Int) ∧ (0 : Int) < ((b.length : Nat) : Int)) = true := decide_eq_true (by omega)
  have c6 : decide ((0 : Int).toNat < b.length) = true := decide_eq_true (by rw [hb]; decide)
  have c7 : ∀ v, decide (0 ≤ (0 : Int) ∧ (0 : Int) < (((b.set (0 : Int).toNat v).length : Nat) : Int)) = true := fun v => decide_eq_true (by rw [List.length_set]; omega)
  have c8 : ∀ v, decide ((0 : Int).toNat < (b.set (0 : Int).toNat v).length) = true := fun v => decide_eq_true (by rw [List.length_set, hb]; decide)
  have c9 := qt_some' hk.1 h60
  unfold T36f_4
  simp only [c1, c2, c3, c4, w0, c5, c6, c7, c8, c9, cond_true, cond_false, uT36f_4_0, uT36f_4_1, uT36f_4_10, uT36f_4_11, uT36f_4_2, uT36f_4_3, uT36f_4_4, uT36f_4_5, uT36f_4_6, uT36f_4_7, uT36f_4_8, uT36f_4_9]
  unfold evX
  unfold kdX
  generalize hkd : (IntKind.wrap .u8 (1 + (((IntKind.wrap .u8 (IntKind.wrap .u16 ((a0.getD k.toNat 0).tdiv 64))) : Int).tmod 4))) = kd
  cases h1 : kd == 1 <;> cases h2 : kd == 2 <;> cases h3 : kd == 3 <;> exact condT (lim2 hq) rfl
theorem T36f_4_s1 (a0 : List Int) (k : Int) (b : List Int) (q0 q1 q2 : List Ev) (hk : 0 ≤ k ∧ k < a0.length) (h60 : k < 60) (hb : b.length = 3) (hq : q1.length < 1000000) (hw : (IntKind.wrap .i64 (a0.getD k.toNat 0)).tmod 3 = 1) :
    T36f_4 a0 3 k b q0 q1 q2 = some (.inl ((a0, 3, (), (), IntKind.wrap .i64 (k + 1), ()), (((), (), (), ()), (b.set 1 (upT (b.getD 1 0) (a0.getD k.toNat 0)), ()), ()), (q0, (q1 ++ [evX 1 q1.length ((b.set 1 (upT (b.getD 1 0) (a0.getD k.toNat 0))).getD 1 0) (a0.getD k.toNat 0) k]), q2, ()))) := by
  have c1 : decide (k < (a0.length : Int)) = true := decide_eq_true hk.2
  have c2 : decide (k < 60) = true := decide_eq_true h60
  have c3 : decide (0 ≤ k ∧ k < (a0.length : Int)) = true := decide_eq_true hk
  have c4 : decide ((3 : Int) ≠ 0) = true := rfl
  have w0 : decide (((((IntKind.wrap .i64 ((a0).getD (k : Int).toNat (0 : Int))) : Int).tmod 3) : Int) = 0) = false := by rw [hw]; rfl
  have w1 : decide (((((IntKind.wrap .i64 ((a0).getD (k : Int).toNat (0 : Int))) : Int).tmod 3) : Int) = 1) = true := by rw [hw]; rfl
  have c5 : decide (0 ≤ (1 : Int) ∧ (1 : Int) < ((b.length : Nat) : Int)) = true := decide_eq_true (by omega)
  have c6 : decide ((1 : Int).toNat < b.length) = true := decide_eq_true (by rw [hb]; decide)
  have c7 : ∀ v, decide (0 ≤ (1 : Int) ∧ (1 : Int) < (((b.set (1 : Int).toNat v).length : Nat) : Int)) = true := fun v => decide_eq_true (by rw [List.length_set]; omega)
  have c8 : ∀ v, decide ((1 : Int).toNat < (b.set (1 : Int).toNat v).length) = true := fun v => decide_eq_true (by rw [List.length_set, hb]; decide)
  have c9 := qt_some' hk.1 h60
  unfold T36f_4
  simp only [c1, c2, c3, c4, w0, w1, c5, c6, c7, c8, c9, cond_true, cond_false, uT36f_4_0, uT36f_4_1, uT36f_4_10, uT36f_4_11, uT36f_4_2, uT36f_4_3, uT36f_4_4, uT36f_4_5, uT36f_4_6, uT36f_4_7, uT36f_4_8, uT36f_4_9]
  unfold evX
  unfold kdX
  generalize hkd : (IntKind.wrap .u8 (1 + (((IntKind.wrap .u8 (IntKind.wrap .u16 ((a0.getD k.toNat 0).tdiv 64))) : Int).tmod 4))) = kd
  cases h1 : kd == 1 <;> cases h2 : kd == 2 <;> cases h3 : kd == 3 <;> exact condT (lim2 hq) rfl
theorem T36f_4_s2 (a0 : List Int) (k : Int) (b : List Int) (q0 q1 q2 : List Ev) (hk : 0 ≤ k ∧ k < a0.length) (h60 : k < 60) (hb : b.length = 3) (hq : q2.length < 1000000) (hw : (IntKind.wrap .i64 (a0.getD k.toNat 0)).tmod 3 = 2) :
    T36f_4 a0 3 k b q0 q1 q2 = some (.inl ((a0, 3, (), (), IntKind.wrap .i64 (k + 1), ()), (((), (), (), ()), (b.set 2 (upT (b.getD 2 0) (a0.getD k.toNat 0)), ()), ()), (q0, q1, (q2 ++ [evX 2 q2.length ((b.set 2 (upT (b.getD 2 0) (a0.getD k.toNat 0))).getD 2 0) (a0.getD k.toNat 0) k]), ()))) := by
  have c1 : decide (k < (a0.length : Int)) = true := decide_eq_true hk.2
  have c2 : decide (k < 60) = true := decide_eq_true h60
  have c3 : decide (0 ≤ k ∧ k < (a0.length : Int)) = true := decide_eq_true hk
  have c4 : decide ((3 : Int) ≠ 0) = true := rfl
  have w0 : decide (((((IntKind.wrap .i64 ((a0).getD (k : Int).toNat (0 : Int))) : Int).tmod 3) : Int) = 0) = false := by rw [hw]; rfl
  have w1 : decide (((((IntKind.wrap .i64 ((a0).getD (k : Int).toNat (0 : Int))) : Int).tmod 3) : Int) = 1) = false := by rw [hw]; rfl
  have w2 : decide (((((IntKind.wrap .i64 ((a0).getD (k : Int).toNat (0 : Int))) : Int).tmod 3) : Int) = 2) = true := by rw [hw]; rfl
  have c5 : decide (0 ≤ (2 : Int) ∧ (2 : Int) < ((b.length : Nat) : Int)) = true := decide_eq_true (by omega)
  have c6 : decide ((2 : Int).toNat < b.length) = true := decide_eq_true (by rw [hb]; decide)
  have c7 : ∀ v, decide (0 ≤ (2 : Int) ∧ (2 : Int) < (((b.set (2 : Int).toNat v).length : Nat) : Int)) = true := fun v => decide_eq_true (by rw [List.length_set]; omega)
  have c8 : ∀ v, decide ((2 : Int).toNat < (b.set (2 : Int).toNat v).length) = true := fun v => decide_eq_true (by rw [List.length_set, hb]; decide)
  have c9 := qt_some' hk.1 h60
  unfold T36f_4
  simp only [c1, c2, c3, c4, w0, w1, w2, c5, c6, c7, c8, c9, cond_true, cond_false, uT36f_4_0, uT36f_4_1, uT36f_4_10, uT36f_4_11, uT36f_4_2, uT36f_4_3, uT36f_4_4, uT36f_4_5, uT36f_4_6, uT36f_4_7, uT36f_4_8, uT36f_4_9]
  unfold evX
  unfold kdX
  generalize hkd : (IntKind.wrap .u8 (1 + (((IntKind.wrap .u8 (IntKind.wrap .u16 ((a0.getD k.toNat 0).tdiv 64))) : Int).tmod 4))) = kd
  cases h1 : kd == 1 <;> cases h2 : kd == 2 <;> cases h3 : kd == 3 <;> exact condT (lim2 hq) rfl
theorem L36f_4_run (a0 : List Int) (ha : U16s a0) : ∀ (d k : Nat) (b : List Int) (q0 q1 q2 : List Ev), k + d = min a0.length 60 → b.length = 3 → FdOK 0 k q0 (b.getD 0 0) → FdOK 1 k q1 (b.getD 1 0) → FdOK 2 k q2 (b.getD 2 0) →
    ∃ (b' : List Int) (q0' q1' q2' : List Ev), L36f_4 a0 3 (k : Nat) b q0 q1 q2 = some ((), (((), (), (), ()), (b', ()), ()), (q0', q1', q2', ())) ∧ b'.length = 3 ∧ FdOK 0 60 q0' (b'.getD 0 0) ∧ FdOK 1 60 q1' (b'.getD 1 0) ∧ FdOK 2 60 q2' (b'.getD 2 0) := by
  intro d
  induction d with
  | zero =>
    intro k b q0 q1 q2 hk hb f0 f1 f2
    rw [L36f_4_eq]
    refine ⟨b, q0, q1, q2, ?_, hb, f0.upto (by omega), f1.upto (by omega), f2.upto (by omega)⟩
    unfold T36f_4
    by_cases h : (k : Int) < (a0.length : Int)
    · rw [decide_eq_true h, show decide ((k : Int) < 60) = false from decide_eq_false (by omega)]; rfl
    · rw [decide_eq_false h]; rfl
  | succ d ih =>
    intro k b q0 q1 q2 hk hb f0 f1 f2
    rw [L36f_4_eq]
    have hx := ha.get k
    have hw' : (IntKind.wrap .i64 (a0.getD ((k : Nat) : Int).toNat 0)).tmod 3 = a0.getD k 0 % 3 := by
      rw [Int.toNat_natCast, w64 (by omega) (by omega), Int.tmod_eq_emod_of_nonneg hx.1]
    have hor : a0.getD k 0 % 3 = 0 ∨ a0.getD k 0 % 3 = 1 ∨ a0.getD k 0 % 3 = 2 := by omega
    rcases hor with h0 | h1 | h2
    · have hs := T36f_4_s0 a0 (k : Nat) b q0 q1 q2 ⟨by omega, by omega⟩ (by omega) hb (by have := f0.len; omega) (by rw [hw', h0])
      rw [hs]
      simp only [Option.bind_some, Sum.elim_inl]
      rw [gset_same (by omega), show IntKind.wrap .i64 ((k : Nat) + 1 : Int) = ((k + 1 : Nat) : Int) by rw [w64 (by omega) (by omega)]; rfl, Int.toNat_natCast]
      exact ih (k + 1) _ _ _ _ (by omega) (by rw [List.length_set]; exact hb) (by rw [gset_same (by omega)]; exact f0.add hx (by omega) ⟨by omega, by omega⟩) (by rw [gset (by decide)]; exact f1.keep) (by rw [gset (by decide)]; exact f2.keep)
    · have hs := T36f_4_s1 a0 (k : Nat) b q0 q1 q2 ⟨by omega, by omega⟩ (by omega) hb (by have := f1.len; omega) (by rw [hw', h1])
      rw [hs]
      simp only [Option.bind_some, Sum.elim_inl]
      rw [gset_same (by omega), show IntKind.wrap .i64 ((k : Nat) + 1 : Int) = ((k + 1 : Nat) : Int) by rw [w64 (by omega) (by omega)]; rfl, Int.toNat_natCast]
      exact ih (k + 1) _ _ _ _ (by omega) (by rw [List.length_set]; exact hb) (by rw [gset (by decide)]; exact f0.keep) (by rw [gset_same (by omega)]; exact f1.add hx (by omega) ⟨by omega, by omega⟩) (by rw [gset (by decide)]; exact f2.keep)
    · have hs := T36f_4_s2 a0 (k : Nat) b q0 q1 q2 ⟨by omega, by omega⟩ (by omega) hb (by have := f2.len; omega) (by rw [hw', h2])
      rw [hs]
      simp only [Option.bind_some, Sum.elim_inl]
      rw [gset_same (by omega), show IntKind.wrap .i64 ((k : Nat) + 1 : Int) = ((k + 1 : Nat) : Int) by rw [w64 (by omega) (by omega)]; rfl, Int.toNat_natCast]
      exact ih (k + 1) _ _ _ _ (by omega) (by rw [List.length_set]; exact hb) (by rw [gset (by decide)]; exact f0.keep) (by rw [gset (by decide)]; exact f1.keep) (by rw [gset_same (by omega)]; exact f2.add hx (by omega) ⟨by omega, by omega⟩)
theorem F36_feeds (a0 : List Int) (ha : U16s a0) : ∃ (b' : List Int) (q0' q1' q2' : List Ev), F36 a0 = some (([q0', q1', q2'], ()), (), ()) ∧ FdOK 0 60 q0' (b'.getD 0 0) ∧ FdOK 1 60 q1' (b'.getD 1 0) ∧ FdOK 2 60 q2' (b'.getD 2 0) := by
  obtain ⟨b', q0', q1', q2', h, _, hh⟩ := L36f_4_run a0 ha (min a0.length 60) 0 (List.replicate 3 0) [] [] [] (by omega) (by simp) (FdOK.nil _) (FdOK.nil _) (FdOK.nil _)
  refine ⟨b', q0', q1', q2', ?_, hh⟩
  unfold F36 F36f
  have h' : L36f_4 a0 3 0 (List.replicate (3 : Int).toNat 0) [] [] [] = _ := h
  rw [h']
  rfl
theorem L34_run (v : List Int) (hv : Vok v) (hl : v.length < 2 ^ 40) : ∀ (d k : Nat) (q : List Int), k + d = min v.length 64 → q.length = k → Sml q →
    ∃ q', L34_3 v (k : Nat) q = some (((), ()), (), (q', ())) ∧ q'.length ≤ 64 ∧ Sml q' := by
  intro d
  induction d with
  | zero =>
    intro k q hk hq hs
    rw [L34_3_eq]
    refine ⟨q, ?_, by omega, hs⟩
    unfold T34_3
    by_cases h : (k : Int) < (v.length : Int)
    · rw [decide_eq_true h, show decide ((k : Int) < 64) = false from decide_eq_false (by omega)]; rfl
    · rw [decide_eq_false h]; rfl
  | succ d ih =>
    intro k q hk hq hs
    rw [L34_3_eq]
    unfold T34_3
    have hg := hv.gv k
    have hlim : lim = 1099511627776 := rfl
    rw [decide_eq_true (by omega), decide_eq_true (by omega), decide_eq_true (by omega), decide_eq_true (by simp only [List.length_cons, List.length_nil]; omega)]
    simp only [cond_true, Option.bind_some, Sum.elim_inl]
    rw [show IntKind.wrap .i64 ((k : Nat) + 1 : Int) = ((k + 1 : Nat) : Int) by rw [w64 (by omega) (by omega)]; rfl, Int.toNat_natCast, Int.tmod_eq_emod_of_nonneg hg.1]
    refine ih (k + 1) _ (by omega) (by simp [hq]) (fun x hx => ?_)
    rcases List.mem_append.1 hx with hx | hx
    · exact hs x hx
    · simp only [List.mem_singleton] at hx
      subst hx
      have h1 := Int.emod_nonneg (gv v k) (show (9223372036854775808 : Int) ≠ 0 by omega)
      have h2 := Int.emod_lt_of_pos (gv v k) (show (0 : Int) < 9223372036854775808 by omega)
      exact ⟨h1, by show gv v k % 9223372036854775808 ≤ _; omega⟩
theorem F34_any (v : List Int) (hv : Vok v) (hl : v.length < 2 ^ 40) : ∃ q, F34 v = some (r1 q) ∧ q.length ≤ 64 ∧ Sml q := by
  obtain ⟨q, h1, h2, h3⟩ := L34_run v hv hl (min v.length 64) 0 [] (by omega) rfl (fun x hx => by cases hx)
  refine ⟨q, ?_, h2, h3⟩
  unfold F34
  rw [show ((0 : Nat) : Int) = 0 from rfl] at h1
  rw [h1]
  rfl
theorem L35_run (l : List (List Ev)) (hl : l.length ≤ 64) (hq : ∀ q ∈ l, q.length ≤ 60) : ∀ (d k : Nat) (q : List Ev), k + d = l.length → q.length ≤ 60 * k → L35_3 l (k : Nat) q = some (((), ()), (), (q ++ (l.drop k).flatten, ())) := by
  intro d
  induction d with
  | zero =>
    intro k q hk hq
    rw [L35_3_eq]
    unfold T35_3
    rw [decide_eq_false (by omega), List.drop_eq_nil_of_le (by omega), List.flatten_nil, List.append_nil]
    rfl
  | succ d ih =>
    intro k q hk hql
    rw [L35_3_eq]
    unfold T35_3
    have hkl : k < l.length := by omega
    have hg : l.getD ((k : Nat) : Int).toNat [] = l[k] := by
      rw [Int.toNat_natCast, List.getD_eq_getElem?_getD, List.getElem?_eq_getElem hkl]; rfl
    have hlk := hq l[k] (List.getElem_mem hkl)
    have hlim : lim = 1099511627776 := rfl
    rw [decide_eq_true (by omega), decide_eq_true (by omega), hg, decide_eq_true (by omega)]
    simp only [cond_true, Option.bind_some, Sum.elim_inl]
    rw [show IntKind.wrap .i64 ((k : Nat) + 1 : Int) = ((k + 1 : Nat) : Int) by rw [w64 (by omega) (by omega)]; rfl, List.drop_eq_getElem_cons hkl, List.flatten_cons, ← List.append_assoc]
    exact ih (k + 1) _ (by omega) (by rw [List.length_append]; omega)
theorem L69b_run (a q : List Ev) (i : Nat) (hi : i < a.length) (hl : q.length < 2 ^ 40) : ∀ k : Nat, k ≤ q.length → ∃ k' : Nat, k' ≤ k ∧ L69_6 a q (i : Nat) (k : Nat) = some (r1 (k' : Int)) := by
  intro k
  induction k with
  | zero =>
    intro _
    refine ⟨0, Nat.le_refl _, ?_⟩
    rw [L69_6_eq]
    unfold T69_6
    rw [decide_eq_false (by omega)]
    rfl
  | succ k ih =>
    intro hk
    rw [L69_6_eq]
    unfold T69_6
    rw [decide_eq_true (by omega), decide_eq_true (by omega)]
    rw [show IntKind.wrap .i64 (((k + 1 : Nat) : Int) - 1) = (k : Int) by rw [w64 (by omega) (by omega)]; omega]
    rw [decide_eq_true (by omega)]
    simp only [cond_true, F88, Option.bind_some]
    unfold F87
    dsimp only
    obtain ⟨k', h1, h2⟩ := ih (by omega)
    have done : ∀ (r : Option ((Bool × Unit) × Unit × Unit)), (∃ b, r = some (r1 b)) → ∃ k' : Nat, k' ≤ k + 1 ∧ ((r.bind fun y => bif y.1.1 then some (.inl ((a, q, (i : Int), (k : Int), ()), (), ())) else some (.inr ((((k + 1 : Nat) : Int), ()), (), ()))).bind (Sum.elim (fun x : (((List Ev) × ((List Ev) × (Int × (Int × Unit)))) × Unit × Unit) => L69_6 x.1.1 x.1.2.1 x.1.2.2.1 x.1.2.2.2.1) some)) = some (r1 (k' : Int)) := by
      rintro r ⟨b, rfl⟩
      cases b with
      | true => exact ⟨k', by omega, h2⟩
      | false => exact ⟨k + 1, Nat.le_refl _, rfl⟩
    refine done _ ?_
    simp only [cif]
    split
    · exact ⟨_, rfl⟩
    · cases ((a.getD ((i : Nat) : Int).toNat ((0 : Int), ((0 : Int), ((0 : Int), ((0 : Int), (ByteArray.empty, ([], ((0 : Nat), ((0 : Int), ()))))))))).2.2.1 == (q.getD ((k : Nat) : Int).toNat ((0 : Int), ((0 : Int), ((0 : Int), ((0 : Int), (ByteArray.empty, ([], ((0 : Nat), ((0 : Int), ()))))))))).2.2.1) <;> exact ⟨_, rfl⟩
theorem L69_run (a : List Ev) (P : Ev → Prop) (hP : ∀ e ∈ a, P e) (hl : a.length < 1000000) : ∀ (d k : Nat) (q : List Ev), k + d = a.length → q.length = k → (∀ e ∈ q, P e) → ∃ q', L69_3 a (k : Nat) q = some (((), ()), (), (q', ())) ∧ q'.length = a.length ∧ ∀ e ∈ q', P e := by
  intro d
  induction d with
  | zero =>
    intro k q hk hq hp
    refine ⟨q, ?_, by omega, hp⟩
    rw [L69_3_eq]
    unfold T69_3
    rw [decide_eq_false (by omega)]
    rfl
  | succ d ih =>
    intro k q hk hq hp
    have hkl : k < a.length := by omega
    obtain ⟨k', h1, h2⟩ := L69b_run a q k hkl (by omega) q.length (Nat.le_refl _)
    rw [L69_3_eq]
    unfold T69_3
    have hlim : lim = 1099511627776 := rfl
    rw [decide_eq_true (by omega), h2]
    simp only [cond_true, Option.bind_some]
    have hg : a.getD ((k : Nat) : Int).toNat ((0 : Int), ((0 : Int), ((0 : Int), ((0 : Int), (ByteArray.empty, ([], ((0 : Nat), ((0 : Int), ())))))))) = a[k] := by
      rw [Int.toNat_natCast, List.getD_eq_getElem?_getD, List.getElem?_eq_getElem hkl]; rfl
    rw [hg, decide_eq_true (show (0 : Int) ≤ (k' : Int) ∧ (k' : Int) ≤ (q.length : Int) by omega), Int.toNat_natCast]
    have ht : (q.take k').length = k' := by rw [List.length_take]; omega
    have hd : (q.drop k').length = q.length - k' := by rw [List.length_drop]
    rw [decide_eq_true (show (q.take k').length < lim by omega), decide_eq_true (show (0 : Int) ≤ (k : Int) ∧ (k : Int) < (a.length : Int) by omega)]
    have heta : ((a[k]).1, (a[k]).2.1, (a[k]).2.2.1, (a[k]).2.2.2.1, (a[k]).2.2.2.2.1, (a[k]).2.2.2.2.2.1, (a[k]).2.2.2.2.2.2.1, (a[k]).2.2.2.2.2.2.2.1, ()) = a[k] := rfl
    simp only [cond_true, heta]
    have l1 : (q.take k').length + [a[k]].length < lim := by simp only [List.length_cons, List.length_nil]; omega
    have l2 : (q.take k' ++ [a[k]]).length + (q.drop k').length < lim := by rw [List.length_append]; simp only [List.length_cons, List.length_nil]; omega
    rw [decide_eq_true l1, decide_eq_true l2]
    simp only [cond_true, Option.bind_some, Sum.elim_inl]
    rw [show IntKind.wrap .i64 ((k : Nat) + 1 : Int) = ((k + 1 : Nat) : Int) by rw [w64 (by omega) (by omega)]; rfl]
    refine ih (k + 1) _ (by omega) (by rw [List.length_append, List.length_append]; simp only [List.length_cons, List.length_nil]; omega) (fun e he => ?_)
    rcases List.mem_append.1 he with he | he
    · rcases List.mem_append.1 he with he | he
      · exact hp e (List.mem_of_mem_take he)
      · simp only [List.mem_singleton] at he; rw [he]; exact hP _ (List.getElem_mem hkl)
    · exact hp e (List.mem_of_mem_drop he)
theorem F35_any (l : List (List Ev)) (P : Ev → Prop) (hP : ∀ q ∈ l, ∀ e ∈ q, P e) (hl : l.length ≤ 64) (hq : ∀ q ∈ l, q.length ≤ 60) : ∃ es, F35 l = some (r1 es) ∧ es.length ≤ 60 * l.length ∧ ∀ e ∈ es, P e := by
  have h := L35_run l hl hq l.length 0 [] (by omega) (by simp)
  rw [show ((0 : Nat) : Int) = 0 from rfl, List.drop_zero, List.nil_append] at h
  have hlen : ∀ (l : List (List Ev)), (∀ q ∈ l, q.length ≤ 60) → l.flatten.length ≤ 60 * l.length := by
    intro l
    induction l with
    | nil => intro _; simp
    | cons x l ih =>
      intro h
      have := ih fun q hq => h q (by simp [hq])
      have := h x (by simp)
      simp only [List.flatten_cons, List.length_append, List.length_cons]
      omega
  have hfl := hlen l hq
  obtain ⟨q', g1, g2, g3⟩ := L69_run l.flatten P (fun e he => by
    obtain ⟨q, h1, h2⟩ := List.mem_flatten.1 he
    exact hP q h1 e h2) (by omega) l.flatten.length 0 [] (by omega) rfl (fun e he => by cases he)
  refine ⟨q', ?_, by omega, g3⟩
  rw [show ((0 : Nat) : Int) = 0 from rfl] at g1
  unfold F35
  rw [h]
  simp only [Option.bind_some]
  unfold F69
  rw [g1]
  rfl
theorem enc_byte {e : Ev} (h : EvW e) (hx : Bys e.2.2.2.2.2.1) (hk : 0 ≤ e.2.2.2.1 ∧ e.2.2.2.1 < 256) (hl : e.2.2.2.2.2.1.length < 2 ^ 62) : Bys (encE e) := by
  obtain ⟨s0, s1, t0, t1, hks⟩ := h
  have kb := bytesL_byte e.2.2.2.2.1
  have kl := bytesL_len e.2.2.2.2.1
  unfold encE
  refine (((((dg_byte (by rw [wu64_mod]; omega) (by rw [wu64_mod]; omega)).app (dg_byte s0 s1)).app (dg_byte t0 t1)).app (fun x hx => by simp at hx; omega)).app ?_).app ?_
  · split
    · exact dgT_byte kb (by omega)
    · exact fun x hx => by cases hx
  · unfold encR
    split
    · exact dgT_byte hx (by omega)
    split
    · exact fixF_byte _ 8
    split
    · exact dg_byte (by rw [wu64_mod]; omega) (by rw [wu64_mod]; omega)
    · exact fun x hx => by cases hx
theorem enc_len (e : Ev) : (encE e).length ≤ 100 + e.2.2.2.2.1.size + e.2.2.2.2.2.1.length := by
  have h1 := dg_len (IntKind.wrap .u64 e.1)
  have h2 := dg_len e.2.1
  have h3 := dg_len e.2.2.1
  have h4 : (if 1 ≤ e.2.2.2.1 ∧ e.2.2.2.1 ≤ 4 then dgT (bytesL e.2.2.2.2.1) else []).length ≤ 10 + e.2.2.2.2.1.size := by
    split
    · have := dgT_len (bytesL e.2.2.2.2.1); rw [bytesL_len] at this; exact this
    · simp
  have h5 : (encR e.2.2.2.1 e.2.2.2.2.2.1 e.2.2.2.2.2.2.1 e.2.2.2.2.2.2.2.1).length ≤ 10 + e.2.2.2.2.2.1.length := by
    unfold encR
    split
    · exact dgT_len _
    split
    · rw [show (fix8 (qbits e.2.2.2.2.2.2.1)).length = 8 from fixF_len _ 8]; omega
    split
    · have := dg_len (IntKind.wrap .u64 e.2.2.2.2.2.2.2.1); omega
    · simp
  unfold encE
  simp only [List.length_append, List.length_cons, List.length_nil]
  omega
theorem EvF.ok {w t : Int} {k : Nat} {q : List Ev} (hw : 0 ≤ w ∧ w ≤ 63) (h : FdOK w k q t) (hk : k ≤ 60) : ∀ e ∈ q, EvR e := by
  intro e he
  obtain ⟨i, hi, rfl⟩ := List.getElem_of_mem he
  obtain ⟨h1, h2, h3, h4, ⟨k1, k2⟩, ⟨c, c0, c1, hc⟩, htx, hnum, hsub⟩ := h.who i _ (List.getElem?_eq_getElem hi)
  have hl := h.len
  have ht := h.t1
  generalize q[i] = e at *
  have hsz : e.2.2.2.2.1.size = 1 := by rw [hc, strL_size]; rfl
  have htl : e.2.2.2.2.2.1.length ≤ 1 := by
    rcases htx with hx | ⟨_, c, _, _, hx⟩ <;> rw [hx] <;> simp
  have hW : EvW e := ⟨by omega, by omega, by omega, by omega, by omega⟩
  have hB : Bys e.2.2.2.2.2.1 := by
    rcases htx with hx | ⟨_, c, g1, g2, hx⟩
    · rw [hx]; exact fun x hx => by cases hx
    · rw [hx]; intro y hy; simp only [List.mem_singleton] at hy; omega
  refine ⟨?_, hW, ?_, enc_byte hW hB (by omega) (by omega)⟩
  · unfold rgt
    rw [if_neg (by omega), if_neg (by omega), if_neg (by omega), if_neg (by omega), if_neg (by omega)]
  · have := enc_len e; omega
end Go.IM.V
namespace Go.IM.V
open Go Go.IM Go.Proofs
abbrev Dr : Type := Int × Int × Int × Int × Bool × Int × Int × Int × Int × List Int × List Rw × List Int × List Int × Unit
structure DrOK (d : Dr) : Prop where
  k : 0 ≤ d.1 ∧ d.1 < 256
  f : 0 ≤ d.2.1 ∧ d.2.1 < 256
  t : 0 ≤ d.2.2.1 ∧ d.2.2.1 < 256
  w : 0 ≤ d.2.2.2.1 ∧ d.2.2.2.1 < 256
  s : 0 ≤ d.2.2.2.2.2.1 ∧ d.2.2.2.2.2.1 < 18446744073709551616
  tm : 0 ≤ d.2.2.2.2.2.2.1 ∧ d.2.2.2.2.2.2.1 < 18446744073709551616
  sz : 0 ≤ d.2.2.2.2.2.2.2.1 ∧ d.2.2.2.2.2.2.2.1 < 4294967296
  at' : 0 ≤ d.2.2.2.2.2.2.2.2.1 ∧ d.2.2.2.2.2.2.2.2.1 < 4294967296
  hv : Vok d.2.2.2.2.2.2.2.2.2.1
  hl : d.2.2.2.2.2.2.2.2.2.1.length ≤ 1048576
  rl : d.2.2.2.2.2.2.2.2.2.2.1.length ≤ 1048576
  r : ∀ r ∈ d.2.2.2.2.2.2.2.2.2.2.1, Vok r.2.1 ∧ r.2.1.length ≤ 1048576 ∧ 0 ≤ r.2.2.1 ∧ r.2.2.1 < 18446744073709551616
  e : U16s d.2.2.2.2.2.2.2.2.2.2.2.1
  el : d.2.2.2.2.2.2.2.2.2.2.2.1.length ≤ 1048576
  b : Bys d.2.2.2.2.2.2.2.2.2.2.2.2.1
  bl : d.2.2.2.2.2.2.2.2.2.2.2.2.1.length ≤ 1048576
theorem L9_run (b0 b1 b2 b3 : Int) (b4 : Bool) (b5 b6 b7 b8 : Int) (b9 : List Int) (b10 : List Rw) (b11 b12 : List Int) (hl : b10.length ≤ 1048576) (hr : ∀ r ∈ b10, r.2.1.length ≤ 1048576) : ∀ (d k : Nat) (s : Int), k + d = b10.length → 0 ≤ s → s + 2000000 * d < 9000000000000000 →
    ∃ s', L9_3 s (k : Nat) b0 b1 b2 b3 b4 b5 b6 b7 b8 b9 b10 b11 b12 = some ((s', ()), ((b0, b1, b2, b3, b4, b5, b6, b7, b8, b9, b10, b11, b12, ()), ()), ()) ∧ s ≤ s' := by
  intro d
  induction d with
  | zero =>
    intro k s hk h0 _
    rw [L9_3_eq]
    unfold T9_3
    rw [decide_eq_false (by omega)]
    exact ⟨s, rfl, Int.le_refl _⟩
  | succ d ih =>
    intro k s hk h0 hs
    rw [L9_3_eq]
    unfold T9_3
    have hkl : k < b10.length := by omega
    have hg : b10.getD ((k : Nat) : Int).toNat ((0 : Int), ([], ((0 : Int), ()))) = b10[k] := by
      rw [Int.toNat_natCast, List.getD_eq_getElem?_getD, List.getElem?_eq_getElem hkl]; rfl
    have hrl := hr b10[k] (List.getElem_mem hkl)
    rw [decide_eq_true (by omega), decide_eq_true (by omega), hg]
    simp only [cond_true, Option.bind_some, Sum.elim_inl]
    rw [w64 (n := 3 + (b10[k].2.1.length : Int)) (by omega) (by omega), w64 (by omega) (by omega), show IntKind.wrap .i64 ((k : Nat) + 1 : Int) = ((k + 1 : Nat) : Int) by rw [w64 (by omega) (by omega)]; rfl]
    obtain ⟨s', h1, h2⟩ := ih (k + 1) (s + (3 + (b10[k].2.1.length : Int))) (by omega) (by omega) (by omega)
    exact ⟨s', h1, by omega⟩
theorem F9_any (d : Dr) (h : DrOK d) : ∃ b, F9 d = some (r1 b) ∧ (b = true → d.2.2.2.2.2.2.2.2.2.2.2.2.1.length ≤ 1000) := by
  have h1 := h.hl; have h2 := h.el; have h3 := h.bl
  unfold F9
  rw [w64 (n := (d.2.2.2.2.2.2.2.2.2.1.length : Int) + (d.2.2.2.2.2.2.2.2.2.2.2.2.1.length : Int)) (by omega) (by omega), w64 (by omega) (by omega)]
  obtain ⟨s', g1, g2⟩ := L9_run d.1 d.2.1 d.2.2.1 d.2.2.2.1 d.2.2.2.2.1 d.2.2.2.2.2.1 d.2.2.2.2.2.2.1 d.2.2.2.2.2.2.2.1 d.2.2.2.2.2.2.2.2.1 d.2.2.2.2.2.2.2.2.2.1 d.2.2.2.2.2.2.2.2.2.2.1 d.2.2.2.2.2.2.2.2.2.2.2.1 d.2.2.2.2.2.2.2.2.2.2.2.2.1 h.rl (fun r hr => (h.r r hr).2.1) d.2.2.2.2.2.2.2.2.2.2.1.length 0 ((d.2.2.2.2.2.2.2.2.2.1.length : Int) + (d.2.2.2.2.2.2.2.2.2.2.2.2.1.length : Int) + (d.2.2.2.2.2.2.2.2.2.2.2.1.length : Int)) (by omega) (by omega) (by have := h.rl; omega)
  rw [show ((0 : Nat) : Int) = 0 from rfl] at g1
  rw [g1]
  refine ⟨decide (s' ≤ 1000), rfl, fun hb => ?_⟩
  have := of_decide_eq_true hb
  omega
theorem nd64 (x : Int) : 0 ≤ IntKind.wrap .i64 ((IntKind.wrap .u64 x).tmod 64) ∧ IntKind.wrap .i64 ((IntKind.wrap .u64 x).tmod 64) ≤ 63 := by
  have h := wu64_mod x
  have h0 : 0 ≤ IntKind.wrap .u64 x := by rw [h]; omega
  have h1 := Int.emod_nonneg (IntKind.wrap .u64 x) (show (64 : Int) ≠ 0 by omega)
  have h2 := Int.emod_lt_of_pos (IntKind.wrap .u64 x) (show (0 : Int) < 64 by omega)
  rw [Int.tmod_eq_emod_of_nonneg h0, w64 (by omega) (by omega)]
  omega
theorem tm63 {x : Int} (h : 0 ≤ x) : 0 ≤ x.tmod 9223372036854775808 ∧ x.tmod 9223372036854775808 ≤ 9223372036854775807 := by
  have h1 := Int.emod_nonneg x (show (9223372036854775808 : Int) ≠ 0 by omega)
  have h2 := Int.emod_lt_of_pos x (show (0 : Int) < 9223372036854775808 by omega)
  rw [Int.tmod_eq_emod_of_nonneg h]
  omega
theorem md64 {x : Int} (h : 0 ≤ x ∧ x < 256) : 0 ≤ IntKind.wrap .i64 (x.tmod 64) ∧ IntKind.wrap .i64 (x.tmod 64) ≤ 63 := by
  have h1 := Int.emod_nonneg x (show (64 : Int) ≠ 0 by omega)
  have h2 := Int.emod_lt_of_pos x (show (0 : Int) < 64 by omega)
  rw [Int.tmod_eq_emod_of_nonneg h.1, w64 (by omega) (by omega)]
  omega
theorem md7 {x : Int} (h : 0 ≤ x ∧ x < 256) : 1 ≤ IntKind.wrap .u8 (1 + x.tmod 7) ∧ IntKind.wrap .u8 (1 + x.tmod 7) ≤ 7 := by
  have h1 := Int.emod_nonneg x (show (7 : Int) ≠ 0 by omega)
  have h2 := Int.emod_lt_of_pos x (show (0 : Int) < 7 by omega)
  rw [Int.tmod_eq_emod_of_nonneg h.1, wu8_mod]
  omega
set_option maxRecDepth 4000 in
theorem L11_run (b0_0 : Int) (b0_1 : Int) (b0_2 : Int) (b0_3 : Int) (b0_4 : Bool) (b0_5 : Int) (b0_6 : Int) (b0_7 : Int) (b0_8 : Int) (b0_9 : (List Int)) (b0_10 : (List (Int × ((List Int) × (Int × Unit))))) (b0_11 : (List Int)) (b0_12 : (List Int)) (b1_0 : Int) (b1_1 : Int) (b1_2 : Int) (b1_3 : Bool) (b1_4 : Int) (b1_5 : (List Int)) (b1_6 : (List (Int × ((List Int) × (Int × Unit))))) (b1_7 : (List (Int × (Int × (Int × (Int × (ByteArray × ((List Int) × (Nat × (Int × Unit)))))))))) (b1_8 : Int) (b1_9 : Int) (b1_10 : Int) (b1_11 : Int) (b1_12 : (List Int)) (b1_13 : Int) (b2_0 : Int) (b2_1 : Int) (b2_2 : Int) (b2_3 : Bool) (b2_4 : Int) (b2_5 : (List Int)) (b2_7 : (List (Int × (Int × (Int × (Int × (ByteArray × ((List Int) × (Nat × (Int × Unit)))))))))) (b2_8 : Int) (b2_9 : Int) (b2_10 : Int) (b2_11 : Int) (b2_12 : (List Int)) (b2_13 : Int) (hl : b0_10.length ≤ 1048576) (hr : ∀ r ∈ b0_10, Vok r.2.1 ∧ r.2.1.length ≤ 1048576 ∧ 0 ≤ r.2.2.1 ∧ r.2.2.1 < 18446744073709551616) : ∀ (d k : Nat) (q : List Rw), k + d = min b0_10.length 64 → q.length = k → (∀ r ∈ q, RwOK r) →
    ∃ q', L11_9 (k : Nat) b0_0 b0_1 b0_2 b0_3 b0_4 b0_5 b0_6 b0_7 b0_8 b0_9 b0_10 b0_11 b0_12 b1_0 b1_1 b1_2 b1_3 b1_4 b1_5 b1_6 b1_7 b1_8 b1_9 b1_10 b1_11 b1_12 b1_13 b2_0 b2_1 b2_2 b2_3 b2_4 b2_5 b2_7 b2_8 b2_9 b2_10 b2_11 b2_12 b2_13 q = some ((), ((b0_0, b0_1, b0_2, b0_3, b0_4, b0_5, b0_6, b0_7, b0_8, b0_9, b0_10, b0_11, b0_12, ()), (b1_0, b1_1, b1_2, b1_3, b1_4, b1_5, b1_6, b1_7, b1_8, b1_9, b1_10, b1_11, b1_12, b1_13, ()), (b2_0, b2_1, b2_2, b2_3, b2_4, b2_5, q', b2_7, b2_8, b2_9, b2_10, b2_11, b2_12, b2_13, ()), ()), ()) ∧ q'.length ≤ 64 ∧ ∀ r ∈ q', RwOK r := by
  intro d
  induction d with
  | zero =>
    intro k q hk hq hs
    rw [L11_9_eq]
    refine ⟨q, ?_, by omega, hs⟩
    unfold T11_9
    by_cases h : (k : Int) < (b0_10.length : Int)
    · rw [decide_eq_true h, show decide ((k : Int) < 64) = false from decide_eq_false (by omega)]; rfl
    · rw [decide_eq_false h]; rfl
  | succ d ih =>
    intro k q hk hq hs
    rw [L11_9_eq]
    unfold T11_9
    have hkl : k < b0_10.length := by omega
    have hg : b0_10.getD ((k : Nat) : Int).toNat ((0 : Int), ([], ((0 : Int), ()))) = b0_10[k] := by
      rw [Int.toNat_natCast, List.getD_eq_getElem?_getD, List.getElem?_eq_getElem hkl]; rfl
    obtain ⟨g1, g2, g3, g4⟩ := hr b0_10[k] (List.getElem_mem hkl)
    have hlim : lim = 1099511627776 := rfl
    have c1 : decide ((k : Int) < (b0_10.length : Int)) = true := decide_eq_true (by omega)
    have c2 : decide ((k : Int) < 64) = true := decide_eq_true (by omega)
    have c3 : decide (0 ≤ (k : Int) ∧ (k : Int) < (b0_10.length : Int)) = true := decide_eq_true (by omega)
    simp only [c1, c2, c3, hg, cond_true]
    generalize b0_10[k] = r at *
    obtain ⟨v, hv, hvl, hvs⟩ := F34_any r.2.1 g1 (by omega)
    rw [hv]
    simp only [Option.bind_some]
    rw [decide_eq_true (by simp only [List.length_cons, List.length_nil]; omega)]
    simp only [cond_true, Option.bind_some, Sum.elim_inl]
    rw [show IntKind.wrap .i64 ((k : Nat) + 1 : Int) = ((k + 1 : Nat) : Int) by rw [w64 (by omega) (by omega)]; rfl]
    refine ih (k + 1) _ (by omega) (by simp [hq]) (fun x hx => ?_)
    rcases List.mem_append.1 hx with hx | hx
    · exact hs x hx
    · simp only [List.mem_singleton] at hx
      subst hx
      exact ⟨(nd64 r.1).1, (nd64 r.1).2, hvs, hvl, (tm63 g3).1, (tm63 g3).2⟩
theorem F11_any (d : Dr) (h : DrOK d) (hb : d.2.2.2.2.2.2.2.2.2.2.2.2.1.length ≤ 1000) : ∃ (k f t : Int) (mine : Bool) (ser : Int) (hv : List Int) (rs : List Rw) (es : List Ev) (tm sz sum at' : Int) (bs : List Int) (why : Int),
    F11 d = some (r1 (k, f, t, mine, ser, hv, rs, es, tm, sz, sum, at', bs, why, ())) ∧ LOK k f t mine ser hv rs es tm sz sum at' bs why := by
  have hk := md7 h.k
  have hf := md64 h.f
  have ht := md64 h.t
  have hs := tm63 h.s.1
  have htm := tm63 h.tm.1
  have hsz := h.sz
  have hat := h.at'
  have hw := h.w
  unfold F11
  generalize hk0 : IntKind.wrap .u8 (1 + d.1.tmod 7) = k0 at *
  generalize hf0 : IntKind.wrap .i64 (d.2.1.tmod 64) = f0 at *
  generalize ht0 : IntKind.wrap .i64 (d.2.2.1.tmod 64) = t0 at *
  generalize hs0 : d.2.2.2.2.2.1.tmod 9223372036854775808 = s0 at *
  generalize htm0 : d.2.2.2.2.2.2.1.tmod 9223372036854775808 = tm0 at *
  rw [wu64 (n := d.2.2.2.2.2.2.2.1) (by omega) (by omega), wu64 (n := d.2.2.2.2.2.2.2.2.1) (by omega) (by omega), w64 (n := d.2.2.2.1) (by omega) (by omega)]
  simp only [Bool.cond_eq_ite, beq_iff_eq]
  split
  · rename_i hk1
    obtain ⟨v, hv, hvl, hvs⟩ := F34_any d.2.2.2.2.2.2.2.2.2.1 h.hv (by have := h.hl; omega)
    rw [hv]
    simp only [Option.bind_some]
    obtain ⟨q', g1, g2, g3⟩ := L11_run d.1 d.2.1 d.2.2.1 d.2.2.2.1 d.2.2.2.2.1 d.2.2.2.2.2.1 d.2.2.2.2.2.2.1 d.2.2.2.2.2.2.2.1 d.2.2.2.2.2.2.2.2.1 d.2.2.2.2.2.2.2.2.2.1 d.2.2.2.2.2.2.2.2.2.2.1 d.2.2.2.2.2.2.2.2.2.2.2.1 d.2.2.2.2.2.2.2.2.2.2.2.2.1 0 0 0 false 0 [] [] [] 0 0 0 0 [] 0 k0 f0 t0 d.2.2.2.2.1 s0 v [] 0 0 0 0 [] 0 h.rl h.r (min d.2.2.2.2.2.2.2.2.2.2.1.length 64) 0 [] (by omega) rfl (fun x hx => by cases hx)
    rw [show ((0 : Nat) : Int) = 0 from rfl] at g1
    rw [g1]
    exact ⟨k0, f0, t0, d.2.2.2.2.1, s0, v, q', [], 0, 0, 0, 0, [], 0, rfl, hk.1, hk.2, hf.1, hf.2, ht.1, ht.2, hs.1, hs.2, hvs, hvl, g3, g2, fun e he => (by cases he), by simp, by omega, by omega, by omega, by omega, by omega, by omega, by omega, by omega, fun x hx => (by cases hx), by simp, by omega, by omega⟩
  split
  · rename_i hk2
    obtain ⟨v, hv, hvl, hvs⟩ := F34_any d.2.2.2.2.2.2.2.2.2.1 h.hv (by have := h.hl; omega)
    rw [hv]
    simp only [Option.bind_some]
    obtain ⟨q', g1, g2, g3⟩ := L11_run d.1 d.2.1 d.2.2.1 d.2.2.2.1 d.2.2.2.2.1 d.2.2.2.2.2.1 d.2.2.2.2.2.2.1 d.2.2.2.2.2.2.2.1 d.2.2.2.2.2.2.2.2.1 d.2.2.2.2.2.2.2.2.2.1 d.2.2.2.2.2.2.2.2.2.2.1 d.2.2.2.2.2.2.2.2.2.2.2.1 d.2.2.2.2.2.2.2.2.2.2.2.2.1 0 0 0 false 0 [] [] [] 0 0 0 0 [] 0 k0 f0 t0 d.2.2.2.2.1 s0 v [] 0 0 0 0 [] 0 h.rl h.r (min d.2.2.2.2.2.2.2.2.2.2.1.length 64) 0 [] (by omega) rfl (fun x hx => by cases hx)
    rw [show ((0 : Nat) : Int) = 0 from rfl] at g1
    rw [g1]
    exact ⟨k0, f0, t0, d.2.2.2.2.1, s0, v, q', [], 0, 0, 0, 0, [], 0, rfl, hk.1, hk.2, hf.1, hf.2, ht.1, ht.2, hs.1, hs.2, hvs, hvl, g3, g2, fun e he => (by cases he), by simp, by omega, by omega, by omega, by omega, by omega, by omega, by omega, by omega, fun x hx => (by cases hx), by simp, by omega, by omega⟩
  split
  · rename_i hk4
    obtain ⟨v, hv, hvl, hvs⟩ := F34_any d.2.2.2.2.2.2.2.2.2.1 h.hv (by have := h.hl; omega)
    rw [hv]
    simp only [Option.bind_some]
    obtain ⟨q', g1, g2, g3⟩ := L11_run d.1 d.2.1 d.2.2.1 d.2.2.2.1 d.2.2.2.2.1 d.2.2.2.2.2.1 d.2.2.2.2.2.2.1 d.2.2.2.2.2.2.2.1 d.2.2.2.2.2.2.2.2.1 d.2.2.2.2.2.2.2.2.2.1 d.2.2.2.2.2.2.2.2.2.2.1 d.2.2.2.2.2.2.2.2.2.2.2.1 d.2.2.2.2.2.2.2.2.2.2.2.2.1 0 0 0 false 0 [] [] [] 0 0 0 0 [] 0 k0 f0 t0 d.2.2.2.2.1 s0 v [] 0 0 0 0 [] 0 h.rl h.r (min d.2.2.2.2.2.2.2.2.2.2.1.length 64) 0 [] (by omega) rfl (fun x hx => by cases hx)
    rw [show ((0 : Nat) : Int) = 0 from rfl] at g1
    rw [g1]
    exact ⟨k0, f0, t0, d.2.2.2.2.1, s0, v, q', [], 0, 0, 0, 0, [], 0, rfl, hk.1, hk.2, hf.1, hf.2, ht.1, ht.2, hs.1, hs.2, hvs, hvl, g3, g2, fun e he => (by cases he), by simp, by omega, by omega, by omega, by omega, by omega, by omega, by omega, by omega, fun x hx => (by cases hx), by simp, by omega, by omega⟩
  split
  · obtain ⟨v, hv, hvl, hvs⟩ := F34_any d.2.2.2.2.2.2.2.2.2.1 h.hv (by have := h.hl; omega)
    obtain ⟨b', q0, q1, q2, hF, f0', f1', f2'⟩ := F36_feeds d.2.2.2.2.2.2.2.2.2.2.2.1 h.e
    rw [hv, hF]
    simp only [Option.bind_some]
    obtain ⟨es, g1, g2, g3⟩ := F35_any [q0, q1, q2] EvR (by
      intro q hq
      simp only [List.mem_cons, List.not_mem_nil, or_false] at hq
      rcases hq with rfl | rfl | rfl
      · exact EvF.ok (by omega) f0' (Nat.le_refl _)
      · exact EvF.ok (by omega) f1' (Nat.le_refl _)
      · exact EvF.ok (by omega) f2' (Nat.le_refl _)) (by simp) (by
      intro q hq
      simp only [List.mem_cons, List.not_mem_nil, or_false] at hq
      rcases hq with rfl | rfl | rfl
      · exact f0'.len
      · exact f1'.len
      · exact f2'.len)
    rw [g1]
    simp only [List.length_cons, List.length_nil] at g2
    exact ⟨k0, f0, t0, d.2.2.2.2.1, s0, v, [], es, 0, 0, 0, 0, [], 0, rfl, hk.1, hk.2, hf.1, hf.2, ht.1, ht.2, hs.1, hs.2, hvs, hvl, fun x hx => (by cases hx), by simp, g3, by omega, by omega, by omega, by omega, by omega, by omega, by omega, by omega, by omega, fun x hx => (by cases hx), by simp, by omega, by omega⟩
  split
  · obtain ⟨v, hv, hvl, hvs⟩ := F34_any d.2.2.2.2.2.2.2.2.2.1 h.hv (by have := h.hl; omega)
    rw [hv]
    exact ⟨_, _, _, _, _, _, _, _, _, _, _, _, _, _, rfl, hk.1, hk.2, hf.1, hf.2, ht.1, ht.2, hs.1, hs.2, hvs, hvl, fun x hx => (by cases hx), by simp, fun x hx => (by cases hx), by simp, by omega, by omega, by omega, by omega, by omega, by omega, by omega, by omega, fun x hx => (by cases hx), by simp, by omega, by omega⟩
  split
  · exact ⟨_, _, _, _, _, _, _, _, _, _, _, _, _, _, rfl, hk.1, hk.2, hf.1, hf.2, ht.1, ht.2, hs.1, hs.2, fun x hx => (by cases hx), by simp, fun x hx => (by cases hx), by simp, fun x hx => (by cases hx), by simp, by omega, by omega, by omega, by omega, by omega, by omega, by omega, by omega, h.b, hb, by omega, by omega⟩
  · exact ⟨_, _, _, _, _, _, _, _, _, _, _, _, _, _, rfl, hk.1, hk.2, hf.1, hf.2, ht.1, ht.2, hs.1, hs.2, fun x hx => (by cases hx), by simp, fun x hx => (by cases hx), by simp, fun x hx => (by cases hx), by simp, by omega, by omega, by omega, by omega, by omega, by omega, by omega, by omega, fun x hx => (by cases hx), by simp, by omega, by omega⟩
end Go.IM.V
namespace Go.IM.V
open Go Go.IM Go.Proofs
theorem dec_err {xs : List Int} {e : Int} (hb : Bys xs) (hl : xs.length < 200000000) (h : opn 4194304 xs = .inr e) : ∃ x : Lt, F12 xs = some ((x, e, ()), (), ()) := by
  unfold F12
  rw [F37_eq xs _ hb (lt_lim hl) (by decide), h]
  simp only [Option.bind_some]
  have he := opn_err h
  rw [show (e != 0) = true from bne_iff_ne.2 (by omega)]
  exact ⟨_, rfl⟩
theorem dec_more {xs s r : List Int} (hb : Bys xs) (hl : xs.length < 200000000) (h : opn 4194304 xs = .inl (s, r)) (hr : r ≠ []) : ∃ x : Lt, F12 xs = some ((x, 4, ()), (), ()) := by
  unfold F12
  rw [F37_eq xs _ hb (lt_lim hl) (by decide), h]
  simp only [Option.bind_some, cif]
  rw [show ((0 : Int) != 0) = false from rfl]
  simp only [cond_false]
  have : 0 < r.length := List.length_pos_iff.2 hr
  rw [if_pos (by omega)]
  exact ⟨_, rfl⟩
theorem turn_at {n : Nat} (hn : 0 < n) {a : Int} (ha : 0 ≤ a ∧ a < 65536) : ∃ k : Nat, k < n ∧ (IntKind.wrap .i64 a).tmod (n : Int) = (k : Int) := by
  rw [w64 (by omega) (by omega), Int.tmod_eq_emod_of_nonneg ha.1]
  have h1 := Int.emod_nonneg a (show (n : Int) ≠ 0 by omega)
  have h2 := Int.emod_lt_of_pos a (show 0 < (n : Int) by omega)
  exact ⟨(a % n).toNat, by omega, by omega⟩
theorem xor8 (a b : Int) : 0 ≤ iXor .u8 a b ∧ iXor .u8 a b < 256 := by
  unfold iXor
  rw [wu8_mod]
  omega
theorem xor_ne' {a b : Int} (ha : 0 ≤ a ∧ a < 256) (hb : 0 ≤ b ∧ b < 256) (h : b ≠ 0) : (0 ≤ iXor .u8 a b ∧ iXor .u8 a b < 256) ∧ iXor .u8 a b ≠ a := by
  obtain ⟨m, rfl⟩ := Int.eq_ofNat_of_zero_le ha.1
  obtain ⟨n, rfl⟩ := Int.eq_ofNat_of_zero_le hb.1
  unfold iXor
  rw [show IntKind.bits .u8 = 8 from rfl, BitVec.ofInt_natCast, BitVec.ofInt_natCast]
  have hm : (BitVec.ofNat 8 m).toNat = m := by rw [BitVec.toNat_ofNat]; omega
  have hn : (BitVec.ofNat 8 n).toNat = n := by rw [BitVec.toNat_ofNat]; omega
  generalize hx : BitVec.ofNat 8 m = x at *
  generalize hy : BitVec.ofNat 8 n = y at *
  have hlt := (x ^^^ y).isLt
  rw [wu8_mod, Int.emod_eq_of_lt (by omega) (by omega)]
  refine ⟨by omega, fun e => h ?_⟩
  have e2 : x ^^^ y = x := BitVec.eq_of_toNat_eq (by omega)
  have e3 : y = 0#8 := by
    have := congrArg (fun z => x ^^^ z) e2
    simpa [← BitVec.xor_assoc] using this
  rw [e3] at hn
  simp at hn
  omega
theorem letterTurned_pure (d : Dr) (a1 a2 a3 a4 : Int) (h : DrOK d) (h1 : 0 ≤ a1 ∧ a1 < 65536) (h2 : 0 ≤ a2 ∧ a2 < 256) (h3 : 0 ≤ a3 ∧ a3 < 65536) (h4 : 0 ≤ a4 ∧ a4 < 256) : F3 d a1 a2 a3 a4 = some (r1 true) := by
  unfold F3
  rw [F8_eq]
  simp only [Option.bind_some, Bool.not_true, cond_false]
  obtain ⟨b, hb, hb2⟩ := F9_any d h
  have hb' : F9 (d.1, (d.2.1, (d.2.2.1, (d.2.2.2.1, (d.2.2.2.2.1, (d.2.2.2.2.2.1, (d.2.2.2.2.2.2.1, (d.2.2.2.2.2.2.2.1, (d.2.2.2.2.2.2.2.2.1, (d.2.2.2.2.2.2.2.2.2.1, (d.2.2.2.2.2.2.2.2.2.2.1, (d.2.2.2.2.2.2.2.2.2.2.2.1, (d.2.2.2.2.2.2.2.2.2.2.2.2.1, ()))))))))))))) = some (r1 b) := hb
  rw [hb']
  simp only [Option.bind_some]
  cases b with
  | false => rfl
  | true =>
  simp only [Bool.not_true, cond_false]
  cases hz : (a2 == 0) with
  | true => rfl
  | false =>
  have hz' : a2 ≠ 0 := by simpa using hz
  simp only [cond_false]
  obtain ⟨k, f, t, mine, ser, hv, rs, es, tm, sz, sum, at', bs, why, hF, hL⟩ := F11_any d h (hb2 rfl)
  have hF' : F11 (d.1, (d.2.1, (d.2.2.1, (d.2.2.2.1, (d.2.2.2.2.1, (d.2.2.2.2.2.1, (d.2.2.2.2.2.2.1, (d.2.2.2.2.2.2.2.1, (d.2.2.2.2.2.2.2.2.1, (d.2.2.2.2.2.2.2.2.2.1, (d.2.2.2.2.2.2.2.2.2.2.1, (d.2.2.2.2.2.2.2.2.2.2.2.1, (d.2.2.2.2.2.2.2.2.2.2.2.2.1, ()))))))))))))) = _ := hF
  rw [hF']
  simp only [Option.bind_some]
  unfold F10h
  rw [F10_ok hL]
  obtain ⟨hby, hbl⟩ := bodyL_ok hL
  have hbr := rcd_byte hby (by omega)
  have hlr := rcd_len (bodyL k f t mine ser hv rs es tm sz sum at' bs why)
  have hdl := dg_len ((bodyL k f t mine ser hv rs es tm sz sum at' bs why).length : Int)
  have hcut := fun {j : Nat} => opn_cut4 (p := bodyL k f t mine ser hv rs es tm sz sum at' bs why) (by omega) (k := j)
  have happ := opn_app (t := bodyL k f t mine ser hv rs es tm sz sum at' bs why) (rest := [a4]) (most := 4194304) (by omega) (by omega)
  have hturn := fun {i : Nat} {x : Int} hx hi hne {b r : List Int} => opn_turn4 (p := bodyL k f t mine ser hv rs es tm sz sum at' bs why) hby (by omega) (i := i) (x := x) hx hi hne (b := b) (r := r)
  generalize rcd (bodyL k f t mine ser hv rs es tm sz sum at' bs why) = p at *
  have hpos : 0 < p.length := by omega
  have hne : List.isEmpty (α := Int) p = false := by
    cases p with
    | nil => simp at hpos
    | cons => rfl
  simp only [Option.bind_some, hne, cond_false]
  obtain ⟨c, hc, ec⟩ := turn_at hpos h3
  obtain ⟨i, hi, ei⟩ := turn_at hpos h1
  have q1 : decide (((p.length : Nat) : Int) ≠ 0) = true := decide_eq_true (by omega)
  have q2 : decide (0 ≤ ((c : Nat) : Int) ∧ ((c : Nat) : Int) ≤ ((p.length : Nat) : Int)) = true := decide_eq_true (by omega)
  have q3 : decide (0 ≤ ((p.length : Nat) : Int) ∧ ((p.length : Nat) : Int) ≤ ((p.length : Nat) : Int)) = true := decide_eq_true (by omega)
  have q4 : decide (((p.length : Nat) : Int) = ((p.length : Nat) : Int)) = true := decide_eq_true rfl
  have q6 : decide (0 ≤ ((i : Nat) : Int) ∧ ((i : Nat) : Int) < ((p.length : Nat) : Int)) = true := decide_eq_true (by omega)
  have q7 : decide (((i : Nat) : Int).toNat < p.length) = true := decide_eq_true (by omega)
  simp only [ec, ei, q1, q2, q3, q4, q6, q7, cond_true, Bool.and_true]
  have hlim : lim = 1099511627776 := rfl
  obtain ⟨x1, e1⟩ := dec_err (xs := p.take c) (fun x hx => hbr x (List.mem_of_mem_take hx)) (by rw [List.length_take]; omega) (hcut hc)
  have s1 : ((p.drop 0).take (((c : Nat) : Int).toNat - 0)) = p.take c := by rw [List.drop_zero, Int.toNat_natCast, Nat.sub_zero]
  have s2 : ((p.drop 0).take (((p.length : Nat) : Int).toNat - 0)) = p := by rw [List.drop_zero, Int.toNat_natCast, Nat.sub_zero, List.take_length]
  rw [s1, e1]
  simp only [Option.bind_some]
  rw [s2]
  have q8 : decide (0 < [a4].length ∧ ((p.length : Nat) : Int).toNat - 0 + [a4].length < lim) = true := decide_eq_true (by simp only [List.length_cons, List.length_nil, Int.toNat_natCast]; omega)
  simp only [decide_true, Bool.and_self, cond_true, q8]
  obtain ⟨x2, e2⟩ := dec_more (xs := p ++ [a4]) (hbr.app (fun x hx => by simp only [List.mem_singleton] at hx; omega)) (by simp only [List.length_append, List.length_cons, List.length_nil]; omega) happ (by simp)
  rw [e2]
  simp only [Option.bind_some, Int.toNat_natCast]
  have hgi : p.getD i 0 = p[i] := by rw [List.getD_eq_getElem?_getD, List.getElem?_eq_getElem hi]; rfl
  rw [hgi]
  have hpi := hbr p[i] (List.getElem_mem hi)
  have hx8 := xor8 p[i] a2
  have hxn := (xor_ne' hpi h2 hz').2
  have hbt : Bys (p.set i (iXor .u8 p[i] a2)) := fun y hy => by
    rcases List.mem_or_eq_of_mem_set hy with q | rfl
    · exact hbr y q
    · exact hx8
  have e3 : ∃ (x3 : Lt) (e : Int), e ≠ 0 ∧ F12 (p.set i (iXor .u8 p[i] a2)) = some ((x3, e, ()), (), ()) := by
    cases ho : opn 4194304 (p.set i (iXor .u8 p[i] a2)) with
    | inr e =>
      obtain ⟨x3, hx3⟩ := dec_err hbt (by rw [List.length_set]; omega) ho
      have := opn_err ho
      exact ⟨x3, e, by omega, hx3⟩
    | inl q =>
      obtain ⟨b, r⟩ := q
      obtain ⟨x3, hx3⟩ := dec_more hbt (by rw [List.length_set]; omega) ho (hturn hx8 hi hxn ho).1
      exact ⟨x3, 4, by omega, hx3⟩
  obtain ⟨x3, e, hne3, e3⟩ := e3
  rw [e3]
  simp only [Option.bind_some]
  rw [show ((5 : Int) == 5) = true from rfl, show ((4 : Int) == 4) = true from rfl, show (e != 0) = true from bne_iff_ne.2 hne3]
  rfl
end Go.IM.V