/- What the code of a law comes to, and what that tells: part 2. Lemmas alone; no conditions. -/
import Derived.Test.YtinknnimmpcddaaImRowE4P1
import Derived.Test.YtinknnimmpcddaaImM2
/- Digits, vectors, events: what the printed functions tell. -/
set_option linter.unusedVariables false
set_option linter.unusedSimpArgs false
set_option linter.constructorNameAsVariable false
namespace Go.IM.V
open Go Go.IM Go.Proofs

/-- The numbers of a vector: none below nought. -/
def Vok (v : List Int) : Prop := ∀ x ∈ v, 0 ≤ x ∧ x < 18446744073709551616
abbrev gv (v : List Int) (k : Nat) : Int := v.getD k 0
theorem Vok.gv {v : List Int} (h : Vok v) (k : Nat) : 0 ≤ gv v k ∧ gv v k < 18446744073709551616 := by
  unfold V.gv
  rw [List.getD_eq_getElem?_getD]
  rcases Nat.lt_or_ge k v.length with hk | hk
  · rw [List.getElem?_eq_getElem hk]; exact h _ (List.getElem_mem hk)
  · rw [List.getElem?_eq_none hk]; simp
theorem gv_ge {v : List Int} {k : Nat} (h : v.length ≤ k) : gv v k = 0 := by
  unfold gv; rw [List.getD_eq_getElem?_getD, List.getElem?_eq_none h]; rfl

theorem F55_nat (v : List Int) (k : Nat) : F55 v (k : Int) = some (r1 (gv v k)) := by
  unfold F55
  simp only [cif]
  rw [if_neg (by omega)]
  by_cases h : v.length ≤ k
  · rw [if_pos (by omega), gv_ge h]
  · rw [if_neg (by omega), if_pos (by omega), Int.toNat_natCast]
theorem F82_nat (v : List Int) (k : Nat) : F82 v (k : Int) = some (r1 (gv v k)) := F55_nat v k


/-! ### Trim -/
theorem F79_eq (a : List Int) (h : a.length < 2 ^ 39) : F79 a = some (r1 a) := by
  unfold F79
  refine nilBr_of ?_ (fun h0 => ?_)
  · rw [cif, if_pos (by unfold lim; simp; omega)]; rfl
  · rw [List.eq_nil_of_length_eq_zero h0]
def trimN (a : List Int) : Nat → Nat
  | 0 => 0
  | n + 1 => if gv a n = 0 then trimN a n else n + 1
theorem trimN_le (a : List Int) : ∀ n, trimN a n ≤ n := by
  intro n
  induction n with
  | zero => exact Nat.le_refl _
  | succ n ih => simp only [trimN]; split <;> omega
theorem trimN_nz (a : List Int) : ∀ n, trimN a n = 0 ∨ gv a (trimN a n - 1) ≠ 0 := by
  intro n
  induction n with
  | zero => exact .inl rfl
  | succ n ih =>
    simp only [trimN]
    split
    · exact ih
    · rename_i h; exact .inr (by simpa using h)
theorem trimN_z (a : List Int) : ∀ n k, trimN a n ≤ k → k < n → gv a k = 0 := by
  intro n
  induction n with
  | zero => intro k _ h; omega
  | succ n ih =>
    intro k h1 h2
    simp only [trimN] at h1
    split at h1
    · rename_i h
      rcases Nat.lt_or_ge k n with q | q
      · exact ih k h1 q
      · obtain rfl : k = n := by omega
        exact h
    · omega
def trim (a : List Int) : List Int := a.take (trimN a a.length)
theorem L62_run (a : List Int) (hn : a.length < 2 ^ 39) : ∀ k, k ≤ a.length → L62_2 a (k : Nat) = some (r1 ((trimN a k : Nat) : Int)) := by
  intro k
  induction k with
  | zero =>
    intro _
    rw [L62_2_eq]
    simp only [T62_2, cif]
    rw [if_neg (by omega)]
    rfl
  | succ k ih =>
    intro hk
    rw [L62_2_eq]
    have hw : IntKind.wrap .i64 (((k + 1 : Nat) : Int) - 1) = (k : Int) := by rw [w64 (by omega) (by omega)]; omega
    simp only [T62_2, cif]
    rw [hw, if_pos (by omega), if_pos (by omega)]
    simp only [Int.toNat_natCast]
    by_cases h : gv a k = 0
    · have hb : (a.getD k 0 == 0) = true := by simpa using h
      rw [hb]
      simp only [cond_true, Option.bind_some, Sum.elim_inl]
      rw [ih (by omega)]
      simp only [trimN]
      rw [if_pos h]
    · have hb : (a.getD k 0 == 0) = false := by simpa using h
      rw [hb]
      simp only [cond_false, Option.bind_some, Sum.elim_inr, trimN]
      rw [if_neg h]
theorem F62_eq (a : List Int) (hn : a.length < 2 ^ 39) : F62 a = some (r1 (trim a)) := by
  unfold F62
  rw [L62_run a hn a.length (Nat.le_refl _)]
  have := trimN_le a a.length
  simp only [Option.bind_some, cif]
  rw [if_pos (by omega), Int.toNat_natCast, F79_eq _ (by rw [List.length_take]; omega)]
  rfl
theorem gv_trim (a : List Int) (k : Nat) : gv (trim a) k = gv a k := by
  unfold trim
  rcases Nat.lt_or_ge k (trimN a a.length) with h | h
  · unfold gv; rw [List.getD_eq_getElem?_getD, List.getD_eq_getElem?_getD, List.getElem?_take, if_pos h]
  · rw [gv_ge (by rw [List.length_take]; omega)]
    rcases Nat.lt_or_ge k a.length with h2 | h2
    · exact (trimN_z a a.length k h h2).symm
    · exact (gv_ge h2).symm
theorem trim_len (a : List Int) : (trim a).length = trimN a a.length := by
  unfold trim; rw [List.length_take]; have := trimN_le a a.length; omega


theorem trim_last (a : List Int) : (trim a).length = 0 ∨ gv (trim a) ((trim a).length - 1) ≠ 0 := by
  rw [gv_trim, trim_len]
  exact trimN_nz a a.length

/-- A number as digits: seven bits each, the lowest first. -/
def dgF : Nat → Int → List Int
  | 0, n => [n]
  | f + 1, n => if n < 128 then [n] else (128 + n % 128) :: dgF f (n / 128)
def dg (n : Int) : List Int := dgF 9 n
theorem dgF_len : ∀ (f : Nat) (n : Int), (dgF f n).length ≤ f + 1
  | 0, _ => by simp [dgF]
  | f + 1, n => by
    unfold dgF
    split
    · simp
    · have := dgF_len f (n / 128); simp; omega
theorem dg_len (n : Int) : (dg n).length ≤ 10 := dgF_len 9 n
theorem dgF_lt {f : Nat} {n : Int} (h : n < 128) : dgF f n = [n] := by
  cases f with
  | zero => rfl
  | succ f => unfold dgF; rw [if_pos h]
theorem or128' : ∀ a : Fin 256, iOr .u8 (a.val : Int) 128 = 128 + (a.val : Int) % 128 := by decide +kernel
theorem or128 (n : Int) : iOr .u8 (IntKind.wrap .u8 n) 128 = 128 + n % 128 := by
  rw [wu8_mod]
  have := or128' ⟨(n % 256).toNat, by omega⟩
  simp only at this
  rw [show (((n % 256).toNat : Nat) : Int) = n % 256 from by omega] at this
  rw [this]; omega
theorem shr7 {n : Int} (h : 0 ≤ n) : iShr .u64 n 7 = n / 128 := by
  unfold iShr
  show n.fdiv (2 ^ 7) = _
  rw [Int.fdiv_eq_ediv_of_nonneg _ (by omega)]
  rfl

theorem L51_run : ∀ (f : Nat) (n : Int) (q : List Int), 0 ≤ n → n < 128 ^ (f + 1) → q.length + f < lim →
    ∃ n' p, L51_1 n q = some (((), n', ()), (), (q ++ p, ())) ∧ 0 ≤ n' ∧ n' < 128 ∧ p ++ [n'] = dgF f n ∧ p.length ≤ f := by
  intro f
  induction f with
  | zero =>
    intro n q h0 h1 hq
    refine ⟨n, [], ?_, h0, by omega, rfl, by simp⟩
    rw [L51_1_eq]
    simp only [T51_1, cif]
    rw [if_neg (by omega)]
    simp
  | succ f ih =>
    intro n q h0 h1 hq
    by_cases hn : n < 128
    · refine ⟨n, [], ?_, h0, hn, by rw [dgF_lt hn]; rfl, by simp⟩
      rw [L51_1_eq]
      simp only [T51_1, cif]
      rw [if_neg (by omega)]
      simp
    · have hl : (q ++ [128 + n % 128]).length = q.length + 1 := by simp
      obtain ⟨n', p, e, a, b, c, d⟩ := ih (n / 128) (q ++ [128 + n % 128]) (by omega) (by rw [Int.pow_succ] at h1; omega) (by rw [hl]; omega)
      refine ⟨n', (128 + n % 128) :: p, ?_, a, b, ?_, by simp; omega⟩
      · rw [L51_1_eq]
        simp only [T51_1, cif]
        rw [if_pos (by omega), if_pos (by simp; omega), or128, shr7 h0]
        simp only [Option.bind_some, Sum.elim_inl]
        rw [e]
        simp
      · rw [dgF, if_neg hn, List.cons_append, c]
theorem F51_eq (n : Int) (q : List Int) (h0 : 0 ≤ n) (h1 : n < 18446744073709551616) (hq : q.length + 10 < lim) : F51 n q = some (ro (q ++ dg n)) := by
  obtain ⟨n', p, e, a, b, c, d⟩ := L51_run 9 n q h0 (by rw [show (128 : Int) ^ (9 + 1) = 1180591620717411303424 from by decide]; omega) (by omega)
  unfold F51
  rw [e]
  simp only [Option.bind_some, cif]
  rw [if_pos (by simp; omega), wu8_mod, Int.emod_eq_of_lt a (by omega), List.append_assoc, c]
  rfl
theorem L26_run : ∀ (f : Nat) (n : Int) (q : List Int), 0 ≤ n → n < 18446744073709551616 → n < 128 ^ (f + 1) → q.length + f < lim →
    ∃ n' p, L26_3 n q = some ((n', (), ()), (), (q ++ p, ())) ∧ 0 ≤ n' ∧ n' < 128 ∧ p ++ [n'] = dgF f n ∧ p.length ≤ f := by
  intro f
  induction f with
  | zero =>
    intro n q h0 h2 h1 hq
    refine ⟨n, [], ?_, h0, by omega, rfl, by simp⟩
    rw [L26_3_eq]
    simp only [T26_3, cif]
    rw [if_neg (by omega)]
    simp
  | succ f ih =>
    intro n q h0 h2 h1 hq
    by_cases hn : n < 128
    · refine ⟨n, [], ?_, h0, hn, by rw [dgF_lt hn]; rfl, by simp⟩
      rw [L26_3_eq]
      simp only [T26_3, cif]
      rw [if_neg (by omega)]
      simp
    · have hl : (q ++ [128 + n % 128]).length = q.length + 1 := by simp
      obtain ⟨n', p, e, a, b, c, d⟩ := ih (n / 128) (q ++ [128 + n % 128]) (by omega) (by omega) (by rw [Int.pow_succ] at h1; omega) (by rw [hl]; omega)
      refine ⟨n', (128 + n % 128) :: p, ?_, a, b, ?_, by simp; omega⟩
      · rw [L26_3_eq]
        simp only [T26_3, cif]
        rw [if_pos (by omega), if_pos (by simp; omega), Int.tmod_eq_emod_of_nonneg h0, Int.tdiv_eq_ediv_of_nonneg h0, wu64 (n := 128 + n % 128) (by omega) (by omega),
          wu8_mod, Int.emod_eq_of_lt (a := 128 + n % 128) (by omega) (by omega), wu64 (n := n / 128) (by omega) (by omega)]
        simp only [Option.bind_some, Sum.elim_inl]
        rw [e]
        simp
      · rw [dgF, if_neg hn, List.cons_append, c]
theorem F26_eq (q : List Int) (n : Int) (h0 : 0 ≤ n) (h1 : n < 18446744073709551616) (hq : q.length + 10 < lim) : F26 q n = some (ro (q ++ dg n)) := by
  obtain ⟨n', p, e, a, b, c, d⟩ := L26_run 9 n q h0 h1 (by rw [show (128 : Int) ^ (9 + 1) = 1180591620717411303424 from by decide]; omega) (by omega)
  unfold F26
  simp only [cif]
  rw [if_pos (by omega), e]
  simp only [Option.bind_some, cif]
  rw [if_pos (by simp; omega), wu8_mod, Int.emod_eq_of_lt a (by omega), List.append_assoc, c]
  rfl

/-- A text: how many bytes, and they. -/
def dgT (t : List Int) : List Int := dg t.length ++ t
theorem dgT_len (t : List Int) : (dgT t).length ≤ 10 + t.length := by unfold dgT; have := dg_len t.length; simp; omega
theorem F52_eq (t q : List Int) (ht : t.length < 4294967296) (hq : q.length + t.length + 10 < lim) : F52 t q = some (ro (q ++ dgT t)) := by
  unfold F52
  rw [wu64 (by omega) (by omega), F51_eq _ _ (by omega) (by omega) (by omega)]
  have := dg_len t.length
  simp only [Option.bind_some, cif]
  rw [if_pos (by simp; omega), List.append_assoc]
  rfl
theorem F27_eq (q t : List Int) (ht : t.length < 4294967296) (hq : q.length + t.length + 10 < lim) : F27 q t = some (ro (q ++ dgT t)) := by
  unfold F27
  rw [wu64 (by omega) (by omega), F26_eq _ _ (by omega) (by omega) (by omega)]
  have := dg_len t.length
  simp only [Option.bind_some, cif]
  rw [if_pos (by simp; omega), List.append_assoc]
  rfl

/-- A number in eight bytes, the highest first; the last k of these. -/
def fixF (n : Int) : Nat → List Int
  | 0 => []
  | k + 1 => (n / 256 ^ k) % 256 :: fixF n k
def fix8 (n : Int) : List Int := fixF n 8
theorem fixF_len (n : Int) : ∀ k, (fixF n k).length = k
  | 0 => rfl
  | k + 1 => by simp [fixF, fixF_len n k]
theorem shr8 {n : Int} (h : 0 ≤ n) (k : Nat) (hk : k < 8) : IntKind.wrap .u8 (iShr .u64 n ((8 * k : Nat) : Int)) = (n / 256 ^ k) % 256 := by
  rw [wu8_mod]
  unfold iShr
  rw [Int.toNat_natCast, Nat.min_eq_left (by show 8 * k ≤ 64; omega), Int.fdiv_eq_ediv_of_nonneg _ (by exact Int.le_of_lt (Int.pow_pos (by decide))), Int.pow_mul]
  rfl
theorem L83_run (n : Int) (h0 : 0 ≤ n) : ∀ (k : Nat) (q : List Int), k ≤ 8 → q.length + k < lim → L83_2 n ((k : Int) - 1) q = some (((), ()), (), (q ++ fixF n k, ())) := by
  intro k
  induction k with
  | zero =>
    intro q hk hq
    rw [L83_2_eq]
    simp only [T83_2, cif]
    rw [if_neg (by omega)]
    simp [fixF]
  | succ k ih =>
    intro q hk hq
    rw [L83_2_eq]
    simp only [T83_2, cif]
    have hw : IntKind.wrap .i64 (8 * (((k + 1 : Nat) : Int) - 1)) = ((8 * k : Nat) : Int) := by rw [w64 (by omega) (by omega)]; omega
    have hw2 : IntKind.wrap .i64 (((k + 1 : Nat) : Int) - 1 - 1) = (k : Int) - 1 := by rw [w64 (by omega) (by omega)]; omega
    rw [if_pos (by omega), hw, hw2, shr8 h0 k (by omega), if_pos (by omega), if_pos (by simp; omega)]
    simp only [Option.bind_some, Sum.elim_inl]
    rw [ih (q ++ [(n / 256 ^ k) % 256]) (by omega) (by simp; omega)]
    simp [fixF]
theorem F83_eq (n : Int) (q : List Int) (h0 : 0 ≤ n) (hq : q.length + 8 < lim) : F83 n q = some (ro (q ++ fix8 n)) := by
  unfold F83
  have := L83_run n h0 8 q (by omega) hq
  rw [show ((8 : Nat) : Int) - 1 = 7 from rfl] at this
  rw [this]
  rfl
theorem L67_run (n : Int) (h0 : 0 ≤ n) : ∀ (k : Nat) (q : List Int), k ≤ 8 → q.length + k < lim → L67_4 n (8 - (k : Int)) q = some (((), ()), (), (q ++ fixF n k, ())) := by
  intro k
  induction k with
  | zero =>
    intro q hk hq
    rw [L67_4_eq]
    simp only [T67_4, cif]
    rw [if_neg (by omega)]
    simp [fixF]
  | succ k ih =>
    intro q hk hq
    rw [L67_4_eq]
    simp only [T67_4, cif]
    have hw : IntKind.wrap .i64 (56 - IntKind.wrap .i64 (8 * (8 - ((k + 1 : Nat) : Int)))) = ((8 * k : Nat) : Int) := by
      rw [w64 (n := 8 * (8 - ((k + 1 : Nat) : Int))) (by omega) (by omega), w64 (by omega) (by omega)]; omega
    have hw2 : IntKind.wrap .i64 (8 - ((k + 1 : Nat) : Int) + 1) = 8 - (k : Int) := by rw [w64 (by omega) (by omega)]; omega
    rw [if_pos (by omega), hw, hw2, shr8 h0 k (by omega), if_pos (by omega), if_pos (by simp; omega)]
    simp only [Option.bind_some, Sum.elim_inl]
    rw [ih (q ++ [(n / 256 ^ k) % 256]) (by omega) (by simp; omega)]
    simp [fixF]
theorem F67_eq (q : List Int) (n : Int) (h0 : 0 ≤ n) (hq : q.length + 8 < lim) : F67 q n = some (ro (q ++ fix8 n)) := by
  unfold F67
  simp only [cif]
  rw [if_pos (by omega)]
  have := L67_run n h0 8 q (by omega) hq
  rw [show (8 : Int) - ((8 : Nat) : Int) = 0 from rfl] at this
  rw [this]
  rfl

/-- A quantity's bits. -/
def qbits (x : Nat) : Int := if FloatKind.f64.format.order x x != some Ordering.eq then 9221120237041090561 else (x : Int)
theorem F68_eq (x : Nat) : F68 x = some (r1 (qbits x)) := by
  unfold F68 F85 qbits
  simp only [Option.bind_some]
  cases FloatKind.f64.format.order x x != some Ordering.eq <;> rfl
theorem F84_eq (x : Nat) : F84 x = some (r1 (qbits x)) := F68_eq x
theorem qbits_nn (x : Nat) : 0 ≤ qbits x := by unfold qbits; split <;> omega

abbrev Ev : Type := Int × Int × Int × Int × ByteArray × List Int × Nat × Int × Unit
/-- What a kind tells behind the key. -/
def encR (k : Int) (text : List Int) (num : Nat) (node : Int) : List Int :=
  if k = 1 then dgT text else if k = 2 ∨ k = 3 then fix8 (qbits num) else if k = 5 then dg (IntKind.wrap .u64 node) else []
def encE (e : Ev) : List Int :=
  dg (IntKind.wrap .u64 e.1) ++ dg e.2.1 ++ dg e.2.2.1 ++ [e.2.2.2.1] ++ (if 1 ≤ e.2.2.2.1 ∧ e.2.2.2.1 ≤ 4 then dgT (bytesL e.2.2.2.2.1) else []) ++ encR e.2.2.2.1 e.2.2.2.2.2.1 e.2.2.2.2.2.2.1 e.2.2.2.2.2.2.2.1
theorem bytesL_len (s : ByteArray) : (bytesL s).length = s.size := by unfold bytesL; simp

/-- An event with numbers that a word can have, and texts that aren't endless. -/
structure EvOK (e : Ev) : Prop where
  s0 : 0 ≤ e.2.1
  s1 : e.2.1 < 18446744073709551616
  t0 : 0 ≤ e.2.2.1
  t1 : e.2.2.1 < 18446744073709551616
  key : e.2.2.2.2.1.size < 4294967296
  text : e.2.2.2.1 = 1 → e.2.2.2.2.2.1.length < 4294967296

theorem F66_eq (e : Ev) (h : EvOK e) : F66 e = some (ro (encE e)) := by
  obtain ⟨w, s, t, k, key, text, num, node, ⟨⟩⟩ := e
  obtain ⟨s0, s1, t0, t1, hk, ht⟩ := h
  simp only at s0 s1 t0 t1 hk ht
  have l1 := dg_len (IntKind.wrap .u64 w)
  have l2 := dg_len s
  have l3 := dg_len t
  have l4 := bytesL_len key
  have l5 := dgT_len (bytesL key)
  have hw : 0 ≤ IntKind.wrap .u64 w ∧ IntKind.wrap .u64 w < 18446744073709551616 := by rw [wu64_mod]; omega
  have hn : 0 ≤ IntKind.wrap .u64 node ∧ IntKind.wrap .u64 node < 18446744073709551616 := by rw [wu64_mod]; omega
  have hlim : lim = 1099511627776 := rfl
  unfold F66 encE
  simp only [cif, beq_iff_eq, Bool.cond_eq_ite, decide_eq_true_eq]
  rw [F51_eq _ _ hw.1 hw.2 (by simp; omega)]
  simp only [Option.bind_some, List.nil_append]
  rw [F51_eq _ _ s0 s1 (by omega)]
  simp only [Option.bind_some]
  rw [F51_eq _ _ t0 t1 (by simp; omega)]
  simp only [Option.bind_some]
  rw [if_pos (by simp; omega)]
  unfold encR
  have key' : ∀ q : List Int, q.length ≤ 31 → F52 (bytesL key) q = some (ro (q ++ dgT (bytesL key))) := fun q hq => F52_eq _ _ (by omega) (by omega)
  have text' : k = 1 → ∀ q : List Int, q.length ≤ 4294967396 → F52 text q = some (ro (q ++ dgT text)) := fun h1 q hq => F52_eq _ _ (ht h1) (by have := ht h1; omega)
  have node' : ∀ q : List Int, q.length ≤ 4294967396 → F51 (IntKind.wrap .u64 node) q = some (ro (q ++ dg (IntKind.wrap .u64 node))) := fun q hq => F51_eq _ _ hn.1 hn.2 (by omega)
  have num' : ∀ q : List Int, q.length ≤ 4294967396 → F83 (qbits num) q = some (ro (q ++ fix8 (qbits num))) := fun q hq => F83_eq _ _ (qbits_nn _) (by omega)
  by_cases k1 : 1 ≤ k
  · by_cases k4 : k ≤ 4
    · rw [if_pos (show k ≥ 1 from k1), if_pos k4, if_pos ⟨k1, k4⟩, key' _ (by simp; omega)]
      simp only [Option.bind_some]
      by_cases e1 : k = 1
      · rw [if_pos e1, if_pos e1, text' e1 _ (by simp; omega)]; rfl
      rw [if_neg e1, if_neg e1]
      by_cases e2 : k = 2
      · rw [if_pos e2, if_pos (Or.inl e2), F84_eq]; simp only [Option.bind_some]; rw [num' _ (by simp; omega)]; rfl
      rw [if_neg e2]
      by_cases e3 : k = 3
      · rw [if_pos e3, if_pos (Or.inr e3), F84_eq]; simp only [Option.bind_some]; rw [num' _ (by simp; omega)]; rfl
      simp only [e2, e3, show ¬ k = 5 from by omega, if_false, or_self, List.append_nil]
    · rw [if_pos (show k ≥ 1 from k1), if_neg k4]
      simp only [show ¬ k = 1 from by omega, show ¬ k = 2 from by omega, show ¬ k = 3 from by omega, show ¬ (1 ≤ k ∧ k ≤ 4) from by omega, if_false, or_self, List.append_nil]
      by_cases e5 : k = 5
      · rw [if_pos e5, if_pos e5, node' _ (by simp; omega)]; rfl
      · rw [if_neg e5, if_neg e5, List.append_nil]
  · rw [if_neg (show ¬ k ≥ 1 from k1)]
    simp only [show ¬ k = 1 from by omega, show ¬ k = 2 from by omega, show ¬ k = 3 from by omega, show ¬ k = 5 from by omega, show ¬ (1 ≤ k ∧ k ≤ 4) from by omega, if_false, or_self, List.append_nil]
theorem F33_eq (e : Ev) (h : EvOK e) (h1 : 1 ≤ e.2.2.2.1) : F33 e = some (ro (encE e)) := by
  obtain ⟨w, s, t, k, key, text, num, node, ⟨⟩⟩ := e
  obtain ⟨s0, s1, t0, t1, hk, ht⟩ := h
  simp only at s0 s1 t0 t1 hk ht h1
  have l1 := dg_len (IntKind.wrap .u64 w)
  have l2 := dg_len s
  have l3 := dg_len t
  have l4 := bytesL_len key
  have l5 := dgT_len (bytesL key)
  have hw : 0 ≤ IntKind.wrap .u64 w ∧ IntKind.wrap .u64 w < 18446744073709551616 := by rw [wu64_mod]; omega
  have hn : 0 ≤ IntKind.wrap .u64 node ∧ IntKind.wrap .u64 node < 18446744073709551616 := by rw [wu64_mod]; omega
  have hlim : lim = 1099511627776 := rfl
  unfold F33 encE
  simp only [cif, beq_iff_eq, Bool.cond_eq_ite, decide_eq_true_eq]
  rw [F26_eq _ _ hw.1 hw.2 (by simp; omega)]
  simp only [Option.bind_some, List.nil_append]
  rw [F26_eq _ _ s0 s1 (by omega)]
  simp only [Option.bind_some]
  rw [F26_eq _ _ t0 t1 (by simp; omega)]
  simp only [Option.bind_some]
  rw [if_pos (by simp; omega)]
  unfold encR
  have key' : ∀ q : List Int, q.length ≤ 31 → F27 q (bytesL key) = some (ro (q ++ dgT (bytesL key))) := fun q hq => F27_eq _ _ (by omega) (by omega)
  have text' : k = 1 → ∀ q : List Int, q.length ≤ 4294967396 → F27 q text = some (ro (q ++ dgT text)) := fun h1 q hq => F27_eq _ _ (ht h1) (by have := ht h1; omega)
  have node' : ∀ q : List Int, q.length ≤ 4294967396 → F26 q (IntKind.wrap .u64 node) = some (ro (q ++ dg (IntKind.wrap .u64 node))) := fun q hq => F26_eq _ _ hn.1 hn.2 (by omega)
  have num' : ∀ q : List Int, q.length ≤ 4294967396 → F67 q (qbits num) = some (ro (q ++ fix8 (qbits num))) := fun q hq => F67_eq _ _ (qbits_nn _) (by omega)
  by_cases k4 : k ≤ 4
  · rw [if_pos k4, if_pos ⟨h1, k4⟩, key' _ (by simp; omega)]
    simp only [Option.bind_some]
    by_cases e1 : k = 1
    · rw [if_pos e1, if_pos e1, text' e1 _ (by simp; omega)]; simp only [Option.bind_some, show ¬ k = 2 from by omega, show ¬ k = 3 from by omega, show ¬ k = 5 from by omega, if_false]
    rw [if_neg e1, if_neg e1]
    by_cases e2 : k = 2
    · rw [if_pos e2, if_pos (Or.inl e2), F68_eq]; simp only [Option.bind_some]; rw [num' _ (by simp; omega)]; simp only [Option.bind_some, show ¬ k = 5 from by omega, if_false]
    rw [if_neg e2]
    by_cases e3 : k = 3
    · rw [if_pos e3, if_pos (Or.inr e3), F68_eq]; simp only [Option.bind_some]; rw [num' _ (by simp; omega)]; simp only [Option.bind_some, show ¬ k = 5 from by omega, if_false]
    simp only [e2, e3, show ¬ k = 5 from by omega, if_false, or_self, List.append_nil]
  · rw [if_neg k4]
    simp only [show ¬ k = 1 from by omega, show ¬ k = 2 from by omega, show ¬ k = 3 from by omega, show ¬ (1 ≤ k ∧ k ≤ 4) from by omega, if_false, or_self, List.append_nil]
    by_cases e5 : k = 5
    · rw [if_pos e5, if_pos e5, node' _ (by simp; omega)]; rfl
    · rw [if_neg e5, if_neg e5, List.append_nil]

theorem ite_l {α : Type} {c : Prop} [Decidable c] {a b r : α} (h1 : c → a = r) (h2 : ¬ c → b = r) : (if c then a else b) = r := by by_cases h : c <;> simp [h, h1, h2]
theorem ite_r {α : Type} {c : Prop} [Decidable c] {a b r : α} (h1 : c → r = a) (h2 : ¬ c → r = b) : r = (if c then a else b) := by by_cases h : c <;> simp [h, h1, h2]
/-- May an event be? -/
def rgt (e : Ev) : Int :=
  if e.1 < 0 ∨ 63 < e.1 ∨ e.2.1 = 0 ∨ e.2.2.1 = 0 ∨ e.2.2.2.1 < 1 ∨ 6 < e.2.2.2.1 then 1
  else if e.2.2.2.1 = 5 ∧ (e.2.2.2.2.2.2.2.1 < 0 ∨ 63 < e.2.2.2.2.2.2.2.1) then 1
  else if e.2.2.2.1 ≤ 4 ∧ (e.2.2.2.2.1.size = 0 ∨ 64 < e.2.2.2.2.1.size) then 6
  else if e.2.2.2.1 = 1 ∧ 1048576 < e.2.2.2.2.2.1.length then 6
  else if 9223372036854775807 < e.2.1 ∨ 9223372036854775807 < e.2.2.1 then 8 else 0
theorem F98_eq (n : Int) : F98 n = some (r1 (decide (0 ≤ n ∧ n ≤ 63))) := by
  unfold F98
  simp only [cif]
  split
  · exact congrArg (fun b : Bool => some (r1 b)) (decide_eq_decide.2 (by omega))
  · exact congrArg (fun b : Bool => some (r1 b)) (decide_eq_false (by omega)).symm

theorem F90_eq (e : Ev) : F90 e = some (r1 (rgt e)) := by
  obtain ⟨w, s, t, k, key, text, num, node, ⟨⟩⟩ := e
  unfold F90 rgt
  simp only [F98_eq, Option.bind_some, cif, beq_iff_eq, Bool.cond_eq_ite, decide_eq_true_eq, Bool.not_eq_true', decide_eq_false_iff_not]
  repeat' (refine ite_l (fun h => ?_) (fun h => ?_))
  all_goals refine congrArg (fun n : Int => some (r1 n)) ?_
  all_goals (refine ite_r (fun h => ?_) (fun h => ?_) <;> first | rfl | omega | skip)
  all_goals (refine ite_r (fun h => ?_) (fun h => ?_) <;> first | rfl | omega | skip)
  all_goals (refine ite_r (fun h => ?_) (fun h => ?_) <;> first | rfl | omega | skip)
  all_goals (refine ite_r (fun h => ?_) (fun h => ?_) <;> first | rfl | omega | skip)
  all_goals (refine ite_r (fun h => ?_) (fun h => ?_) <;> first | rfl | omega | skip)


/-- An event with numbers that a word can have. -/
structure EvW (e : Ev) : Prop where
  s0 : 0 ≤ e.2.1
  s1 : e.2.1 < 18446744073709551616
  t0 : 0 ≤ e.2.2.1
  t1 : e.2.2.1 < 18446744073709551616
  key : e.2.2.2.2.1.size < 4294967296

theorem EvW.ok {e : Ev} (h : EvW e) (hr : rgt e = 0) : EvOK e := by
  refine ⟨h.1, h.2, h.3, h.4, h.5, fun h1 => ?_⟩
  unfold rgt at hr
  split at hr
  · cases hr
  split at hr
  · cases hr
  split at hr
  · cases hr
  split at hr
  · cases hr
  omega


/-- An event as it is kept. -/
def plain (e : Ev) : Ev :=
  (e.1, e.2.1, e.2.2.1, e.2.2.2.1, if 1 ≤ e.2.2.2.1 ∧ e.2.2.2.1 ≤ 4 then e.2.2.2.2.1 else ByteArray.empty, if e.2.2.2.1 = 1 then e.2.2.2.2.2.1 else [],
    if e.2.2.2.1 = 2 ∨ e.2.2.2.1 = 3 then (qbits e.2.2.2.2.2.2.1).toNat else 0, if e.2.2.2.1 = 5 then e.2.2.2.2.2.2.2.1 else 0, ())

theorem qbits_twice (n : Nat) : qbits (qbits n).toNat = qbits n := by
  unfold qbits
  by_cases h : (FloatKind.f64.format.order n n != some Ordering.eq) = true
  · rw [if_pos h, if_pos (by decide +kernel)]
  · rw [if_neg h, Int.toNat_natCast, if_neg h]
theorem enc_plain (e : Ev) : encE (plain e) = encE e := by
  obtain ⟨w, s, t, k, key, text, num, node, ⟨⟩⟩ := e
  unfold encE plain encR
  simp only
  by_cases hk : 1 ≤ k ∧ k ≤ 4
  · simp only [hk, if_true, and_self]
    by_cases e1 : k = 1
    · simp only [e1, if_true]
    by_cases e2 : k = 2 ∨ k = 3
    · simp only [e1, e2, if_false, if_true, qbits_twice]
    · simp only [e1, e2, if_false, show ¬ k = 5 from by omega]
  · simp only [hk, if_false, show ¬ k = 1 from by omega, show ¬ k = 2 from by omega, show ¬ k = 3 from by omega, or_self]
    by_cases e5 : k = 5
    · simp only [e5, if_true]
    · simp only [e5, if_false]
theorem plain_ok (e : Ev) (h : EvOK e) : EvOK (plain e) := by
  obtain ⟨s0, s1, t0, t1, hk, ht⟩ := h
  refine ⟨s0, s1, t0, t1, ?_, fun h1 => ?_⟩
  · show (if _ then _ else _ : ByteArray).size < _
    split
    · exact hk
    · decide
  · show (if _ then _ else _ : List Int).length < _
    split
    · exact ht h1
    · decide
theorem rgt_kind {e : Ev} (h : rgt e = 0) : 1 ≤ e.2.2.2.1 := by
  unfold rgt at h
  split at h
  · cases h
  · omega

def Bys (l : List Int) : Prop := ∀ x ∈ l, 0 ≤ x ∧ x < 256
theorem Bys.drop {l : List Int} (h : Bys l) (n : Nat) : Bys (l.drop n) := fun x hx => h x (List.mem_of_mem_drop hx)
theorem Bys.take {l : List Int} (h : Bys l) (n : Nat) : Bys (l.take n) := fun x hx => h x (List.mem_of_mem_take hx)
theorem Bys.app {a b : List Int} (ha : Bys a) (hb : Bys b) : Bys (a ++ b) := fun x hx => (List.mem_append.1 hx).elim (ha x) (hb x)

/-- The number ahead: and what stands behind it; or why there is none. -/
def tk : Nat → Int → List Int → (Int × List Int) ⊕ Int
  | _, _, [] => .inr 5
  | i, acc, b :: r => if (i = 9 ∧ 1 < b) ∨ (0 < i ∧ b = 0) then .inr 4 else if b < 128 then .inl (acc + b % 128 * 128 ^ i, r) else tk (i + 1) (acc + b % 128 * 128 ^ i) r

theorem and127' : ∀ a : Fin 256, iAnd .u8 (a.val : Int) 127 = (a.val : Int) % 128 := by decide +kernel
theorem and127 {b : Int} (h0 : 0 ≤ b) (h1 : b < 256) : iAnd .u8 b 127 = b % 128 := by
  have := and127' ⟨b.toNat, by omega⟩
  simpa [Int.toNat_of_nonneg h0] using this
theorem or_nat {x y : Nat} (hx : x < 2 ^ 64) (hy : y < 2 ^ 64) : iOr .u64 (x : Int) (y : Int) = ((x ||| y : Nat) : Int) := by
  show IntKind.wrap .u64 (((BitVec.ofInt 64 (x : Int) ||| BitVec.ofInt 64 (y : Int) : BitVec 64).toNat : Nat) : Int) = _
  rw [BitVec.ofInt_natCast, BitVec.ofInt_natCast, BitVec.toNat_or, BitVec.toNat_ofNat, BitVec.toNat_ofNat, Nat.mod_eq_of_lt hx, Nat.mod_eq_of_lt hy]
  have := Nat.or_lt_two_pow hx hy
  exact wu64 (by omega) (by omega)
theorem or_shl {acc c : Int} {i : Nat} (hi : i ≤ 9) (h0 : 0 ≤ acc) (h1 : acc < 128 ^ i) (c0 : 0 ≤ c) (c1 : c < 128) (h9 : i = 9 → c ≤ 1) :
    iOr .u64 acc (iShl .u64 c ((7 * i : Nat) : Int)) = acc + c * 128 ^ i := by
  obtain ⟨x, rfl⟩ := Int.eq_ofNat_of_zero_le h0
  obtain ⟨y, rfl⟩ := Int.eq_ofNat_of_zero_le c0
  have hp : ((128 : Int) ^ i) = ((2 ^ (7 * i) : Nat) : Int) := by rw [Nat.pow_mul]; simp
  rw [hp] at h1 ⊢
  have hx : x < 2 ^ (7 * i) := by exact_mod_cast h1
  have hy : y * 2 ^ (7 * i) < 2 ^ 64 := by
    rcases Nat.lt_or_ge i 9 with q | q
    · have : 2 ^ (7 * i) ≤ 2 ^ 56 := Nat.pow_le_pow_right (by decide) (by omega)
      calc y * 2 ^ (7 * i) ≤ 127 * 2 ^ 56 := Nat.mul_le_mul (by omega) this
        _ < 2 ^ 64 := by decide
    · obtain rfl : i = 9 := by omega
      have := h9 rfl
      calc y * 2 ^ (7 * 9) ≤ 1 * 2 ^ 63 := Nat.mul_le_mul (by omega) (by decide)
        _ < 2 ^ 64 := by decide
  have hx64 : x < 2 ^ 64 := Nat.lt_of_lt_of_le hx (Nat.pow_le_pow_right (by decide) (by omega))
  have hs : iShl .u64 (y : Int) ((7 * i : Nat) : Int) = ((y * 2 ^ (7 * i) : Nat) : Int) := by
    unfold iShl
    rw [Int.toNat_natCast, Nat.min_eq_left (by show 7 * i ≤ 64; omega), show (y : Int) * 2 ^ (7 * i) = ((y * 2 ^ (7 * i) : Nat) : Int) from by simp]
    generalize y * 2 ^ (7 * i) = z at hy
    exact wu64 (by omega) (by omega)
  rw [hs, or_nat hx64 hy, ← Nat.shiftLeft_eq, Nat.or_comm, ← Nat.shiftLeft_add_eq_or_of_lt hx, Nat.shiftLeft_eq]
  simp
  omega

abbrev r3 {α β γ : Type} (x : α) (y : β) (z : γ) : (α × β × γ × Unit) × Unit × Unit := ((x, y, z, ()), (), ())
theorem acc_lt {acc c : Int} {i : Nat} (h1 : acc < 128 ^ i) (c1 : c < 128) : acc + c * 128 ^ i < 128 ^ (i + 1) := by
  have hp : (0 : Int) < 128 ^ i := Int.pow_pos (by decide)
  rw [Int.pow_succ]
  have : c * 128 ^ i ≤ 127 * 128 ^ i := Int.mul_le_mul_of_nonneg_right (by omega) (Int.le_of_lt hp)
  omega
theorem L80_run (xs : List Int) (hb : Bys xs) : ∀ (r : List Int) (i : Nat) (acc : Int), r = xs.drop i → i ≤ 9 → i ≤ xs.length → 0 ≤ acc → acc < 128 ^ i →
    L80_3 xs acc xs (xs.length : Nat) (i : Nat) = some (match tk i acc r with | .inl q => .inl (r3 q.1 q.2 0) | .inr e => if e = 4 then .inl (r3 0 xs 4) else .inr ((), (), ())) := by
  intro r
  induction r with
  | nil =>
    intro i acc hr hi hl h0 h1
    have : xs.length ≤ i := by
      have := congrArg List.length hr
      simp at this
      omega
    rw [L80_3_eq]
    simp only [T80_3, cif]
    rw [if_neg (by omega)]
    rfl
  | cons b r ih =>
    intro i acc hr hi hl h0 h1
    have hlt : i < xs.length := by
      have := congrArg List.length hr
      simp at this
      omega
    have hd := List.drop_eq_getElem_cons hlt
    rw [hd] at hr
    cases hr
    obtain ⟨b0, b1⟩ := hb _ (List.getElem_mem hlt)
    have hg : xs.getD (i : Int).toNat 0 = xs[i] := by rw [Int.toNat_natCast, List.getD_eq_getElem?_getD, List.getElem?_eq_getElem hlt]; rfl
    have hw : IntKind.wrap .i64 (7 * (i : Int)) = ((7 * i : Nat) : Int) := by rw [w64 (by omega) (by omega)]; omega
    have hw2 : IntKind.wrap .i64 ((i : Int) + 1) = ((i + 1 : Nat) : Int) := by rw [w64 (by omega) (by omega)]; omega
    rw [L80_3_eq]
    simp only [T80_3, cif, beq_iff_eq, Bool.cond_eq_ite, decide_eq_true_eq, hg, hw, hw2, and127 b0 b1]
    rw [if_pos (by omega), if_pos (by omega)]
    rw [wu64 (n := xs[i] % 128) (by omega) (by omega)]
    by_cases c : (i = 9 ∧ 1 < xs[i]) ∨ (0 < i ∧ xs[i] = 0)
    · unfold tk
      rw [if_pos c]
      by_cases c9 : i = 9
      · rw [if_pos (by omega)]
        by_cases c1 : xs[i] > 1
        · rw [if_pos c1]; rfl
        · rw [if_neg c1, if_pos (by omega), if_pos (by omega)]; rfl
      · rw [if_neg (by omega), if_pos (by omega), if_pos (by omega)]; rfl
    · unfold tk
      rw [if_neg c]
      have hor : iOr .u64 acc (iShl .u64 (xs[i] % 128) ((7 * i : Nat) : Int)) = acc + xs[i] % 128 * 128 ^ i := or_shl hi h0 h1 (by omega) (by omega) (by omega)
      have hp : (0 : Int) < 128 ^ i := Int.pow_pos (by decide)
      have hnn : 0 ≤ xs[i] % 128 * 128 ^ i := Int.mul_nonneg (by omega) (Int.le_of_lt hp)
      rw [hor]
      have main : (if (0 : Int) ≤ ((7 * i : Nat) : Int) then
          (if xs[i] < 128 then (if 0 ≤ ((i + 1 : Nat) : Int) ∧ ((i + 1 : Nat) : Int) ≤ (xs.length : Int) then some (.inr (.inl (r3 (acc + xs[i] % 128 * 128 ^ i) (xs.drop ((i + 1 : Nat) : Int).toNat) 0))) else none)
          else some (.inl ((xs, acc + xs[i] % 128 * 128 ^ i, xs, (xs.length : Int), ((i + 1 : Nat) : Int), ()), (), ()))) else none :
          Option ((((List Int) × (Int × ((List Int) × (Int × (Int × Unit))))) × Unit × Unit) ⊕ (((Int × ((List Int) × (Int × Unit))) × Unit × Unit) ⊕ (Unit × Unit × Unit)))).bind
          (Sum.elim (fun x => L80_3 x.1.1 x.1.2.1 x.1.2.2.1 x.1.2.2.2.1 x.1.2.2.2.2.1) some) =
          some (match (if xs[i] < 128 then .inl (acc + xs[i] % 128 * 128 ^ i, xs.drop (i + 1)) else tk (i + 1) (acc + xs[i] % 128 * 128 ^ i) (xs.drop (i + 1)) : (Int × List Int) ⊕ Int) with
            | .inl q => .inl (r3 q.1 q.2 0) | .inr e => if e = 4 then .inl (r3 0 xs 4) else .inr ((), (), ())) := by
        rw [if_pos (by omega)]
        by_cases c128 : xs[i] < 128
        · rw [if_pos c128, if_pos c128, if_pos (by omega), Int.toNat_natCast]; rfl
        · rw [if_neg c128, if_neg c128]
          simp only [Option.bind_some, Sum.elim_inl]
          exact ih (i + 1) _ rfl (by omega) (by omega) (by omega) (acc_lt h1 (by omega))
      by_cases c9 : i = 9
      · rw [if_pos (by omega), if_neg (by omega), if_pos (by omega), if_neg (by omega)]
        exact main
      · rw [if_neg (by omega)]
        by_cases c0 : 0 < i
        · rw [if_pos (by omega), if_neg (by omega)]
          exact main
        · rw [if_neg (by omega)]
          exact main
theorem tk_err {r : List Int} : ∀ {i : Nat} {acc e : Int}, tk i acc r = .inr e → e = 4 ∨ e = 5 := by
  induction r with
  | nil => intro i acc e h; cases h; exact .inr rfl
  | cons b r ih =>
    intro i acc e h
    unfold tk at h
    split at h
    · cases h; exact .inl rfl
    · split at h
      · cases h
      · exact ih h
theorem F80_eq (xs : List Int) (hb : Bys xs) : F80 xs = some (match tk 0 0 xs with | .inl q => r3 q.1 q.2 0 | .inr e => r3 0 xs e) := by
  unfold F80
  have := L80_run xs hb xs 0 0 (by simp) (by omega) (by omega) (by omega) (by decide)
  rw [show ((0 : Nat) : Int) = 0 from rfl] at this
  rw [this]
  cases h : tk 0 0 xs with
  | inl q => rfl
  | inr e =>
    rcases tk_err h with rfl | rfl
    · rfl
    · rfl
theorem dgF_byte : ∀ (f : Nat) (n : Int), 0 ≤ n → n < 128 ^ (f + 1) → Bys (dgF f n)
  | 0, n, h0, h1 => fun x hx => by
    simp only [dgF, List.mem_singleton] at hx
    subst hx
    have : (128 : Int) ^ (0 + 1) = 128 := rfl
    omega
  | f + 1, n, h0, h1 => fun x hx => by
    unfold dgF at hx
    split at hx
    · simp at hx; omega
    · rcases List.mem_cons.1 hx with rfl | hx
      · omega
      · exact dgF_byte f (n / 128) (by omega) (by rw [Int.pow_succ] at h1; omega) x hx
theorem dg_byte {n : Int} (h0 : 0 ≤ n) (h1 : n < 18446744073709551616) : Bys (dg n) :=
  dgF_byte 9 n h0 (by rw [show (128 : Int) ^ (9 + 1) = 1180591620717411303424 from by decide]; omega)

theorem tk_app (rest : List Int) : ∀ (f i : Nat) (n acc : Int), f + i = 9 → 0 ≤ n → n < 2 ^ (64 - 7 * i) → (0 < i → 1 ≤ n) → tk i acc (dgF f n ++ rest) = .inl (acc + n * 128 ^ i, rest) := by
  intro f
  induction f with
  | zero =>
    intro i n acc hi h0 h1 hn
    obtain rfl : i = 9 := by omega
    have h2 : n < 2 := h1
    show tk 9 acc (n :: rest) = _
    unfold tk
    rw [if_neg (by omega), if_pos (by omega), Int.emod_eq_of_lt h0 (by omega)]
  | succ f ih =>
    intro i n acc hi h0 h1 hn
    unfold dgF
    by_cases hs : n < 128
    · rw [if_pos hs]
      show tk i acc (n :: rest) = _
      unfold tk
      rw [if_neg (by omega), if_pos hs, Int.emod_eq_of_lt h0 hs]
    · rw [if_neg hs]
      show tk i acc ((128 + n % 128) :: (dgF f (n / 128) ++ rest)) = _
      unfold tk
      rw [if_neg (by omega), if_neg (by omega)]
      have hp : (2 : Int) ^ (64 - 7 * i) = 2 ^ (64 - 7 * (i + 1)) * 128 := by
        rw [show 64 - 7 * i = (64 - 7 * (i + 1)) + 7 from by omega, Int.pow_add]; rfl
      rw [ih (i + 1) (n / 128) _ (by omega) (by omega) (by rw [hp] at h1; omega) (fun _ => by omega)]
      have hm : (128 + n % 128) % 128 = n % 128 := by omega
      rw [hm, Int.pow_succ]
      have : n * 128 ^ i = n % 128 * 128 ^ i + n / 128 * (128 ^ i * 128) := by
        rw [show n / 128 * (128 ^ i * 128) = (n / 128 * 128) * 128 ^ i from by rw [Int.mul_comm (128 ^ i) 128, Int.mul_assoc], ← Int.add_mul]
        congr 1
        omega
      rw [this, Int.add_assoc]
theorem tk_dg {n : Int} (h0 : 0 ≤ n) (h1 : n < 18446744073709551616) (rest : List Int) : tk 0 0 (dg n ++ rest) = .inl (n, rest) := by
  have := tk_app rest 9 0 n 0 (by omega) h0 h1 (by omega)
  rw [dg, this]
  simp
theorem tk_inv : ∀ (xs : List Int) (i : Nat) (acc m : Int) (rest : List Int), Bys xs → i ≤ 9 → tk i acc xs = .inl (m, rest) →
    ∃ n, xs = dgF (9 - i) n ++ rest ∧ m = acc + n * 128 ^ i ∧ 0 ≤ n ∧ n < 2 ^ (64 - 7 * i) ∧ (0 < i → 1 ≤ n) := by
  intro xs
  induction xs with
  | nil => intro i acc m rest hb hi h; cases h
  | cons b r ih =>
    intro i acc m rest hb hi h
    obtain ⟨b0, b1⟩ := hb b (List.mem_cons_self ..)
    unfold tk at h
    split at h
    · cases h
    · rename_i hc
      split at h
      · rename_i h128
        cases h
        refine ⟨b, ?_, by rw [Int.emod_eq_of_lt b0 h128], b0, ?_, by omega⟩
        · rw [dgF_lt h128]; rfl
        · by_cases h9 : i = 9
          · subst h9; show b < 2; omega
          · have hp : (2 : Int) ^ (64 - 7 * i) = 2 ^ (57 - 7 * i) * 128 := by
              rw [show 64 - 7 * i = (57 - 7 * i) + 7 from by omega, Int.pow_add]; rfl
            have : (0 : Int) < 2 ^ (57 - 7 * i) := Int.pow_pos (by decide)
            omega
      · rename_i h128
        have hi9 : i ≠ 9 := by omega
        obtain ⟨n, h1, h2, h3, h4, h5⟩ := ih (i + 1) _ m rest (fun x hx => hb x (List.mem_cons_of_mem _ hx)) (by omega) h
        have h5 := h5 (by omega)
        have hp : (2 : Int) ^ (64 - 7 * i) = 2 ^ (64 - 7 * (i + 1)) * 128 := by
          rw [show 64 - 7 * i = (64 - 7 * (i + 1)) + 7 from by omega, Int.pow_add]; rfl
        refine ⟨b % 128 + n * 128, ?_, ?_, by omega, by rw [hp]; omega, by omega⟩
        · rw [show 9 - i = (9 - (i + 1)) + 1 from by omega]
          unfold dgF
          rw [if_neg (by omega), h1, show 128 + (b % 128 + n * 128) % 128 = b from by omega, show (b % 128 + n * 128) / 128 = n from by omega]
          rfl
        · rw [h2, Int.pow_succ, Int.add_mul, Int.add_assoc, show n * (128 ^ i * 128) = n * 128 * 128 ^ i from by rw [Int.mul_comm (128 ^ i) 128, Int.mul_assoc]]
theorem tk_some {xs : List Int} {m : Int} {rest : List Int} (hb : Bys xs) (h : tk 0 0 xs = .inl (m, rest)) : xs = dg m ++ rest ∧ 0 ≤ m ∧ m < 18446744073709551616 := by
  obtain ⟨n, h1, h2, h3, h4, _⟩ := tk_inv xs 0 0 m rest hb (by omega) h
  have : m = n := by rw [h2]; simp
  subst this
  exact ⟨h1, h3, h4⟩

/-- A text ahead. -/
def tkT (most : Int) (xs : List Int) : (List Int × List Int) ⊕ Int :=
  match tk 0 0 xs with
  | .inr e => .inr e
  | .inl (n, r) => if most < 0 ∨ n > most then .inr 6 else if n > (r.length : Int) then .inr 5 else .inl (r.take n.toNat, r.drop n.toNat)
theorem F70_eq (xs : List Int) (most : Int) (hb : Bys xs) (hl : xs.length < 2 ^ 63) (hm : most < lim) : F70 xs most = some (match tkT most xs with | .inl q => r3 q.1 q.2 0 | .inr e => r3 [] xs e) := by
  unfold F70 tkT
  rw [F80_eq xs hb]
  have hlim : lim = 1099511627776 := rfl
  cases h : tk 0 0 xs with
  | inr e =>
    simp only [Option.bind_some]
    rcases tk_err h with rfl | rfl <;> rfl
  | inl q =>
    obtain ⟨n, r⟩ := q
    obtain ⟨h1, h2, h3⟩ := tk_some hb h
    have hr : r.length ≤ xs.length := by rw [h1]; simp
    simp only [Option.bind_some, bne_self_eq_false, cond_false, cif]
    by_cases c1 : most < 0
    · rw [if_pos c1, if_pos (Or.inl c1)]
    · rw [if_neg c1, wu64 (n := most) (by omega) (by omega), wu64 (n := (r.length : Int)) (by omega) (by omega)]
      by_cases c2 : n > most
      · rw [if_pos c2, if_pos (Or.inr c2)]
      · rw [if_neg c2, if_neg (show ¬ (most < 0 ∨ n > most) from by omega)]
        by_cases c3 : n > (r.length : Int)
        · rw [if_pos c3, if_pos c3]
        · rw [if_neg c3, if_neg c3, if_pos (by omega), if_pos (by rw [List.length_take]; omega), if_pos (by omega)]
theorem tkT_app {t rest : List Int} {most : Int} (h : (t.length : Int) ≤ most) (hl : t.length < 2 ^ 63) : tkT most (dgT t ++ rest) = .inl (t, rest) := by
  unfold tkT dgT
  rw [List.append_assoc, tk_dg (by omega) (by omega)]
  simp only
  rw [if_neg (by omega), if_neg (by simp; omega), Int.toNat_natCast]
  simp
theorem tkT_some {xs t rest : List Int} {most : Int} (hb : Bys xs) (h : tkT most xs = .inl (t, rest)) : xs = dgT t ++ rest ∧ (t.length : Int) ≤ most := by
  unfold tkT at h
  split at h
  · cases h
  · rename_i n r hk
    obtain ⟨h1, h2, h3⟩ := tk_some hb hk
    split at h
    · cases h
    · split at h
      · cases h
      · cases h
        have hlen : (r.take n.toNat).length = n.toNat := by rw [List.length_take]; omega
        refine ⟨?_, by rw [hlen]; omega⟩
        unfold dgT
        rw [hlen, Int.toNat_of_nonneg h2, List.append_assoc, List.take_append_drop, ← h1]

/-! ### Tapes -/
abbrev tin {α : Type} (x : α) (r : List Int) : (α × Unit) × ((List Int × Unit) × Unit) × Unit := ((x, ()), ((r, ()), ()), ())
abbrev tie (e : Int) (r : List Int) : Int × (Unit × ((List Int × Unit) × Unit) × Unit) := (e, ((), ((r, ()), ()), ()))
def tnum (most : Int) (xs : List Int) : (Int × List Int) ⊕ Int :=
  match tk 0 0 xs with
  | .inr e => .inr e
  | .inl (n, r) => if n > most then .inr 6 else .inl (n, r)
theorem F81_z : F81 0 = some (.inl ((), (), ())) := rfl
theorem F81_n {e : Int} (h : e ≠ 0) : F81 e = some (.inr (e, ((), (), ()))) := by
  unfold F81; rw [show ((e : Int) != 0) = true from by simpa using h]; rfl
theorem F58_eq (most : Int) (xs : List Int) (hb : Bys xs) : F58 most xs = some (match tnum most xs with | .inl q => .inl (tin q.1 q.2) | .inr e => .inr (tie e xs)) := by
  unfold F58 tnum
  rw [F80_eq xs hb]
  cases h : tk 0 0 xs with
  | inr e =>
    simp only [Option.bind_some]
    rcases tk_err h with rfl | rfl <;> rfl
  | inl q =>
    obtain ⟨n, r⟩ := q
    simp only [Option.bind_some, F81_z, Sum.elim_inl, cif]
    by_cases c : n > most
    · rw [if_pos c, if_pos c]; rfl
    · rw [if_neg c, if_neg c]
theorem tnum_some {xs rest : List Int} {n most : Int} (hb : Bys xs) (h : tnum most xs = .inl (n, rest)) : xs = dg n ++ rest ∧ 0 ≤ n ∧ n < 18446744073709551616 ∧ n ≤ most := by
  unfold tnum at h
  split at h
  · cases h
  · rename_i m r hk
    split at h
    · cases h
    · cases h
      obtain ⟨h1, h2, h3⟩ := tk_some hb hk
      exact ⟨h1, h2, h3, by omega⟩
theorem tnum_app {n most : Int} (h0 : 0 ≤ n) (h1 : n < 18446744073709551616) (hm : n ≤ most) (rest : List Int) : tnum most (dg n ++ rest) = .inl (n, rest) := by
  unfold tnum
  rw [tk_dg h0 h1]
  simp only
  rw [if_neg (by omega)]
theorem tnum_err {xs : List Int} {most e : Int} (h : tnum most xs = .inr e) : e = 4 ∨ e = 5 ∨ e = 6 := by
  unfold tnum at h
  split at h
  · rename_i hk; cases h; rcases tk_err hk with h | h <;> omega
  · split at h
    · cases h; omega
    · cases h
theorem F73_eq (xs : List Int) : F73 xs = some (match xs with | [] => .inr (tie 5 []) | b :: r => .inl (tin b r)) := by
  unfold F73
  cases xs with
  | nil => rfl
  | cons b r =>
    simp only [Bool.cond_eq_ite, beq_iff_eq, List.length_cons, decide_eq_true_eq]
    rw [if_neg (by omega), if_pos (by omega), if_pos (by omega)]
    rfl
theorem F60_eq (most : Int) (xs : List Int) (hb : Bys xs) (hl : xs.length < 2 ^ 63) (hm : most < lim) : F60 most xs = some (match tkT most xs with | .inl q => .inl (tin q.1 q.2) | .inr e => .inr (tie e xs)) := by
  unfold F60
  rw [F70_eq xs most hb hl hm]
  simp only [Option.bind_some]
  cases h : tkT most xs with
  | inl q => rfl
  | inr e =>
    have he : e ≠ 0 := by
      unfold tkT at h
      split at h
      · rename_i hk; cases h; rcases tk_err hk with h | h <;> omega
      · split at h
        · cases h; omega
        · split at h
          · cases h; omega
          · cases h
    simp only
    rw [F81_n he]
    rfl
theorem F61_eq (xs : List Int) : F61 xs = some (match xs with | [] => .inl ((), (([], ()), ()), ()) | b :: r => .inr (tie 4 (b :: r))) := by
  unfold F61
  cases xs with
  | nil => rfl
  | cons b r =>
    simp only [cif, List.length_cons]
    rw [if_pos (by omega)]
    rfl

def dgs : List Int → List Int
  | [] => []
  | n :: l => dg n ++ dgs l
theorem dgs_len : ∀ l, (dgs l).length ≤ 10 * l.length
  | [] => by simp [dgs]
  | n :: l => by have := dgs_len l; have := dg_len n; simp only [dgs, List.length_append, List.length_cons]; omega
theorem dgs_byte : ∀ {l : List Int}, Vok l → Bys (dgs l)
  | [], _ => fun x hx => by cases hx
  | n :: l, h => (dg_byte (h n (List.mem_cons_self ..)).1 (h n (List.mem_cons_self ..)).2).app (dgs_byte fun x hx => h x (List.mem_cons_of_mem _ hx))
/-- A vector's bytes. -/
def encL (l : List Int) : List Int := dg l.length ++ dgs l
def encV (v : List Int) : List Int := encL (trim v)
theorem encL_len (l : List Int) : (encL l).length ≤ 10 + 10 * l.length := by
  unfold encL; have := dgs_len l; have := dg_len l.length; simp; omega
theorem trim_sub (a : List Int) : ∀ x ∈ trim a, x ∈ a := fun x hx => List.mem_of_mem_take hx
theorem trim_le (a : List Int) : (trim a).length ≤ a.length := by rw [trim_len]; exact trimN_le _ _

theorem L53_run (v : List Int) (hv : Vok v) (hl : v.length < 2 ^ 30) : ∀ (d k : Nat) (q : List Int), k + d = v.length → q.length + 10 * d + 10 < lim → L53_4 v (v.length : Nat) (k : Nat) q = some (((), ()), (), (q ++ dgs (v.drop k), ())) := by
  intro d
  induction d with
  | zero =>
    intro k q hk hq
    rw [L53_4_eq]
    simp only [T53_4, cif]
    rw [if_neg (by omega), List.drop_eq_nil_of_le (by omega)]
    simp [dgs]
  | succ d ih =>
    intro k q hk hq
    have hlt : k < v.length := by omega
    obtain ⟨a0, a1⟩ := hv _ (List.getElem_mem hlt)
    have hg : v.getD (k : Int).toNat 0 = v[k] := by rw [Int.toNat_natCast, List.getD_eq_getElem?_getD, List.getElem?_eq_getElem hlt]; rfl
    have hw : IntKind.wrap .i64 ((k : Int) + 1) = ((k + 1 : Nat) : Int) := by rw [w64 (by omega) (by omega)]; omega
    rw [L53_4_eq]
    simp only [T53_4, cif, hg, hw]
    rw [if_pos (by omega), if_pos (by omega), F51_eq _ _ a0 a1 (by omega)]
    simp only [Option.bind_some, Sum.elim_inl]
    have := dg_len v[k]
    rw [ih (k + 1) _ (by omega) (by simp; omega), List.drop_eq_getElem_cons hlt]
    simp [dgs]
theorem F53_eq (v q : List Int) (hv : Vok v) (hl : v.length < 2 ^ 30) (hq : q.length + 10 * v.length + 30 < lim) : F53 v q = some (ro (q ++ encV v)) := by
  unfold F53
  have h1 := trim_le v
  have h2 := dg_len (trim v).length
  rw [F62_eq v (by omega)]
  simp only [Option.bind_some]
  rw [wu64 (by omega) (by omega), F51_eq _ _ (by omega) (by omega) (by omega)]
  simp only [Option.bind_some]
  have := L53_run (trim v) (fun x hx => hv x (trim_sub v x hx)) (by omega) (trim v).length 0 (q ++ dg (trim v).length) (by omega) (by simp; omega)
  rw [show ((0 : Nat) : Int) = 0 from rfl] at this
  rw [this]
  simp [encV, encL]

theorem L37a_run (p a : List Int) (hn : a.length < 2 ^ 39) : ∀ k, k ≤ a.length → L28_2 p a (k : Nat) = some (r1 ((trimN a k : Nat) : Int)) := by
  intro k
  induction k with
  | zero =>
    intro _
    rw [L28_2_eq]
    simp only [T28_2, cif]
    rw [if_neg (by omega)]
    rfl
  | succ k ih =>
    intro hk
    rw [L28_2_eq]
    have hw : IntKind.wrap .i64 (((k + 1 : Nat) : Int) - 1) = (k : Int) := by rw [w64 (by omega) (by omega)]; omega
    simp only [T28_2, cif]
    rw [hw, if_pos (by omega), if_pos (by omega)]
    simp only [Int.toNat_natCast]
    by_cases h : gv a k = 0
    · have hb : (a.getD k 0 == 0) = true := by simpa using h
      rw [hb]
      simp only [cond_true, Option.bind_some, Sum.elim_inl]
      rw [ih (by omega)]
      simp only [trimN]
      rw [if_pos h]
    · have hb : (a.getD k 0 == 0) = false := by simpa using h
      rw [hb]
      simp only [cond_false, Option.bind_some, Sum.elim_inr, trimN]
      rw [if_neg h]
theorem L37b_run (v : List Int) (n : Nat) (hn : n ≤ v.length) (hv : Vok v) (hl : v.length < 2 ^ 30) : ∀ (d k : Nat) (q : List Int), k + d = n → q.length + 10 * d + 10 < lim → L28_6 v (n : Nat) (k : Nat) q = some (((), ()), (), (q ++ dgs ((v.take n).drop k), ())) := by
  intro d
  induction d with
  | zero =>
    intro k q hk hq
    rw [L28_6_eq]
    simp only [T28_6, cif]
    rw [if_neg (by omega), List.drop_eq_nil_of_le (by simp; omega)]
    simp [dgs]
  | succ d ih =>
    intro k q hk hq
    have hlt : k < v.length := by omega
    obtain ⟨a0, a1⟩ := hv _ (List.getElem_mem hlt)
    have hg : v.getD (k : Int).toNat 0 = v[k] := by rw [Int.toNat_natCast, List.getD_eq_getElem?_getD, List.getElem?_eq_getElem hlt]; rfl
    have hw : IntKind.wrap .i64 ((k : Int) + 1) = ((k + 1 : Nat) : Int) := by rw [w64 (by omega) (by omega)]; omega
    rw [L28_6_eq]
    simp only [T28_6, cif, hg, hw]
    rw [if_pos (by omega), if_pos (by omega), F26_eq _ _ a0 a1 (by omega)]
    simp only [Option.bind_some, Sum.elim_inl]
    have := dg_len v[k]
    rw [ih (k + 1) _ (by omega) (by simp; omega), List.drop_eq_getElem_cons (l := v.take n) (i := k) (by simp; omega)]
    simp [dgs]

def Sml (v : List Int) : Prop := ∀ x ∈ v, 0 ≤ x ∧ x ≤ 9223372036854775807

def rdN : Nat → List Int → (List Int × List Int) ⊕ (Int × List Int)
  | 0, xs => .inl ([], xs)
  | k + 1, xs => match tnum 9223372036854775807 xs with
    | .inr e => .inr (e, xs)
    | .inl (n, r) => match rdN k r with
      | .inl (l, r') => .inl (n :: l, r')
      | .inr e => .inr e
theorem tnum_byte {xs rest : List Int} {n most : Int} (hb : Bys xs) (h : tnum most xs = .inl (n, rest)) : Bys rest := by
  obtain ⟨h1, _⟩ := tnum_some hb h
  intro x hx
  exact hb x (by rw [h1]; exact List.mem_append.2 (.inr hx))
theorem L59_run : ∀ (d k n : Nat) (xs q : List Int), k + d = n → n ≤ 64 → Bys xs → q.length + d < 1000000 →
    L59_3 (n : Nat) (k : Nat) xs q = some (match rdN d xs with | .inl (l, r) => .inr (((), ()), ((r, ()), ()), (q ++ l, ())) | .inr (e, r) => .inl (tie e r)) := by
  intro d
  induction d with
  | zero =>
    intro k n xs q hk hn hb hq
    rw [L59_3_eq]
    simp only [T59_3, cif]
    rw [if_neg (by omega)]
    simp [rdN]
  | succ d ih =>
    intro k n xs q hk hn hb hq
    rw [L59_3_eq]
    simp only [T59_3, cif]
    rw [if_pos (by omega), F58_eq _ _ hb]
    unfold rdN
    cases h : tnum 9223372036854775807 xs with
    | inr e => rfl
    | inl p =>
      obtain ⟨m, r⟩ := p
      have hw : IntKind.wrap .u64 ((k : Int) + 1) = ((k + 1 : Nat) : Int) := by rw [wu64 (by omega) (by omega)]; omega
      simp only [Option.bind_some, Sum.elim_inl, hw]
      rw [if_pos (by show _ < 1099511627776; simp; omega)]
      simp only [Option.bind_some, Sum.elim_inl]
      rw [ih (k + 1) n r (q ++ [m]) (by omega) hn (tnum_byte hb h) (by simp; omega)]
      cases h2 : rdN d r with
      | inr e => rfl
      | inl p => obtain ⟨l, r'⟩ := p; simp
def rdV (xs : List Int) : (List Int × List Int) ⊕ (Int × List Int) :=
  match tnum 64 xs with
  | .inr e => .inr (e, xs)
  | .inl (n, r) => rdN n.toNat r
theorem F59_eq (xs : List Int) (hb : Bys xs) : F59 xs = some (match rdV xs with | .inl (l, r) => .inl (tin l r) | .inr (e, r) => .inr (tie e r)) := by
  unfold F59 rdV
  rw [F58_eq _ _ hb]
  cases h : tnum 64 xs with
  | inr e => rfl
  | inl p =>
    obtain ⟨n, r⟩ := p
    obtain ⟨h1, h2, h3, h4⟩ := tnum_some hb h
    simp only [Option.bind_some, Sum.elim_inl]
    have := L59_run n.toNat 0 n.toNat r [] (by omega) (by omega) (tnum_byte hb h) (by simp; omega)
    rw [show ((0 : Nat) : Int) = 0 from rfl, Int.toNat_of_nonneg h2] at this
    rw [this]
    cases h5 : rdN n.toNat r with
    | inr e => rfl
    | inl p => obtain ⟨l, r'⟩ := p; rfl
theorem rdN_app : ∀ (l rest : List Int), Sml l → rdN l.length (dgs l ++ rest) = .inl (l, rest)
  | [], rest, _ => rfl
  | n :: l, rest, h => by
    obtain ⟨h0, h1⟩ := h n (List.mem_cons_self ..)
    show rdN (l.length + 1) (dg n ++ dgs l ++ rest) = _
    unfold rdN
    rw [List.append_assoc, tnum_app h0 (by omega) h1]
    simp only
    rw [rdN_app l rest fun x hx => h x (List.mem_cons_of_mem _ hx)]
theorem rdV_app (l rest : List Int) (h : Sml l) (hl : l.length ≤ 64) : rdV (encL l ++ rest) = .inl (l, rest) := by
  unfold rdV encL
  rw [List.append_assoc, tnum_app (by omega) (by omega) (by omega)]
  simp only [Int.toNat_natCast]
  exact rdN_app l rest h
theorem rdN_some : ∀ (k : Nat) (xs l rest : List Int), Bys xs → rdN k xs = .inl (l, rest) → xs = dgs l ++ rest ∧ l.length = k ∧ Sml l ∧ Bys rest
  | 0, xs, l, rest, hb, h => by cases h; exact ⟨rfl, rfl, fun x hx => (by cases hx), hb⟩
  | k + 1, xs, l, rest, hb, h => by
    unfold rdN at h
    cases h1 : tnum 9223372036854775807 xs with
    | inr e => rw [h1] at h; cases h
    | inl p =>
      obtain ⟨n, r⟩ := p
      rw [h1] at h
      dsimp only at h
      cases h2 : rdN k r with
      | inr e => rw [h2] at h; cases h
      | inl p =>
        obtain ⟨l', r'⟩ := p
        rw [h2] at h
        cases h
        obtain ⟨g1, g2, g3, g4⟩ := tnum_some hb h1
        obtain ⟨k1, k2, k3, k4⟩ := rdN_some k r l' rest (tnum_byte hb h1) h2
        refine ⟨?_, by simp [k2], fun x hx => ?_, k4⟩
        · rw [g1, k1]; simp [dgs]
        · rcases List.mem_cons.1 hx with rfl | hx
          · exact ⟨g2, g4⟩
          · exact k3 x hx
theorem rdV_some {xs l rest : List Int} (hb : Bys xs) (h : rdV xs = .inl (l, rest)) : xs = encL l ++ rest ∧ Sml l ∧ l.length ≤ 64 ∧ Bys rest := by
  unfold rdV at h
  cases h1 : tnum 64 xs with
  | inr e => rw [h1] at h; cases h
  | inl p =>
    obtain ⟨n, r⟩ := p
    rw [h1] at h
    obtain ⟨g1, g2, g3, g4⟩ := tnum_some hb h1
    obtain ⟨k1, k2, k3, k4⟩ := rdN_some n.toNat r l rest (tnum_byte hb h1) h
    refine ⟨?_, k3, by omega, k4⟩
    unfold encL
    rw [k2, Int.toNat_of_nonneg g2, g1, k1, List.append_assoc]
theorem rdN_err : ∀ {k : Nat} {xs r : List Int} {e : Int}, rdN k xs = .inr (e, r) → e = 4 ∨ e = 5 ∨ e = 6
  | 0, xs, r, e, h => by cases h
  | k + 1, xs, r, e, h => by
    unfold rdN at h
    cases h1 : tnum 9223372036854775807 xs with
    | inr e => rw [h1] at h; cases h; exact tnum_err h1
    | inl p =>
      obtain ⟨n, r'⟩ := p
      rw [h1] at h
      dsimp only at h
      cases h2 : rdN k r' with
      | inr p => rw [h2] at h; cases h; exact rdN_err h2
      | inl p => rw [h2] at h; cases h
theorem rdV_err {xs r : List Int} {e : Int} (h : rdV xs = .inr (e, r)) : e = 4 ∨ e = 5 ∨ e = 6 := by
  unfold rdV at h
  cases h1 : tnum 64 xs with
  | inr e => rw [h1] at h; cases h; exact tnum_err h1
  | inl p => rw [h1] at h; exact rdN_err h

theorem Sml.vok {v : List Int} (h : Sml v) : Vok v := fun x hx => by have := h x hx; omega
theorem Sml.trim {v : List Int} (h : Sml v) : Sml (trim v) := fun x hx => h x (trim_sub v x hx)

theorem encL_byte {l : List Int} (h : Vok l) (hl : l.length < 2 ^ 63) : Bys (encL l) := (dg_byte (by omega) (by omega)).app (dgs_byte h)


theorem trim_self {a : List Int} (h : a.length = 0 ∨ gv a (a.length - 1) ≠ 0) : trim a = a := by
  unfold trim
  have : trimN a a.length = a.length := by
    cases hn : a.length with
    | zero => rfl
    | succ n =>
      rw [hn] at h
      rcases h with h | h
      · omega
      · simp only [trimN]; rw [if_neg (show ¬ gv a n = 0 from h)]
  rw [this, List.take_length]
theorem trim_idem (a : List Int) : trim (trim a) = trim a := trim_self (trim_last a)
theorem trim_of_len {a : List Int} (h : (trim a).length = a.length) : trim a = a := by
  unfold trim at h ⊢
  rw [List.length_take] at h
  have := trimN_le a a.length
  rw [show trimN a a.length = a.length from by omega, List.take_length]
/-- A vector of some bytes. -/

theorem strL_app (a b : List Int) : strL (a ++ b) = strL a ++ strL b := by
  unfold strL
  apply ByteArray.ext
  simp
theorem strL_size (a : List Int) : (strL a).size = a.length := by unfold strL; show (Array.size _) = _; simp


theorem ok_f64 {n : Nat} (h : okE (.f .f64) n) : n < 18446744073709551616 := by
  have h2 : (Lit.float .f64 n).wf = true := h
  simp [Lit.wf] at h2
  omega
theorem bytesL_byte (s : ByteArray) : Bys (bytesL s) := fun x hx => by
  unfold bytesL at hx
  obtain ⟨b, _, rfl⟩ := List.mem_map.1 hx
  have := b.toNat_lt
  omega
theorem strL_bytesL (s : ByteArray) : strL (bytesL s) = s := by
  have : ((fun n : Int => UInt8.ofNat n.toNat) ∘ fun b : UInt8 => (b.toNat : Int)) = id := by funext b; simp
  unfold strL bytesL
  apply ByteArray.ext
  simp [this]

/-! ### Eight bytes -/
theorem or_shl8 {acc x : Int} (h0 : 0 ≤ acc) (h1 : acc < 72057594037927936) (x0 : 0 ≤ x) (x1 : x < 256) : iOr .u64 (iShl .u64 acc 8) (IntKind.wrap .u64 x) = acc * 256 + x := by
  obtain ⟨a, rfl⟩ := Int.eq_ofNat_of_zero_le h0
  obtain ⟨y, rfl⟩ := Int.eq_ofNat_of_zero_le x0
  have hs : iShl .u64 (a : Int) 8 = ((a <<< 8 : Nat) : Int) := by
    show IntKind.wrap .u64 ((a : Int) * 2 ^ 8) = _
    rw [Nat.shiftLeft_eq, wu64 (by omega) (by omega)]
    simp
  rw [hs, wu64 (by omega) (by omega), or_nat (by rw [Nat.shiftLeft_eq]; omega) (by omega), ← Nat.shiftLeft_add_eq_or_of_lt (by omega : y < 2 ^ 8), Nat.shiftLeft_eq]
  omega
def num8 (acc : Int) (l : List Int) : Int := l.foldl (fun a x => a * 256 + x) acc
theorem L97_run : ∀ (k : Nat) (acc : Int) (xs : List Int), k ≤ 8 → Bys xs → 0 ≤ acc → acc < 256 ^ (8 - k) →
    L97_3 acc (8 - (k : Int)) xs = some (if k ≤ xs.length then .inr (tin (num8 acc (xs.take k)) (xs.drop k)) else .inl (tie 5 [])) := by
  intro k
  induction k with
  | zero =>
    intro acc xs hk hb h0 h1
    rw [L97_3_eq]
    simp only [T97_3, cif]
    rw [if_neg (by omega), if_pos (by omega)]
    rfl
  | succ k ih =>
    intro acc xs hk hb h0 h1
    rw [L97_3_eq]
    simp only [T97_3, cif]
    rw [if_pos (by omega), F73_eq]
    cases xs with
    | nil => rw [if_neg (by simp)]; rfl
    | cons x r =>
      obtain ⟨x0, x1⟩ := hb x (List.mem_cons_self ..)
      have hp : (256 : Int) ^ (8 - k) = 256 ^ (8 - (k + 1)) * 256 := by rw [show 8 - k = (8 - (k + 1)) + 1 from by omega, Int.pow_succ]
      have h56 : acc < 72057594037927936 := by
        have : ∀ j : Nat, j ≤ 7 → (256 : Int) ^ j ≤ 72057594037927936 := by decide
        have := this (8 - (k + 1)) (by omega)
        omega
      have hw : IntKind.wrap .i64 (8 - ((k + 1 : Nat) : Int) + 1) = 8 - (k : Int) := by rw [w64 (by omega) (by omega)]; omega
      simp only [Option.bind_some, Sum.elim_inl, hw, or_shl8 h0 h56 x0 x1]
      rw [ih _ r (by omega) (fun y hy => hb y (List.mem_cons_of_mem _ hy)) (by omega) (by rw [hp]; omega)]
      by_cases c : k ≤ r.length
      · rw [if_pos c, if_pos (by simp; omega)]; rfl
      · rw [if_neg c, if_neg (by simp; omega)]
theorem F97_eq (xs : List Int) (hb : Bys xs) : F97 xs = some (if 8 ≤ xs.length then .inl (tin (num8 0 (xs.take 8)) (xs.drop 8)) else .inr (tie 5 [])) := by
  unfold F97
  have := L97_run 8 0 xs (by omega) hb (by omega) (by decide)
  rw [show (8 : Int) - ((8 : Nat) : Int) = 0 from rfl] at this
  rw [this]
  by_cases c : 8 ≤ xs.length
  · rw [if_pos c, if_pos c]; rfl
  · rw [if_neg c, if_neg c]; rfl
theorem fixF_num (n : Int) (h0 : 0 ≤ n) : ∀ k, num8 (n / 256 ^ k) (fixF n k) = n
  | 0 => by simp [fixF, num8]
  | k + 1 => by
    show num8 (n / 256 ^ (k + 1) * 256 + n / 256 ^ k % 256) (fixF n k) = n
    have : n / 256 ^ (k + 1) * 256 + n / 256 ^ k % 256 = n / 256 ^ k := by
      rw [Int.pow_succ, ← Int.ediv_ediv_of_nonneg (Int.le_of_lt (Int.pow_pos (by decide)))]
      omega
    rw [this]
    exact fixF_num n h0 k
theorem fix8_num {n : Int} (h0 : 0 ≤ n) (h1 : n < 18446744073709551616) : num8 0 (fix8 n) = n := by
  have := fixF_num n h0 8
  rwa [show n / 256 ^ 8 = 0 from Int.ediv_eq_zero_of_lt h0 h1] at this
theorem fixF_byte (n : Int) : ∀ k, Bys (fixF n k)
  | 0 => fun x hx => by cases hx
  | k + 1 => fun x hx => by
    rcases List.mem_cons.1 hx with rfl | hx
    · omega
    · exact fixF_byte n k x hx
theorem F97_fix {n : Int} (h0 : 0 ≤ n) (h1 : n < 18446744073709551616) (rest : List Int) (hr : Bys rest) : F97 (fix8 n ++ rest) = some (.inl (tin n rest)) := by
  have hl : (fix8 n).length = 8 := fixF_len n 8
  have hb : Bys (fix8 n ++ rest) := (fixF_byte n 8).app hr
  rw [F97_eq _ hb, if_pos (by simp; omega), List.take_left' hl, List.drop_left' hl, fix8_num h0 h1]
theorem qbits_lt {n : Nat} (h : n < 18446744073709551616) : qbits n < 18446744073709551616 := by unfold qbits; split <;> omega
theorem F96_q (n : Nat) : F96 (qbits n) = some (((qbits n).toNat, true, ()), (), ()) := by
  unfold F96
  rw [F84_eq]
  simp only [Option.bind_some, qbits_twice, beq_self_eq_true]

/-- An event that may be: its texts' bytes. -/
structure EvB (e : Ev) : Prop where
  w : EvW e
  text : Bys e.2.2.2.2.2.1
  num : e.2.2.2.2.2.2.1 < 18446744073709551616
theorem dgT_byte {t : List Int} (h : Bys t) (hl : t.length < 2 ^ 63) : Bys (dgT t) := (dg_byte (by omega) (by omega)).app h
theorem rgt_zero {e : Ev} (h : rgt e = 0) : 0 ≤ e.1 ∧ e.1 ≤ 63 ∧ 1 ≤ e.2.2.2.1 ∧ e.2.2.2.1 ≤ 6 ∧ (e.2.2.2.1 = 5 → 0 ≤ e.2.2.2.2.2.2.2.1 ∧ e.2.2.2.2.2.2.2.1 ≤ 63) ∧
    (e.2.2.2.1 ≤ 4 → e.2.2.2.2.1.size ≤ 64) ∧ (e.2.2.2.1 = 1 → e.2.2.2.2.2.1.length ≤ 1048576) := by
  unfold rgt at h
  split at h
  · cases h
  split at h
  · cases h
  split at h
  · cases h
  split at h
  · cases h
  omega

theorem bytesL_strL {t : List Int} (h : Bys t) : bytesL (strL t) = t := by
  unfold bytesL strL
  simp only [List.map_map]
  conv => rhs; rw [← List.map_id t]
  apply List.map_congr_left
  intro x hx
  have := h x hx
  simp [UInt8.toNat_ofNat']
  omega
theorem num8_div : ∀ (l : List Int) (acc : Int), Bys l → num8 acc l / 256 ^ l.length = acc
  | [], acc, _ => by simp [num8]
  | x :: r, acc, h => by
    have ih := num8_div r (acc * 256 + x) (fun y hy => h y (List.mem_cons_of_mem _ hy))
    have hx := h x (List.mem_cons_self ..)
    rw [List.length_cons, Int.pow_succ, ← Int.ediv_ediv_of_nonneg (Int.le_of_lt (Int.pow_pos (by decide)))]
    rw [show num8 acc (x :: r) = num8 (acc * 256 + x) r from rfl, ih]
    omega
theorem fixF_num8 : ∀ (l : List Int) (acc : Int), Bys l → fixF (num8 acc l) l.length = l
  | [], acc, _ => rfl
  | x :: r, acc, h => by
    have hr : Bys r := fun y hy => h y (List.mem_cons_of_mem _ hy)
    have hx := h x (List.mem_cons_self ..)
    have h1 := num8_div r (acc * 256 + x) hr
    show num8 (acc * 256 + x) r / 256 ^ r.length % 256 :: fixF (num8 (acc * 256 + x) r) r.length = x :: r
    rw [h1, fixF_num8 r _ hr]
    congr 1
    omega
theorem num8_nn : ∀ (l : List Int) (acc : Int), Bys l → 0 ≤ acc → 0 ≤ num8 acc l
  | [], acc, _, h => h
  | x :: r, acc, h, h0 => by
    have hx := h x (List.mem_cons_self ..)
    exact num8_nn r (acc * 256 + x) (fun y hy => h y (List.mem_cons_of_mem _ hy)) (by omega)
theorem fix8_num8 {l : List Int} (h : Bys l) (h8 : 8 ≤ l.length) : fix8 (num8 0 (l.take 8)) = l.take 8 := by
  have := fixF_num8 (l.take 8) 0 (h.take 8)
  rwa [List.length_take, Nat.min_eq_left h8] at this
theorem tkT_byte {xs t rest : List Int} {most : Int} (hb : Bys xs) (h : tkT most xs = .inl (t, rest)) : Bys t ∧ Bys rest := by
  obtain ⟨e, _⟩ := tkT_some hb h
  unfold dgT at e
  constructor
  · intro x hx; exact hb x (by rw [e]; simp [hx])
  · intro x hx; exact hb x (by rw [e]; simp [hx])
theorem tkT_err' {most e : Int} {xs : List Int} (h : tkT most xs = .inr e) : e = 4 ∨ e = 5 ∨ e = 6 := by
  unfold tkT at h
  split at h
  · rename_i hk; cases h; rcases tk_err hk with h | h <;> omega
  · split at h
    · cases h; omega
    · split at h
      · cases h; omega
      · cases h

/-- What is read back. -/
def Rd (s : List Int) (r : Option (((Int × (Int × (Int × (Int × (ByteArray × ((List Int) × (Nat × (Int × Unit)))))))) × (Int × Unit)) × Unit × Unit)) : Prop :=
  ∃ (x : Ev) (e : Int), r = some ((x, e, ()), (), ()) ∧ (e = 0 → rgt x = 0 → encE x = s ∧ EvW x)
theorem Rd.err {s : List Int} (x : Ev) {e : Int} (h : e = 4 ∨ e = 5 ∨ e = 6) : Rd s (some ((x, e, ()), (), ())) := ⟨x, e, rfl, fun h0 => by omega⟩
theorem done_rd {s r : List Int} (x : Ev) (h : r = [] → rgt x = 0 → encE x = s ∧ EvW x) :
    Rd s ((F61 r).bind fun y => Sum.elim (fun _ => some ((x, 0, ()), (), ())) (fun y => some ((x, y.1, ()), (), ())) y) := by
  rw [F61_eq]
  cases r with
  | nil => exact ⟨x, 0, rfl, fun _ => h rfl⟩
  | cons b r => exact ⟨x, 4, rfl, fun h0 => by cases h0⟩
theorem F96_eq (n : Int) : F96 n = some ((n.toNat, (qbits n.toNat == n), ()), (), ()) := by
  unfold F96
  rw [F84_eq]
  rfl
theorem q_rd {s r : List Int} (hb : Bys r) (f : Nat → Ev) (x0 z0 : Ev) (h : ∀ n : Int, 0 ≤ n → fix8 n = r → qbits n.toNat = n → encE (f n.toNat) = s ∧ EvW (f n.toNat)) :
    Rd s ((F97 r).bind fun y => Sum.elim (fun y => (F96 y.1.1).bind fun z => bif !z.1.2.1 then some ((z0, 4, ()), (), ()) else (F61 y.2.1.1.1).bind fun u => Sum.elim (fun _ => some ((f z.1.1, 0, ()), (), ())) (fun v => some ((f z.1.1, v.1, ()), (), ())) u)
      (fun y => some ((x0, y.1, ()), (), ())) y) := by
  rw [F97_eq _ hb]
  by_cases h8 : 8 ≤ r.length
  · rw [if_pos h8]
    simp only [Option.bind_some, Sum.elim_inl]
    rw [F96_eq]
    simp only [Option.bind_some]
    have h0 := num8_nn (r.take 8) 0 (hb.take 8) (by omega)
    have h2 := fix8_num8 hb h8
    generalize num8 0 (r.take 8) = n at *
    cases hq : (qbits n.toNat == n) with
    | false => exact Rd.err _ (.inl rfl)
    | true =>
      simp only [Bool.not_true, cond_false]
      refine done_rd _ (fun hr _ => h n h0 ?_ (beq_iff_eq.1 hq))
      rw [h2]
      have := List.take_append_drop 8 r
      rwa [hr, List.append_nil] at this
  · rw [if_neg h8]
    exact Rd.err _ (.inr (.inl rfl))
theorem n_rd {s r : List Int} (hb : Bys r) (f : Int → Ev) (x0 : Ev) (h : ∀ n : Int, 0 ≤ n → n ≤ 63 → dg n = r → encE (f (IntKind.wrap .i64 n)) = s ∧ EvW (f (IntKind.wrap .i64 n))) :
    Rd s ((F58 63 r).bind fun y => Sum.elim (fun y => (F61 y.2.1.1.1).bind fun u => Sum.elim (fun _ => some ((f (IntKind.wrap .i64 y.1.1), 0, ()), (), ())) (fun v => some ((f (IntKind.wrap .i64 y.1.1), v.1, ()), (), ())) u)
      (fun y => some ((x0, y.1, ()), (), ())) y) := by
  rw [F58_eq _ _ hb]
  cases h1 : tnum 63 r with
  | inr e => exact Rd.err _ (tnum_err h1)
  | inl q =>
    obtain ⟨n, r1⟩ := q
    obtain ⟨e1, n0, n1, n2⟩ := tnum_some hb h1
    simp only [Option.bind_some, Sum.elim_inl]
    exact done_rd _ (fun hr _ => h n n0 n2 (by rw [e1, hr, List.append_nil]))
theorem F89_any (s : List Int) (hb : Bys s) (hl : s.length < 2 ^ 62) : Rd s (F89 s) := by
  unfold F89 F57
  simp only [Option.bind_some]
  rw [F58_eq _ _ hb]
  cases h1 : tnum 63 s with
  | inr e => exact Rd.err _ (tnum_err h1)
  | inl q =>
  obtain ⟨w, r1⟩ := q
  obtain ⟨e1, w0, w1, w2⟩ := tnum_some hb h1
  have hb1 := tnum_byte hb h1
  simp only [Option.bind_some, Sum.elim_inl]
  rw [F58_eq _ _ hb1]
  cases h2 : tnum 18446744073709551615 r1 with
  | inr e => exact Rd.err _ (tnum_err h2)
  | inl q =>
  obtain ⟨a, r2⟩ := q
  obtain ⟨e2, a0, a1, a2⟩ := tnum_some hb1 h2
  have hb2 := tnum_byte hb1 h2
  simp only [Option.bind_some, Sum.elim_inl]
  rw [F58_eq _ _ hb2]
  cases h3 : tnum 18446744073709551615 r2 with
  | inr e => exact Rd.err _ (tnum_err h3)
  | inl q =>
  obtain ⟨t, r3⟩ := q
  obtain ⟨e3, t0, t1, t2⟩ := tnum_some hb2 h3
  have hb3 := tnum_byte hb2 h3
  simp only [Option.bind_some, Sum.elim_inl]
  rw [F73_eq]
  cases r3 with
  | nil => exact Rd.err _ (.inr (.inl rfl))
  | cons k r4 =>
  have hk := hb3 k (List.mem_cons_self ..)
  have hb4 : Bys r4 := fun y hy => hb3 y (List.mem_cons_of_mem _ hy)
  have hw : IntKind.wrap .i64 w = w := w64 (by omega) (by omega)
  have hw2 : IntKind.wrap .u64 w = w := wu64 (by omega) (by omega)
  have hl4 : r4.length < 2 ^ 62 := by
    have := congrArg List.length e1
    have := congrArg List.length e2
    have := congrArg List.length e3
    simp only [List.length_append, List.length_cons] at *
    omega
  have hs : s = dg w ++ dg a ++ dg t ++ [k] ++ r4 := by rw [e1, e2, e3]; simp
  have enc : ∀ (key : ByteArray) (text : List Int) (num : Nat) (node : Int), (if 1 ≤ k ∧ k ≤ 4 then dgT (bytesL key) else []) ++ encR k text num node = r4 → key.size < 4294967296 →
      encE (w, a, t, k, key, text, num, node, ()) = s ∧ EvW (w, a, t, k, key, text, num, node, ()) := by
    intro key text num node he hks
    refine ⟨?_, ⟨a0, a1, t0, t1, hks⟩⟩
    rw [hs]
    unfold encE
    simp only [hw2]
    rw [List.append_assoc, he]
  simp only [Option.bind_some, Sum.elim_inl, hw, cif]
  by_cases k4 : 1 ≤ k ∧ k ≤ 4
  · rw [if_pos (show k ≥ 1 from k4.1), if_pos k4.2, F60_eq _ _ hb4 (by omega) (by decide)]
    cases h5 : tkT 64 r4 with
    | inr e => exact Rd.err _ (tkT_err' h5)
    | inl q =>
    obtain ⟨key, r5⟩ := q
    obtain ⟨e5, m5⟩ := tkT_some hb4 h5
    obtain ⟨hkb, hb5⟩ := tkT_byte hb4 h5
    simp only [Option.bind_some, Sum.elim_inl]
    have hks : (strL key).size < 4294967296 := by
      rw [← bytesL_len, bytesL_strL hkb]; omega
    have hl5 : r5.length < 2 ^ 62 := by
      have := congrArg List.length e5
      simp only [List.length_append] at this
      omega
    simp only [if_pos k4] at enc
    by_cases c1 : k = 1
    · rw [show (k == 1) = true from beq_iff_eq.2 c1]
      simp only [cond_true]
      rw [F60_eq _ _ hb5 (by omega) (by decide)]
      cases h6 : tkT 1048576 r5 with
      | inr e => exact Rd.err _ (tkT_err' h6)
      | inl q =>
      obtain ⟨text, r6⟩ := q
      obtain ⟨e6, m6⟩ := tkT_some hb5 h6
      simp only [Option.bind_some, Sum.elim_inl]
      exact done_rd _ (fun h _ => enc (strL key) text 0 0 (by rw [bytesL_strL hkb]; unfold encR; rw [if_pos c1, e5, e6, h, List.append_nil]) hks)
    rw [show (k == 1) = false from beq_eq_false_iff_ne.2 c1]
    simp only [cond_false]
    by_cases c2 : k = 2
    · rw [show (k == 2) = true from beq_iff_eq.2 c2]
      simp only [cond_true]
      exact q_rd hb5 (fun n => (w, a, t, k, strL key, [], n, 0, ())) _ _ (fun n n0 hn hq => enc (strL key) [] n.toNat 0 (by rw [bytesL_strL hkb]; unfold encR; rw [if_neg c1, if_pos (.inl c2), e5, hq, hn]) hks)
    rw [show (k == 2) = false from beq_eq_false_iff_ne.2 c2]
    simp only [cond_false]
    by_cases c3 : k = 3
    · rw [show (k == 3) = true from beq_iff_eq.2 c3]
      simp only [cond_true]
      exact q_rd hb5 (fun n => (w, a, t, k, strL key, [], n, 0, ())) _ _ (fun n n0 hn hq => enc (strL key) [] n.toNat 0 (by rw [bytesL_strL hkb]; unfold encR; rw [if_neg c1, if_pos (.inr c3), e5, hq, hn]) hks)
    rw [show (k == 3) = false from beq_eq_false_iff_ne.2 c3, show (k == 5) = false from beq_eq_false_iff_ne.2 (by omega)]
    simp only [cond_false]
    exact done_rd _ (fun h _ => enc (strL key) [] 0 0 (by rw [bytesL_strL hkb]; unfold encR; rw [if_neg c1, if_neg (by omega), if_neg (by omega), e5, h]) hks)
  · simp only [if_neg k4, List.nil_append] at enc
    have key : Rd s (bif k == 1 then ((F60 1048576 r4).bind fun y => Sum.elim (fun y => (F61 y.2.1.1.1).bind fun u => Sum.elim (fun _ => some (((w, a, t, k, ByteArray.empty, y.1.1, 0, 0, ()), 0, ()), (), ())) (fun v => some (((w, a, t, k, ByteArray.empty, y.1.1, 0, 0, ()), v.1, ()), (), ())) u) (fun y => some (((w, a, t, k, ByteArray.empty, [], 0, 0, ()), y.1, ()), (), ())) y)
        else bif k == 2 then ((F97 r4).bind fun y => Sum.elim (fun y => (F96 y.1.1).bind fun z => bif !z.1.2.1 then some (((0, 0, 0, 0, ByteArray.empty, [], 0, 0, ()), 4, ()), (), ()) else (F61 y.2.1.1.1).bind fun u => Sum.elim (fun _ => some (((w, a, t, k, ByteArray.empty, [], z.1.1, 0, ()), 0, ()), (), ())) (fun v => some (((w, a, t, k, ByteArray.empty, [], z.1.1, 0, ()), v.1, ()), (), ())) u) (fun y => some (((w, a, t, k, ByteArray.empty, [], 0, 0, ()), y.1, ()), (), ())) y)
        else bif k == 3 then ((F97 r4).bind fun y => Sum.elim (fun y => (F96 y.1.1).bind fun z => bif !z.1.2.1 then some (((0, 0, 0, 0, ByteArray.empty, [], 0, 0, ()), 4, ()), (), ()) else (F61 y.2.1.1.1).bind fun u => Sum.elim (fun _ => some (((w, a, t, k, ByteArray.empty, [], z.1.1, 0, ()), 0, ()), (), ())) (fun v => some (((w, a, t, k, ByteArray.empty, [], z.1.1, 0, ()), v.1, ()), (), ())) u) (fun y => some (((w, a, t, k, ByteArray.empty, [], 0, 0, ()), y.1, ()), (), ())) y)
        else bif k == 5 then ((F58 63 r4).bind fun y => Sum.elim (fun y => (F61 y.2.1.1.1).bind fun u => Sum.elim (fun _ => some (((w, a, t, k, ByteArray.empty, [], 0, IntKind.wrap .i64 y.1.1, ()), 0, ()), (), ())) (fun v => some (((w, a, t, k, ByteArray.empty, [], 0, IntKind.wrap .i64 y.1.1, ()), v.1, ()), (), ())) u) (fun y => some (((w, a, t, k, ByteArray.empty, [], 0, 0, ()), y.1, ()), (), ())) y)
        else ((F61 r4).bind fun u => Sum.elim (fun _ => some (((w, a, t, k, ByteArray.empty, [], 0, 0, ()), 0, ()), (), ())) (fun v => some (((w, a, t, k, ByteArray.empty, [], 0, 0, ()), v.1, ()), (), ())) u)) := by
      rw [show (k == 1) = false from beq_eq_false_iff_ne.2 (by omega), show (k == 2) = false from beq_eq_false_iff_ne.2 (by omega), show (k == 3) = false from beq_eq_false_iff_ne.2 (by omega)]
      simp only [cond_false]
      by_cases c5 : k = 5
      · rw [show (k == 5) = true from beq_iff_eq.2 c5]
        simp only [cond_true]
        exact n_rd hb4 (fun n => (w, a, t, k, ByteArray.empty, [], 0, n, ())) _ (fun n n0 n1 hn => enc ByteArray.empty [] 0 (IntKind.wrap .i64 n) (by
          unfold encR
          rw [if_neg (by omega), if_neg (by omega), if_pos c5, w64 (by omega) (by omega), wu64 (by omega) (by omega), hn]) (by decide))
      · rw [show (k == 5) = false from beq_eq_false_iff_ne.2 c5]
        simp only [cond_false]
        exact done_rd _ (fun h _ => enc ByteArray.empty [] 0 0 (by unfold encR; rw [if_neg (by omega), if_neg (by omega), if_neg (by omega), h]) (by decide))
    by_cases g1 : k ≥ 1
    · rw [if_pos g1, if_neg (by omega)]
      exact key
    · rw [if_neg g1]
      exact key
/-- What is read is what was laid; or there is nothing. -/
theorem F75_any (s : List Int) (hb : Bys s) (hl : s.length < 2 ^ 62) : ∃ (x : Ev) (e : Int), F75 s = some ((x, e, ()), (), ()) ∧ ((e = 0 ∧ rgt x = 0 ∧ encE x = s ∧ EvW x) ∨ (e ≠ 0 ∧ x = (0, 0, 0, 0, ByteArray.empty, [], 0, 0, ()))) := by
  obtain ⟨x, e, h, h2⟩ := F89_any s hb hl
  unfold F75
  rw [h]
  simp only [Option.bind_some]
  by_cases e0 : e = 0
  · rw [show (e == 0) = true from beq_iff_eq.2 e0]
    simp only [cond_true]
    rw [show F90 _ = _ from F90_eq x]
    simp only [Option.bind_some]
    by_cases hr : rgt x = 0
    · rw [hr]
      exact ⟨x, 0, rfl, .inl ⟨rfl, hr, h2 e0 hr⟩⟩
    · rw [show (rgt x != 0) = true from bne_iff_ne.2 hr]
      exact ⟨_, rgt x, rfl, .inr ⟨hr, rfl⟩⟩
  · rw [show (e == 0) = false from beq_eq_false_iff_ne.2 e0, show (e != 0) = true from bne_iff_ne.2 e0]
    exact ⟨_, e, rfl, .inr ⟨e0, rfl⟩⟩

end Go.IM.V

/- Plain: the two sums of bytes are one. -/
set_option linter.unusedVariables false
set_option linter.unusedSimpArgs false
namespace Go.IM.Crc
open Go Go.IM
noncomputable def stepI (s : Int) : Int := iXor .u32 (iShr .u32 s 1) (IntKind.wrap .u32 (2197175160 * iAnd .u32 s 1))
noncomputable def stepsI : Nat → Int → Int
  | 0, s => s
  | d + 1, s => stepsI d (stepI s)
noncomputable def sumI : List UInt8 → Int → Int
  | [], s => s
  | b :: r, s => sumI r (stepsI 8 (iXor .u32 s (IntKind.wrap .u32 (b.toNat : Int))))

noncomputable def topI (s : Int) : Int := iShr .u32 s 31
noncomputable def bitI (b : Int) (k : Nat) : Int := iAnd .u32 (IntKind.wrap .u32 (iShr .u8 b ((k : Nat) : Int))) 1
noncomputable def rstepI (b : Int) (k : Nat) (s : Int) : Int := if bitI b k = topI s then iShl .u32 s 1 else iXor .u32 (iShl .u32 s 1) 517762881
/-- d steps from the k-th bit on. -/
noncomputable def rstepsI (b : Int) : Nat → Nat → Int → Int
  | 0, _, s => s
  | d + 1, k, s => rstepsI b d (k + 1) (rstepI b k s)
noncomputable def rsumI : List UInt8 → Int → Int
  | [], s => s
  | b :: r, s => rsumI r (rstepsI (b.toNat : Int) 8 0 s)
noncomputable def turnI (s : Int) : Nat → Nat → Int → Int
  | 0, _, t => t
  | d + 1, k, t => turnI s d (k + 1) (iOr .u32 (iShl .u32 t 1) (iAnd .u32 (iShr .u32 s ((k : Nat) : Int)) 1))

noncomputable def rsum (B : List UInt8) : Int := turnI (iNot .u32 (rsumI B 4294967295)) 32 0 0
/- Plain: the two sums are one. -/

theorem wrap_u32 (n : Int) : IntKind.wrap .u32 n = n % 4294967296 := by
  simp [IntKind.wrap, IntKind.bits, IntKind.signed]
theorem ofInt_toNat (s : BitVec 32) : BitVec.ofInt 32 (s.toNat : Int) = s := by
  apply BitVec.eq_of_toNat_eq
  have := s.isLt
  rw [BitVec.toNat_ofInt]
  omega
theorem wrap_bv (s : BitVec 32) : IntKind.wrap .u32 (s.toNat : Int) = (s.toNat : Int) := by
  have := s.isLt
  rw [wrap_u32]; omega
theorem xor_bv (s t : BitVec 32) : iXor .u32 (s.toNat : Int) (t.toNat : Int) = ((s ^^^ t).toNat : Int) := by
  unfold iXor
  show IntKind.wrap .u32 ((BitVec.ofInt 32 (s.toNat : Int) ^^^ BitVec.ofInt 32 (t.toNat : Int)).toNat : Int) = _
  rw [ofInt_toNat, ofInt_toNat, wrap_bv]
theorem and_bv (s t : BitVec 32) : iAnd .u32 (s.toNat : Int) (t.toNat : Int) = ((s &&& t).toNat : Int) := by
  unfold iAnd
  show IntKind.wrap .u32 ((BitVec.ofInt 32 (s.toNat : Int) &&& BitVec.ofInt 32 (t.toNat : Int)).toNat : Int) = _
  rw [ofInt_toNat, ofInt_toNat, wrap_bv]
theorem or_bv (s t : BitVec 32) : iOr .u32 (s.toNat : Int) (t.toNat : Int) = ((s ||| t).toNat : Int) := by
  unfold iOr
  show IntKind.wrap .u32 ((BitVec.ofInt 32 (s.toNat : Int) ||| BitVec.ofInt 32 (t.toNat : Int)).toNat : Int) = _
  rw [ofInt_toNat, ofInt_toNat, wrap_bv]
theorem not_bv (s : BitVec 32) : iNot .u32 (s.toNat : Int) = ((~~~s).toNat : Int) := by
  unfold iNot
  have h : (if IntKind.u32.signed then (-1 : Int) else IntKind.u32.max) = ((BitVec.allOnes 32).toNat : Int) := by decide
  rw [h, xor_bv, BitVec.allOnes_xor]
theorem shr_bv (s : BitVec 32) (n : Nat) (hn : n ≤ 32) : iShr .u32 (s.toNat : Int) (n : Int) = ((s >>> n).toNat : Int) := by
  unfold iShr
  have h : min (n : Int).toNat IntKind.u32.bits = n := by show min n 32 = n; omega
  rw [h, BitVec.toNat_ushiftRight, Nat.shiftRight_eq_div_pow]
  have h2 : ((2 : Int) ^ n) = ((2 ^ n : Nat) : Int) := by simp
  rw [h2, Int.fdiv_eq_ediv_of_nonneg _ (Int.natCast_nonneg _)]
  rfl
theorem shl_bv (s : BitVec 32) : iShl .u32 (s.toNat : Int) 1 = ((s <<< 1).toNat : Int) := by
  unfold iShl
  have h : min (1 : Int).toNat IntKind.u32.bits = 1 := by decide
  rw [h, wrap_u32, BitVec.toNat_shiftLeft, Nat.shiftLeft_eq]
  have := s.isLt
  omega
theorem mul_bv (s : BitVec 32) : IntKind.wrap .u32 (2197175160 * (s.toNat : Int)) = ((2197175160#32 * s).toNat : Int) := by
  rw [wrap_u32, BitVec.toNat_mul]
  show _ = ((2197175160 * s.toNat % 2 ^ 32 : Nat) : Int)
  omega

/-! ### In bit vectors -/
def pad (b : UInt8) : BitVec 32 := BitVec.ofNat 32 b.toNat
def stepB (s : BitVec 32) : BitVec 32 := (s >>> 1) ^^^ (2197175160#32 * (s &&& 1#32))
def stepsB : Nat → BitVec 32 → BitVec 32
  | 0, s => s
  | d + 1, s => stepsB d (stepB s)
def sumB : List UInt8 → BitVec 32 → BitVec 32
  | [], s => s
  | b :: r, s => sumB r (stepsB 8 (s ^^^ pad b))

theorem one_bv : (1 : Int) = ((1#32).toNat : Int) := by decide
theorem step_bv (s : BitVec 32) : stepI (s.toNat : Int) = ((stepB s).toNat : Int) := by
  unfold stepI stepB
  have h : iShr .u32 (s.toNat : Int) 1 = ((s >>> 1).toNat : Int) := shr_bv s 1 (by omega)
  have h2 : iAnd .u32 (s.toNat : Int) 1 = ((s &&& 1#32).toNat : Int) := by
    have := and_bv s 1#32
    exact this
  rw [h, h2, mul_bv, xor_bv]
theorem steps_bv : ∀ (d : Nat) (s : BitVec 32), stepsI d (s.toNat : Int) = ((stepsB d s).toNat : Int) := by
  intro d
  induction d with
  | zero => intro s; rfl
  | succ d ih => intro s; rw [stepsI, stepsB, step_bv, ih]
theorem pad_toNat (b : UInt8) : (b.toNat : Int) = ((pad b).toNat : Int) := by
  unfold pad
  have := b.toNat_lt
  rw [BitVec.toNat_ofNat]; omega
theorem sum_bv : ∀ (B : List UInt8) (s : BitVec 32), sumI B (s.toNat : Int) = ((sumB B s).toNat : Int) := by
  intro B
  induction B with
  | nil => intro s; rfl
  | cons b r ih => intro s; rw [sumI, sumB, pad_toNat, wrap_bv, xor_bv, steps_bv, ih]

/-! ### Bit by bit -/
def bitStep (β : Bool) (s : BitVec 32) : BitVec 32 := (s >>> 1) ^^^ (if s.getLsbD 0 != β then 2197175160#32 else 0#32)
def bitsStep (b : BitVec 32) : Nat → Nat → BitVec 32 → BitVec 32
  | 0, _, s => s
  | d + 1, k, s => bitsStep b d (k + 1) (bitStep (b.getLsbD k) s)

theorem and_one (s : BitVec 32) : s &&& 1#32 = if s.getLsbD 0 then 1#32 else 0#32 := by
  apply BitVec.eq_of_getLsbD_eq
  intro i hi
  rw [BitVec.getLsbD_and]
  by_cases h : i = 0
  · subst h
    cases hs : s.getLsbD 0 <;> simp
  · have : (1#32).getLsbD i = false := by
      rw [BitVec.getLsbD_one]; simp; omega
    rw [this]
    cases hs : s.getLsbD 0 <;> simp [this]
theorem stepB_bit (s : BitVec 32) : stepB s = (s >>> 1) ^^^ (if s.getLsbD 0 then 2197175160#32 else 0#32) := by
  unfold stepB
  rw [and_one]
  cases s.getLsbD 0 <;> simp

theorem split (b : BitVec 32) : ∀ (d k : Nat) (s : BitVec 32), stepsB d (s ^^^ (b >>> k)) = bitsStep b d k s ^^^ (b >>> (k + d)) := by
  intro d
  induction d with
  | zero => intro k s; rfl
  | succ d ih =>
    intro k s
    rw [stepsB, bitsStep]
    have h : stepB (s ^^^ (b >>> k)) = bitStep (b.getLsbD k) s ^^^ (b >>> (k + 1)) := by
      rw [stepB_bit]
      unfold bitStep
      have e1 : (s ^^^ b >>> k) >>> 1 = s >>> 1 ^^^ b >>> (k + 1) := by
        apply BitVec.eq_of_getLsbD_eq
        intro i hi
        simp [BitVec.getLsbD_ushiftRight, Nat.add_comm, Nat.add_left_comm, Nat.add_assoc]
      have e2 : (s ^^^ b >>> k).getLsbD 0 = (s.getLsbD 0 != b.getLsbD k) := by simp
      rw [e1, e2]
      rw [BitVec.xor_assoc, BitVec.xor_assoc, BitVec.xor_comm (b >>> (k + 1))]
    rw [h, ih (k + 1), show k + 1 + d = k + (d + 1) by omega]

theorem split8 (b : UInt8) (s : BitVec 32) : stepsB 8 (s ^^^ pad b) = bitsStep (pad b) 8 0 s := by
  have h := split (pad b) 8 0 s
  have e0 : pad b >>> 0 = pad b := by simp
  have e8 : pad b >>> (0 + 8) = 0#32 := by
    apply BitVec.eq_of_toNat_eq
    have := b.toNat_lt
    rw [BitVec.toNat_ushiftRight, Nat.shiftRight_eq_div_pow]
    unfold pad
    rw [BitVec.toNat_ofNat]
    simp
    omega
  rw [e0, e8] at h
  rw [h, BitVec.xor_zero]

/- Plain: the two sums are one (by the highest bit first). -/

def rev (s : BitVec 32) : BitVec 32 := s.reverse
theorem rev_get (s : BitVec 32) (i : Nat) (hi : i < 32) : (rev s).getLsbD i = s.getLsbD (31 - i) := by
  unfold rev
  rw [BitVec.getLsbD_reverse, BitVec.getMsbD]
  simp [hi]
theorem rev_xor (s t : BitVec 32) : rev (s ^^^ t) = rev s ^^^ rev t := by
  apply BitVec.eq_of_getLsbD_eq
  intro i hi
  rw [rev_get _ _ hi, BitVec.getLsbD_xor, BitVec.getLsbD_xor, rev_get _ _ hi, rev_get _ _ hi]
theorem rev_not (s : BitVec 32) : rev (~~~s) = ~~~(rev s) := by
  apply BitVec.eq_of_getLsbD_eq
  intro i hi
  rw [rev_get _ _ hi, BitVec.getLsbD_not, BitVec.getLsbD_not, rev_get _ _ hi]
  simp [hi]; omega
theorem rev_rev (s : BitVec 32) : rev (rev s) = s := by
  apply BitVec.eq_of_getLsbD_eq
  intro i hi
  rw [rev_get _ _ hi, rev_get _ _ (by omega)]
  congr 1; omega
theorem rev_shr (s : BitVec 32) : rev (s >>> 1) = rev s <<< 1 := by
  apply BitVec.eq_of_getLsbD_eq
  intro i hi
  rw [rev_get _ _ hi, BitVec.getLsbD_ushiftRight, BitVec.getLsbD_shiftLeft]
  by_cases h : i = 0
  · subst h
    simp
  · rw [rev_get _ _ (by omega)]
    have : 1 + (31 - i) = 31 - (i - 1) := by omega
    rw [this]
    simp [hi]; omega

def rstepB (β : Bool) (s : BitVec 32) : BitVec 32 := (s <<< 1) ^^^ (if s.getLsbD 31 != β then 517762881#32 else 0#32)
theorem rstep_rev (β : Bool) (s : BitVec 32) : rstepB β (rev s) = rev (bitStep β s) := by
  unfold rstepB bitStep
  rw [rev_xor, rev_shr, rev_get _ _ (by omega)]
  have e1 : rev 2197175160#32 = 517762881#32 := by decide +kernel
  have e2 : rev 0#32 = 0#32 := by decide +kernel
  congr 1
  by_cases h : (s.getLsbD (31 - 31) != β) = true
  · have h2 : (s.getLsbD 0 != β) = true := h
    rw [if_pos h, if_pos h2, e1]
  · have h2 : ¬ (s.getLsbD 0 != β) = true := h
    rw [if_neg h, if_neg h2, e2]

theorem bit_toNat (s : BitVec 32) : ((s &&& 1#32).toNat : Int) = if s.getLsbD 0 then 1 else 0 := by
  rw [and_one]; cases s.getLsbD 0 <;> simp
theorem bit_bv (b : UInt8) (k : Nat) (hk : k < 8) : bitI (b.toNat : Int) k = if (pad b).getLsbD k then 1 else 0 := by
  unfold bitI
  have h1 : iShr .u8 (b.toNat : Int) (k : Int) = ((pad b >>> k).toNat : Int) := by
    have := shr_bv (pad b) k (by omega)
    rw [← pad_toNat] at this
    rw [← this]
    unfold iShr
    have e : min (k : Int).toNat IntKind.u8.bits = min (k : Int).toNat IntKind.u32.bits := by show min k 8 = min k 32; omega
    rw [e]
  rw [h1, wrap_bv]
  have h2 := and_bv (pad b >>> k) 1#32
  have h3 : iAnd .u32 ((pad b >>> k).toNat : Int) 1 = (((pad b >>> k) &&& 1#32).toNat : Int) := h2
  rw [h3, bit_toNat]
  simp
theorem top_bv (s : BitVec 32) : topI (s.toNat : Int) = if s.getLsbD 31 then 1 else 0 := by
  unfold topI
  have h : iShr .u32 (s.toNat : Int) 31 = ((s >>> 31).toNat : Int) := shr_bv s 31 (by omega)
  rw [h]
  have h2 : s >>> 31 = (s >>> 31) &&& 1#32 := by
    apply BitVec.eq_of_getLsbD_eq
    intro i hi
    rw [BitVec.getLsbD_and, BitVec.getLsbD_ushiftRight, BitVec.getLsbD_one]
    by_cases h : i = 0
    · subst h; simp
    · rw [BitVec.getLsbD_of_ge _ _ (by omega)]; simp
  rw [h2, bit_toNat]
  simp
theorem rstep_bv (b : UInt8) (k : Nat) (hk : k < 8) (s : BitVec 32) : rstepI (b.toNat : Int) k (s.toNat : Int) = ((rstepB ((pad b).getLsbD k) s).toNat : Int) := by
  unfold rstepI rstepB
  rw [bit_bv b k hk, top_bv, shl_bv]
  have hx : iXor .u32 ((s <<< 1).toNat : Int) 517762881 = ((s <<< 1 ^^^ 517762881#32).toNat : Int) := xor_bv (s <<< 1) 517762881#32
  rw [hx]
  cases (pad b).getLsbD k <;> cases s.getLsbD 31 <;> simp
theorem rsteps_bv (b : UInt8) : ∀ (d k : Nat), k + d ≤ 8 → ∀ (s : BitVec 32), rstepsI (b.toNat : Int) d k ((rev s).toNat : Int) = ((rev (bitsStep (pad b) d k s)).toNat : Int) := by
  intro d
  induction d with
  | zero => intro k _ s; rfl
  | succ d ih =>
    intro k hk s
    rw [rstepsI, bitsStep, rstep_bv b k (by omega), rstep_rev, ih (k + 1) (by omega)]
theorem rsum_bv : ∀ (B : List UInt8) (s : BitVec 32), rsumI B ((rev s).toNat : Int) = ((rev (sumB B s)).toNat : Int) := by
  intro B
  induction B with
  | nil => intro s; rfl
  | cons b r ih => intro s; rw [rsumI, sumB, rsteps_bv b 8 0 (by omega), ih, split8]

/-! ### The bits turned -/
def turnB (s : BitVec 32) : Nat → Nat → BitVec 32 → BitVec 32
  | 0, _, t => t
  | d + 1, k, t => turnB s d (k + 1) ((t <<< 1) ||| ((s >>> k) &&& 1#32))
theorem turn_bv (s : BitVec 32) : ∀ (d k : Nat), k + d ≤ 32 → ∀ (t : BitVec 32), turnI (s.toNat : Int) d k (t.toNat : Int) = ((turnB s d k t).toNat : Int) := by
  intro d
  induction d with
  | zero => intro k _ t; rfl
  | succ d ih =>
    intro k hk t
    rw [turnI, turnB, shl_bv, shr_bv s k (by omega)]
    have h3 : iAnd .u32 ((s >>> k).toNat : Int) 1 = (((s >>> k) &&& 1#32).toNat : Int) := and_bv (s >>> k) 1#32
    rw [h3, or_bv, ih (k + 1) (by omega)]
theorem turn_spec (s : BitVec 32) : ∀ (d k : Nat), k + d = 32 → ∀ (t : BitVec 32), (∀ j, j < 32 → t.getLsbD j = (decide (j < k) && s.getLsbD (k - 1 - j))) → turnB s d k t = rev s := by
  intro d
  induction d with
  | zero =>
    intro k hk t ht
    obtain rfl : k = 32 := by omega
    apply BitVec.eq_of_getLsbD_eq
    intro i hi
    show t.getLsbD i = _
    rw [ht i hi, rev_get _ _ hi]
    simp [hi]
  | succ d ih =>
    intro k hk t ht
    rw [turnB]
    refine ih (k + 1) (by omega) _ fun j hj => ?_
    rw [BitVec.getLsbD_or, BitVec.getLsbD_shiftLeft, BitVec.getLsbD_and, BitVec.getLsbD_ushiftRight, BitVec.getLsbD_one]
    by_cases h0 : j = 0
    · subst h0; simp
    · rw [ht (j - 1) (by omega)]
      have e : k - 1 - (j - 1) = k + 1 - 1 - j := by omega
      rw [e]
      by_cases hjk : j < k + 1
      · have : j - 1 < k := by omega
        simp [hjk, this, hj, h0]
      · have : ¬ j - 1 < k := by omega
        simp [hjk, this, h0]

theorem sums_alike (B : List UInt8) : iNot .u32 (sumI B 4294967295) = rsum B := by
  have e1 : (4294967295 : Int) = ((BitVec.allOnes 32).toNat : Int) := by decide
  have e2 : (4294967295 : Int) = ((rev (BitVec.allOnes 32)).toNat : Int) := by decide +kernel
  unfold rsum
  have h1 : sumI B 4294967295 = ((sumB B (BitVec.allOnes 32)).toNat : Int) := by rw [e1, sum_bv]
  have h2 : rsumI B 4294967295 = ((rev (sumB B (BitVec.allOnes 32))).toNat : Int) := by rw [e2, rsum_bv]
  rw [h1, h2, not_bv, not_bv]
  have h3 := turn_bv (~~~(rev (sumB B (BitVec.allOnes 32)))) 32 0 (by omega) 0#32
  have e0 : ((0#32).toNat : Int) = 0 := by decide
  rw [e0] at h3
  rw [h3, turn_spec _ 32 0 rfl 0#32 (fun j _ => by simp), rev_not, rev_rev]


end Go.IM.Crc

/- Records: what the printed functions tell. -/
set_option linter.unusedVariables false
set_option linter.unusedSimpArgs false
set_option linter.constructorNameAsVariable false
namespace Go.IM.V
open Go Go.IM Go.Proofs

open Go.IM.Crc
def toB (xs : List Int) : List UInt8 := xs.map fun n => UInt8.ofNat n.toNat
theorem toB_get {xs : List Int} (hb : Bys xs) {i : Nat} (h : i < xs.length) : xs.getD i 0 = (((toB xs)[i]'(by simpa [toB] using h)).toNat : Int) := by
  have := hb _ (List.getElem_mem h)
  rw [List.getD_eq_getElem?_getD, List.getElem?_eq_getElem h]
  simp only [toB, List.getElem_map, Option.getD_some, UInt8.toNat_ofNat']
  omega
theorem toB_len (xs : List Int) : (toB xs).length = xs.length := by simp [toB]


theorem L11a_run (a7 : List Int) (a8 a9 : Int) : ∀ (d k : Nat) (s : Int), k + d = 8 → L72_7 s a7 a8 a9 (k : Nat) = some (r1 (stepsI d s)) := by
  intro d
  induction d with
  | zero =>
    intro k s hk
    rw [L72_7_eq]
    simp only [T72_7, cif]
    rw [if_neg (by omega)]
    rfl
  | succ d ih =>
    intro k s hk
    have hw : IntKind.wrap .i64 ((k : Int) + 1) = ((k + 1 : Nat) : Int) := by rw [w64 (by omega) (by omega)]; omega
    rw [L72_7_eq]
    simp only [T72_7, cif]
    rw [if_pos (by omega), hw]
    simp only [Option.bind_some, Sum.elim_inl]
    exact ih (k + 1) _ (by omega)
theorem L72_run (xs : List Int) (hb : Bys xs) (hl : xs.length < 2 ^ 62) : ∀ (d i : Nat) (s : Int), i + d = xs.length → L72_3 s xs (xs.length : Nat) (i : Nat) = some (r1 (sumI ((toB xs).drop i) s)) := by
  intro d
  induction d with
  | zero =>
    intro i s hi
    rw [L72_3_eq]
    simp only [T72_3, cif]
    rw [if_neg (by omega), List.drop_eq_nil_of_le (by rw [toB_len]; omega)]
    rfl
  | succ d ih =>
    intro i s hi
    have hlt : i < xs.length := by omega
    have hw : IntKind.wrap .i64 ((i : Int) + 1) = ((i + 1 : Nat) : Int) := by rw [w64 (by omega) (by omega)]; omega
    have h8 := fun s => L11a_run xs (xs.length : Nat) (i : Nat) 8 0 s (by omega)
    rw [show ((0 : Nat) : Int) = 0 from rfl] at h8
    rw [L72_3_eq]
    simp only [T72_3, cif]
    rw [if_pos (by omega), if_pos (by omega), h8, hw]
    simp only [Option.bind_some, Sum.elim_inl, Int.toNat_natCast, toB_get hb hlt]
    rw [ih (i + 1) _ (by omega), List.drop_eq_getElem_cons (l := toB xs) (i := i) (by rw [toB_len]; omega)]
    rfl
/-- The sum of bytes. -/
noncomputable def crc (xs : List Int) : Int := rsum (toB xs)
theorem F72_eq (xs : List Int) (hb : Bys xs) (hl : xs.length < 2 ^ 62) : F72 xs = some (r1 (crc xs)) := by
  unfold F72 crc
  have := L72_run xs hb hl xs.length 0 4294967295 (by omega)
  rw [show ((0 : Nat) : Int) = 0 from rfl] at this
  rw [this, ← sums_alike]
  rfl
theorem L12a_run (xs : List Int) (hb : Bys xs) (i : Nat) (hi : i < xs.length) : ∀ (d k : Nat) (s : Int), k + d = 8 → L39_6 xs s (i : Nat) (k : Nat) = some (r1 (rstepsI (xs.getD i 0) d k s)) := by
  intro d
  induction d with
  | zero =>
    intro k s hk
    rw [L39_6_eq]
    simp only [T39_6, cif]
    rw [if_neg (by omega)]
    rfl
  | succ d ih =>
    intro k s hk
    have hw : IntKind.wrap .i64 ((k : Int) + 1) = ((k + 1 : Nat) : Int) := by rw [w64 (by omega) (by omega)]; omega
    rw [L39_6_eq]
    simp only [T39_6, cif]
    rw [if_pos (by omega), if_pos (by omega), if_pos (by omega), hw]
    simp only [Int.toNat_natCast, Bool.cond_eq_ite, bne_iff_ne, ne_eq]
    have e : rstepsI (xs.getD i 0) (d + 1) k s = rstepsI (xs.getD i 0) d (k + 1) (rstepI (xs.getD i 0) k s) := rfl
    rw [e]
    by_cases c : bitI (xs.getD i 0) k = topI s
    · rw [if_neg (fun h => h c)]
      simp only [Option.bind_some, Sum.elim_inl]
      rw [ih (k + 1) _ (by omega)]
      unfold rstepI
      rw [if_pos c]
    · rw [if_pos (show ¬ iAnd IntKind.u32 (IntKind.u32.wrap (iShr IntKind.u8 (xs.getD i 0) (k : Int))) 1 = iShr IntKind.u32 s 31 from c)]
      simp only [Option.bind_some, Sum.elim_inl]
      rw [ih (k + 1) _ (by omega)]
      unfold rstepI
      rw [if_neg c]
theorem L39_run (xs : List Int) (hb : Bys xs) (hl : xs.length < 2 ^ 62) : ∀ (d i : Nat) (s : Int), i + d = xs.length → L39_3 xs s (i : Nat) = some (r1 (rsumI ((toB xs).drop i) s)) := by
  intro d
  induction d with
  | zero =>
    intro i s hi
    rw [L39_3_eq]
    simp only [T39_3, cif]
    rw [if_neg (by omega), List.drop_eq_nil_of_le (by rw [toB_len]; omega)]
    rfl
  | succ d ih =>
    intro i s hi
    have hlt : i < xs.length := by omega
    have hw : IntKind.wrap .i64 ((i : Int) + 1) = ((i + 1 : Nat) : Int) := by rw [w64 (by omega) (by omega)]; omega
    have h8 := L12a_run xs hb i hlt 8 0 s (by omega)
    rw [show ((0 : Nat) : Int) = 0 from rfl] at h8
    rw [L39_3_eq]
    simp only [T39_3, cif]
    rw [if_pos (by omega), h8, hw]
    simp only [Option.bind_some, Sum.elim_inl, toB_get hb hlt]
    rw [ih (i + 1) _ (by omega), List.drop_eq_getElem_cons (l := toB xs) (i := i) (by rw [toB_len]; omega)]
    rfl
theorem L12t_run (s : Int) : ∀ (d k : Nat) (t : Int), k + d = 32 → L39_16 s t (k : Nat) = some (r1 (turnI s d k t)) := by
  intro d
  induction d with
  | zero =>
    intro k t hk
    rw [L39_16_eq]
    simp only [T39_16, cif]
    rw [if_neg (by omega)]
    rfl
  | succ d ih =>
    intro k t hk
    have hw : IntKind.wrap .i64 ((k : Int) + 1) = ((k + 1 : Nat) : Int) := by rw [w64 (by omega) (by omega)]; omega
    rw [L39_16_eq]
    simp only [T39_16, cif]
    rw [if_pos (by omega), if_pos (by omega), hw]
    simp only [Option.bind_some, Sum.elim_inl]
    exact ih (k + 1) _ (by omega)
theorem F39_eq (xs : List Int) (hb : Bys xs) (hl : xs.length < 2 ^ 62) : F39 xs = some (r1 (crc xs)) := by
  unfold F39 crc
  have := L39_run xs hb hl xs.length 0 4294967295 (by omega)
  rw [show ((0 : Nat) : Int) = 0 from rfl] at this
  rw [this]
  have := L12t_run (iNot .u32 (rsumI (toB xs) 4294967295)) 32 0 0 (by omega)
  rw [show ((0 : Nat) : Int) = 0 from rfl] at this
  simp only [Option.bind_some, List.drop_zero]
  rw [this]
  rfl

def four (n : Int) : List Int := [IntKind.wrap .u8 (iShr .u32 n 24), IntKind.wrap .u8 (iShr .u32 n 16), IntKind.wrap .u8 (iShr .u32 n 8), IntKind.wrap .u8 n]
theorem four_byte (n : Int) : Bys (four n) := fun x hx => by
  simp only [four, List.mem_cons, List.not_mem_nil, or_false] at hx
  rcases hx with rfl | rfl | rfl | rfl <;> rw [wu8_mod] <;> omega
theorem four_len (n : Int) : (four n).length = 4 := rfl
theorem F71_eq (n : Int) : F71 n = some (r1 (four n)) := rfl
/-- A record. -/
noncomputable def rcd (p : List Int) : List Int := dgT p ++ four (crc (dgT p))

theorem rcd_byte {p : List Int} (h : Bys p) (hl : p.length < 2 ^ 63) : Bys (rcd p) := (dgT_byte h hl).app (four_byte _)
theorem rcd_len (p : List Int) : (rcd p).length = (dg p.length).length + p.length + 4 := by unfold rcd dgT; simp [four_len]; omega
theorem F13_eq (p : List Int) (hb : Bys p) (hl : p.length < 4294967296) : F13 p = some (ro (rcd p)) := by
  have h1 := dgT_len p
  have hlim : lim = 1099511627776 := rfl
  unfold F13
  rw [F27_eq _ _ hl (by simp; omega)]
  simp only [Option.bind_some, List.nil_append]
  rw [F39_eq _ (dgT_byte hb (by omega)) (by omega)]
  simp only [Option.bind_some, cif]
  rw [if_pos (by simp; omega)]
  rfl
theorem F49_eq (p : List Int) (hb : Bys p) (hl : p.length < 4294967296) : F49 p = some (ro (rcd p)) := by
  have h1 := dgT_len p
  have hlim : lim = 1099511627776 := rfl
  unfold F49
  rw [F52_eq _ _ hl (by simp; omega)]
  simp only [Option.bind_some, List.nil_append]
  rw [F72_eq _ (dgT_byte hb (by omega)) (by omega)]
  simp only [Option.bind_some, F71_eq, cif]
  rw [if_pos (by rw [four_len]; omega)]
  rfl
/-- The record ahead. -/
noncomputable def opn (most : Int) (xs : List Int) : (List Int × List Int) ⊕ Int :=
  match tkT most xs with
  | .inr e => .inr e
  | .inl (t, r) => if r.length < 4 then .inr 5 else if four (crc (xs.take (xs.length - r.length))) = r.take 4 then .inl (t, r.drop 4) else .inr 4
theorem tkT_err {most e : Int} {xs : List Int} (h : tkT most xs = .inr e) : e = 4 ∨ e = 5 ∨ e = 6 := by
  unfold tkT at h
  split at h
  · rename_i hk; cases h; rcases tk_err hk with h | h <;> omega
  · split at h
    · cases h; omega
    · split at h
      · cases h; omega
      · cases h
theorem F70_eq' (xs : List Int) (most : Int) (hb : Bys xs) (hl : xs.length < lim) (hm : most < 9223372036854775808) : F70 xs most = some (match tkT most xs with | .inl q => r3 q.1 q.2 0 | .inr e => r3 [] xs e) := by
  unfold F70 tkT
  rw [F80_eq xs hb]
  have hlim : lim = 1099511627776 := rfl
  cases h : tk 0 0 xs with
  | inr e =>
    simp only [Option.bind_some]
    rcases tk_err h with rfl | rfl <;> rfl
  | inl q =>
    obtain ⟨n, r⟩ := q
    obtain ⟨h1, h2, h3⟩ := tk_some hb h
    have hr : r.length ≤ xs.length := by rw [h1]; simp
    simp only [Option.bind_some, bne_self_eq_false, cond_false, cif]
    by_cases c1 : most < 0
    · rw [if_pos c1, if_pos (Or.inl c1)]
    · rw [if_neg c1, wu64 (n := most) (by omega) (by omega), wu64 (n := (r.length : Int)) (by omega) (by omega)]
      by_cases c2 : n > most
      · rw [if_pos c2, if_pos (Or.inr c2)]
      · rw [if_neg c2, if_neg (show ¬ (most < 0 ∨ n > most) from by omega)]
        by_cases c3 : n > (r.length : Int)
        · rw [if_pos c3, if_pos c3]
        · rw [if_neg c3, if_neg c3, if_pos (by omega), if_pos (by rw [List.length_take]; omega), if_pos (by omega)]
theorem F37_eq (xs : List Int) (most : Int) (hb : Bys xs) (hl : xs.length < lim) (hm : most < 9223372036854775808) :
    F37 xs most = some (match opn most xs with | .inl q => r3 q.1 q.2 0 | .inr e => r3 [] xs e) := by
  have hlim : lim = 1099511627776 := rfl
  unfold F37 opn
  rw [F70_eq' xs most hb hl hm]
  cases h : tkT most xs with
  | inr e =>
    simp only [Option.bind_some]
    rcases tkT_err h with rfl | rfl | rfl <;> rfl
  | inl q =>
    obtain ⟨t, r⟩ := q
    obtain ⟨h1, h2⟩ := tkT_some hb h
    have hr : r.length ≤ xs.length := by rw [h1]; simp
    have br : Bys r := fun x hx => hb x (by rw [h1]; exact List.mem_append.2 (.inr hx))
    have hw : IntKind.wrap .i64 ((xs.length : Int) - (r.length : Int)) = ((xs.length - r.length : Nat) : Int) := by rw [w64 (by omega) (by omega)]; omega
    simp only [Option.bind_some, bne_self_eq_false, cond_false, cif, hw, Int.toNat_natCast]
    by_cases c4 : r.length < 4
    · rw [if_pos (by omega), if_pos c4]
    · rw [if_neg (by omega), if_neg c4, if_pos (by omega), F72_eq _ (hb.take _) (by rw [List.length_take]; omega)]
      simp only [Option.bind_some, F71_eq]
      have h4 : (4 : Int).toNat = 4 := rfl
      rw [if_pos (by omega), h4, strL_beq (four_byte _) (br.take 4)]
      by_cases ce : four (crc (xs.take (xs.length - r.length))) = r.take 4
      · rw [decide_eq_true ce, if_pos ce]
        simp only [Bool.not_true, cond_false]
        rw [if_pos (by omega)]
      · rw [decide_eq_false ce, if_neg ce]
        rfl

/-! ### The reference's reading -/

theorem opn_some {xs t r : List Int} {most : Int} (hb : Bys xs) (h : opn most xs = .inl (t, r)) : xs = rcd t ++ r ∧ (t.length : Int) ≤ most ∧ t.length ≤ xs.length := by
  unfold opn at h
  cases h1 : tkT most xs with
  | inr e => rw [h1] at h; cases h
  | inl q =>
    obtain ⟨t', r'⟩ := q
    rw [h1] at h
    dsimp only at h
    obtain ⟨g1, g2⟩ := tkT_some hb h1
    split at h
    · cases h
    · split at h
      · rename_i c4 ce
        cases h
        have hx : xs.take (xs.length - r'.length) = dgT t := by
          rw [g1, List.length_append, Nat.add_sub_cancel, List.take_left]
        rw [hx] at ce
        refine ⟨?_, g2, by rw [g1]; unfold dgT; simp; omega⟩
        unfold rcd
        rw [ce, List.append_assoc, List.take_append_drop, ← g1]
      · cases h

theorem opn_err {most e : Int} {xs : List Int} (h : opn most xs = .inr e) : e = 4 ∨ e = 5 ∨ e = 6 := by
  unfold opn at h
  split at h
  · rename_i h1; cases h; exact tkT_err h1
  · split at h
    · cases h; omega
    · split at h
      · cases h
      · cases h; omega

theorem opn_app {t rest : List Int} {most : Int} (h : (t.length : Int) ≤ most) (hl : t.length < 2 ^ 63) : opn most (rcd t ++ rest) = .inl (t, rest) := by
  unfold opn rcd
  rw [List.append_assoc, tkT_app h hl]
  dsimp only
  have e1 : (four (crc (dgT t)) ++ rest).length = 4 + rest.length := by rw [List.length_append, four_len]
  rw [if_neg (by omega)]
  have e2 : (dgT t ++ (four (crc (dgT t)) ++ rest)).take ((dgT t ++ (four (crc (dgT t)) ++ rest)).length - (four (crc (dgT t)) ++ rest).length) = dgT t := by
    rw [List.length_append, Nat.add_sub_cancel, List.take_left]
  rw [e2, List.take_left' (four_len _), List.drop_left' (four_len _), if_pos rfl]
theorem opn_long {t rest : List Int} {most : Int} (h : most < (t.length : Int)) (hl : t.length < 2 ^ 63) : opn most (rcd t ++ rest) = .inr 6 := by
  have : tkT most (rcd t ++ rest) = .inr 6 := by
    unfold tkT rcd dgT
    rw [List.append_assoc, List.append_assoc, tk_dg (by omega) (by omega)]
    dsimp only
    rw [if_pos (by omega)]
  unfold opn
  rw [this]

theorem stepB_inj {s t : BitVec 32} (h : stepB s = stepB t) : s = t := by
  rw [stepB_bit, stepB_bit] at h
  have hb : s.getLsbD 0 = t.getLsbD 0 := by
    cases hs : s.getLsbD 0 <;> cases ht : t.getLsbD 0
    · rfl
    · rw [hs, ht] at h
      have h31 := congrArg (fun x : BitVec 32 => x.getLsbD 31) h
      simp at h31
    · rw [hs, ht] at h
      have h31 := congrArg (fun x : BitVec 32 => x.getLsbD 31) h
      simp at h31
    · rfl
  rw [hb] at h
  have h2 : s >>> 1 = t >>> 1 := by
    have := congrArg (fun x : BitVec 32 => x ^^^ (if t.getLsbD 0 = true then 2197175160#32 else 0#32)) h
    simpa [BitVec.xor_assoc] using this
  apply BitVec.eq_of_getLsbD_eq
  intro i hi
  cases i with
  | zero => exact hb
  | succ i =>
    have := congrArg (fun x : BitVec 32 => x.getLsbD i) h2
    simp only [BitVec.getLsbD_ushiftRight] at this
    rwa [Nat.add_comm 1 i] at this
theorem stepsB_inj : ∀ (d : Nat) {s t : BitVec 32}, stepsB d s = stepsB d t → s = t
  | 0, s, t, h => h
  | d + 1, s, t, h => stepB_inj (stepsB_inj d h)
theorem sumB_inj : ∀ (B : List UInt8) {s t : BitVec 32}, sumB B s = sumB B t → s = t
  | [], s, t, h => h
  | b :: r, s, t, h => by
    have := stepsB_inj 8 (sumB_inj r h)
    have := congrArg (fun x => x ^^^ pad b) this
    simpa [BitVec.xor_assoc] using this
theorem pad_inj {a b : UInt8} (h : pad a = pad b) : a = b := by
  have := congrArg BitVec.toNat h
  have e := pad_toNat a
  have e2 := pad_toNat b
  apply UInt8.toNat_inj.1
  omega
theorem sumB_turn (X Y : List UInt8) (a b : UInt8) (s : BitVec 32) (h : sumB (X ++ a :: Y) s = sumB (X ++ b :: Y) s) : a = b := by
  induction X generalizing s with
  | nil =>
    have := stepsB_inj 8 (sumB_inj Y h)
    have := congrArg (fun x => s ^^^ x) this
    rw [← BitVec.xor_assoc, ← BitVec.xor_assoc, BitVec.xor_self, BitVec.zero_xor, BitVec.zero_xor] at this
    exact pad_inj this
  | cons x X ih => exact ih _ h
theorem crc_bv (xs : List Int) : crc xs = ((~~~(sumB (toB xs) 4294967295#32)).toNat : Int) := by
  unfold crc
  rw [← sums_alike, show (4294967295 : Int) = ((4294967295#32).toNat : Int) from by decide, sum_bv, not_bv]
theorem crc_nn (xs : List Int) : 0 ≤ crc xs ∧ crc xs < 4294967296 := by
  rw [crc_bv]; have := (~~~(sumB (toB xs) 4294967295#32)).isLt; omega
theorem toB_app (a b : List Int) : toB (a ++ b) = toB a ++ toB b := by simp [toB]
theorem crc_turn {X Y : List Int} {a b : Int} (ha : 0 ≤ a ∧ a < 256) (hb : 0 ≤ b ∧ b < 256) (h : crc (X ++ a :: Y) = crc (X ++ b :: Y)) : a = b := by
  rw [crc_bv, crc_bv] at h
  have h1 : ~~~(sumB (toB (X ++ a :: Y)) 4294967295#32) = ~~~(sumB (toB (X ++ b :: Y)) 4294967295#32) := BitVec.eq_of_toNat_eq (by exact_mod_cast h)
  have h2 : sumB (toB (X ++ a :: Y)) 4294967295#32 = sumB (toB (X ++ b :: Y)) 4294967295#32 := by
    have := congrArg (fun x => ~~~x) h1
    simpa using this
  rw [toB_app, toB_app] at h2
  have := sumB_turn (toB X) (toB Y) (UInt8.ofNat a.toNat) (UInt8.ofNat b.toNat) _ h2
  have := congrArg UInt8.toNat this
  simp only [UInt8.toNat_ofNat'] at this
  omega
theorem shr32 {n : Int} (h : 0 ≤ n) (k : Nat) (hk : k ≤ 32) : iShr .u32 n (k : Int) = n / 2 ^ k := by
  unfold iShr
  rw [Int.toNat_natCast, Nat.min_eq_left (show k ≤ IntKind.bits .u32 from hk), Int.fdiv_eq_ediv_of_nonneg _ (Int.le_of_lt (Int.pow_pos (by decide)))]
theorem four_inj {n m : Int} (hn : 0 ≤ n ∧ n < 4294967296) (hm : 0 ≤ m ∧ m < 4294967296) (h : four n = four m) : n = m := by
  unfold four at h
  have s1 := shr32 hn.1 24 (by omega)
  have s2 := shr32 hn.1 16 (by omega)
  have s3 := shr32 hn.1 8 (by omega)
  have t1 := shr32 hm.1 24 (by omega)
  have t2 := shr32 hm.1 16 (by omega)
  have t3 := shr32 hm.1 8 (by omega)
  rw [show ((24 : Nat) : Int) = 24 from rfl] at s1 t1
  rw [show ((16 : Nat) : Int) = 16 from rfl] at s2 t2
  rw [show ((8 : Nat) : Int) = 8 from rfl] at s3 t3
  simp only [s1, s2, s3, t1, t2, t3, wu8_mod, List.cons.injEq, and_true] at h
  obtain ⟨h1, h2, h3, h4⟩ := h
  have e1 : (2 : Int) ^ 24 = 16777216 := rfl
  have e2 : (2 : Int) ^ 16 = 65536 := rfl
  have e3 : (2 : Int) ^ 8 = 256 := rfl
  rw [e1] at h1; rw [e2] at h2; rw [e3] at h3
  omega
/-- Digits that are cut. -/
theorem tk_cut : ∀ (f i : Nat) (n acc : Int) (j : Nat), f + i = 9 → 0 ≤ n → n < 2 ^ (64 - 7 * i) → (0 < i → 1 ≤ n) → j < (dgF f n).length → tk i acc ((dgF f n).take j) = .inr 5 := by
  intro f
  induction f with
  | zero =>
    intro i n acc j hi h0 h1 hn hj
    simp only [dgF, List.length_singleton] at hj
    obtain rfl : j = 0 := by omega
    rfl
  | succ f ih =>
    intro i n acc j hi h0 h1 hn hj
    by_cases hs : n < 128
    · rw [dgF_lt hs] at hj ⊢
      simp only [List.length_singleton] at hj
      obtain rfl : j = 0 := by omega
      rfl
    · have e : dgF (f + 1) n = (128 + n % 128) :: dgF f (n / 128) := by rw [dgF, if_neg hs]
      rw [e] at hj ⊢
      cases j with
      | zero => rfl
      | succ j =>
        simp only [List.length_cons] at hj
        rw [List.take_succ_cons]
        unfold tk
        rw [if_neg (by omega), if_neg (by omega)]
        have hp : (2 : Int) ^ (64 - 7 * i) = 2 ^ (64 - 7 * (i + 1)) * 128 := by
          rw [show 64 - 7 * i = (64 - 7 * (i + 1)) + 7 from by omega, Int.pow_add]; rfl
        exact ih (i + 1) (n / 128) _ j (by omega) (by omega) (by rw [hp] at h1; omega) (fun _ => by omega) (by omega)
theorem opn_cut {p : List Int} (hl : p.length ≤ 1048576) {k : Nat} (hk : k < (rcd p).length) : opn 1048576 ((rcd p).take k) = .inr 5 := by
  have hw : rcd p = dg (p.length : Int) ++ (p ++ four (crc (dgT p))) := by unfold rcd dgT; rw [List.append_assoc]
  have hlen := rcd_len p
  by_cases c : k < (dg (p.length : Int)).length
  · have e : (rcd p).take k = (dg (p.length : Int)).take k := by rw [hw, List.take_append_of_le_length (by omega)]
    have : tkT 1048576 ((rcd p).take k) = .inr 5 := by
      unfold tkT
      rw [e, show tk 0 0 ((dg (p.length : Int)).take k) = .inr 5 from tk_cut 9 0 (p.length : Int) 0 k (by omega) (by omega) (by show _ < (18446744073709551616 : Int); omega) (by omega) c]
    unfold opn
    rw [this]
  · have e : (rcd p).take k = dg (p.length : Int) ++ (p ++ four (crc (dgT p))).take (k - (dg (p.length : Int)).length) := by
      rw [hw, List.take_append, List.take_of_length_le (by omega)]
    have hr : ((p ++ four (crc (dgT p))).take (k - (dg (p.length : Int)).length)).length = k - (dg (p.length : Int)).length := by
      rw [List.length_take, List.length_append, four_len]; omega
    rw [e]
    unfold opn tkT
    rw [tk_dg (by omega) (by omega)]
    dsimp only
    rw [if_neg (show ¬ ((1048576 : Int) < 0 ∨ (p.length : Int) > 1048576) from by omega)]
    by_cases c2 : (p.length : Int) > (((p ++ four (crc (dgT p))).take (k - (dg (p.length : Int)).length)).length : Int)
    · rw [if_pos c2]
    · rw [if_neg c2]
      dsimp only
      rw [if_pos (by rw [List.length_drop, hr, Int.toNat_natCast]; omega)]
theorem dgF_mono : ∀ (f : Nat) (n m : Int), 0 ≤ n → n ≤ m → (dgF f n).length ≤ (dgF f m).length
  | 0, _, _, _, _ => Nat.le_refl _
  | f + 1, n, m, h0, h => by
    unfold dgF
    split
    · split
      · exact Nat.le_refl _
      · simp
    · rw [if_neg (by omega)]
      have := dgF_mono f (n / 128) (m / 128) (by omega) (by omega)
      simp only [List.length_cons]; omega
theorem rcd_len_inj {b p : List Int} (h : (rcd b).length = (rcd p).length) : b.length = p.length := by
  rw [rcd_len, rcd_len] at h
  rcases Nat.lt_trichotomy b.length p.length with q | q | q
  · have : (dg (b.length : Int)).length ≤ (dg (p.length : Int)).length := dgF_mono 9 _ _ (by omega) (by omega)
    omega
  · exact q
  · have : (dg (p.length : Int)).length ≤ (dg (b.length : Int)).length := dgF_mono 9 _ _ (by omega) (by omega)
    omega
set_option maxRecDepth 8000 in
/-- A record of which a byte is turned. -/
theorem opn_turn {p : List Int} (hb : Bys p) (hl : p.length ≤ 1048576) {i : Nat} {x : Int} (hx : 0 ≤ x ∧ x < 256) (hi : i < (rcd p).length) (hne : x ≠ (rcd p)[i]) {b r : List Int} (h : opn 1048576 ((rcd p).set i x) = .inl (b, r)) : r ≠ [] ∧ b ≠ p := by
  have bw : Bys (rcd p) := rcd_byte hb (by omega)
  have bv : Bys ((rcd p).set i x) := fun y hy => by
    rcases List.mem_or_eq_of_mem_set hy with q | rfl
    · exact bw y q
    · exact hx
  obtain ⟨h1, h2, h3⟩ := opn_some bv h
  have hlen : (rcd p).length = (rcd b).length + r.length := by
    have := congrArg List.length h1
    rwa [List.length_set, List.length_append] at this
  have hbp : b ≠ p := by
    rintro rfl
    have hr : r = [] := List.eq_nil_of_length_eq_zero (by omega)
    rw [hr, List.append_nil] at h1
    have := congrArg (fun l : List Int => l[i]?) h1
    simp only [List.getElem?_set_self hi, List.getElem?_eq_getElem hi, Option.some.injEq] at this
    exact hne this
  refine ⟨fun hr => ?_, hbp⟩
  rw [hr, List.append_nil] at h1
  have hl2 : b.length = p.length := rcd_len_inj (by rw [hr] at hlen; simpa using hlen.symm)
  have hL : (dgT b).length = (dgT p).length := by unfold dgT; rw [List.length_append, List.length_append, hl2]
  have hw : rcd p = dgT p ++ four (crc (dgT p)) := rfl
  have hv : (rcd p).set i x = dgT b ++ four (crc (dgT b)) := h1
  by_cases c : i < (dgT p).length
  · have hset : (rcd p).set i x = (dgT p).set i x ++ four (crc (dgT p)) := by rw [hw, List.set_append_left _ _ c]
    rw [hset] at hv
    obtain ⟨e1, e2⟩ := List.append_inj hv (by rw [List.length_set]; exact hL.symm)
    have hc := four_inj (crc_nn _) (crc_nn _) e2
    rw [← e1, List.set_eq_take_append_cons_drop, if_pos c] at hc
    have hself : dgT p = (dgT p).take i ++ (dgT p)[i]'c :: (dgT p).drop (i + 1) := by
      rw [List.getElem_cons_drop, List.take_append_drop]
    have hwi : (rcd p)[i]'hi = (dgT p)[i]'c := by simp only [hw, List.getElem_append_left c]
    conv at hc => lhs; rw [hself]
    have hmem : (dgT p)[i]'c ∈ rcd p := by rw [← hwi]; exact List.getElem_mem hi
    have hbx := bw _ hmem
    have := crc_turn hbx hx hc
    exact hne (by rw [hwi]; exact this.symm)
  · have hset : (rcd p).set i x = dgT p ++ (four (crc (dgT p))).set (i - (dgT p).length) x := by rw [hw, List.set_append_right _ _ (by omega)]
    rw [hset] at hv
    obtain ⟨e1, e2⟩ := List.append_inj hv hL.symm
    unfold dgT at e1
    rw [hl2] at e1
    exact hbp (List.append_cancel_left e1).symm

end Go.IM.V

/- Letters: their bytes. -/
set_option linter.unusedVariables false
set_option linter.unusedSimpArgs false
set_option linter.constructorNameAsVariable false
namespace Go.IM.V
open Go Go.IM Go.Proofs

theorem F28_eq (q v : List Int) (hv : Vok v) (hl : v.length < 2 ^ 30) (hq : q.length + 10 * v.length + 30 < lim) : F28 q v = some (ro (q ++ encV v)) := by
  unfold F28
  have h1 := trim_le v
  rw [L37a_run q v (by omega) v.length (Nat.le_refl _)]
  simp only [Option.bind_some]
  have h2 := trimN_le v v.length
  have h3 := dg_len (trimN v v.length)
  rw [wu64 (by omega) (by omega), F26_eq _ _ (by omega) (by omega) (by omega)]
  simp only [Option.bind_some]
  have := L37b_run v (trimN v v.length) h2 hv hl (trimN v v.length) 0 (q ++ dg (trimN v v.length)) (by omega) (by simp; omega)
  rw [show ((0 : Nat) : Int) = 0 from rfl] at this
  rw [this]
  simp only [Option.bind_some]
  unfold encV encL
  rw [trim_len]
  simp [trim]

theorem lt_lim {n : Nat} (h : n < 200000000) : n < lim := by unfold lim; omega
abbrev Rw : Type := Int × List Int × Int × Unit
structure RwOK (r : Rw) : Prop where
  n0 : 0 ≤ r.1
  n1 : r.1 ≤ 63
  v : Sml r.2.1
  l : r.2.1.length ≤ 64
  t0 : 0 ≤ r.2.2.1
  t1 : r.2.2.1 ≤ 9223372036854775807
def encRw (r : Rw) : List Int := dg r.1 ++ encV r.2.1 ++ dg r.2.2.1
def encRs (l : List Rw) : List Int := dg l.length ++ l.flatMap encRw
theorem encV_len {v : List Int} {n : Nat} (h : v.length ≤ n) : (encV v).length ≤ 10 + 10 * n := by
  unfold encV
  have := encL_len (trim v)
  have := trim_le v
  omega
theorem encRw_len {r : Rw} (h : RwOK r) : (encRw r).length ≤ 700 := by
  unfold encRw
  have := dg_len r.1
  have := dg_len r.2.2.1
  have := encV_len h.l
  simp only [List.length_append]
  omega
theorem flat_len {α : Type} {f : α → List Int} {n : Nat} : ∀ {l : List α}, (∀ x ∈ l, (f x).length ≤ n) → (l.flatMap f).length ≤ n * l.length
  | [], _ => by simp
  | a :: l, h => by
    have h1 := h a (List.mem_cons_self ..)
    have h2 := flat_len (f := f) (n := n) (l := l) fun x hx => h x (List.mem_cons_of_mem _ hx)
    rw [List.flatMap_cons, List.length_append, List.length_cons, Nat.mul_succ]
    omega
theorem Sml.vk {v : List Int} (h : Sml v) : Vok v := fun x hx => by have := h x hx; omega

theorem getD_at {α : Type} {l : List α} {k : Nat} {d : α} (h : k < l.length) : l.getD (k : Int).toNat d = l[k] := by
  rw [Int.toNat_natCast, List.getD_eq_getElem?_getD, List.getElem?_eq_getElem h]; rfl

theorem L65_run (l : List Rw) (hl : l.length ≤ 100) (h : ∀ r ∈ l, RwOK r) : ∀ (d k : Nat) (q : List Int), k + d = l.length → q.length + 700 * d < 10000000 → L65_3 l (l.length : Nat) (k : Nat) q = some (((), ()), (), (q ++ (l.drop k).flatMap encRw, ())) := by
  intro d
  induction d with
  | zero =>
    intro k q hk hq
    rw [L65_3_eq]
    simp only [T65_3, cif]
    rw [if_neg (by omega), List.drop_eq_nil_of_le (by omega)]
    simp
  | succ d ih =>
    intro k q hk hq
    have hlt : k < l.length := by omega
    have hr := h _ (List.getElem_mem hlt)
    have hw : IntKind.wrap .i64 ((k : Int) + 1) = ((k + 1 : Nat) : Int) := by rw [w64 (by omega) (by omega)]; omega
    have d1 := dg_len (l[k]'hlt).1
    have d2 := encV_len hr.l
    have d3 := dg_len (l[k]'hlt).2.2.1
    have g0 := hr.n0
    have g1 := hr.n1
    have g2 := hr.l
    have g3 := hr.t0
    have g4 := hr.t1
    rw [L65_3_eq]
    simp only [T65_3, cif, getD_at hlt, hw]
    rw [if_pos (by omega), if_pos (by omega), wu64 (by omega) (by omega), F51_eq _ _ (by omega) (by omega) (lt_lim (by omega))]
    simp only [Option.bind_some]
    rw [F53_eq _ _ hr.v.vk (by omega) (lt_lim (by simp; omega))]
    simp only [Option.bind_some]
    rw [F51_eq _ _ (by omega) (by omega) (lt_lim (by simp; omega))]
    simp only [Option.bind_some, Sum.elim_inl]
    have e : q ++ dg (l[k]'hlt).1 ++ encV (l[k]'hlt).2.1 ++ dg (l[k]'hlt).2.2.1 = q ++ encRw (l[k]'hlt) := by unfold encRw; simp
    have := encRw_len hr
    rw [e, ih (k + 1) _ (by omega) (by simp; omega), List.drop_eq_getElem_cons hlt, List.flatMap_cons]
    simp
theorem F65_eq (l : List Rw) (q : List Int) (hl : l.length ≤ 64) (h : ∀ r ∈ l, RwOK r) (hq : q.length < 1000000) : F65 l q = some (ro (q ++ encRs l)) := by
  unfold F65
  have := dg_len (l.length : Int)
  rw [wu64 (by omega) (by omega), F51_eq _ _ (by omega) (by omega) (lt_lim (by omega))]
  simp only [Option.bind_some]
  have := L65_run l (by omega) h l.length 0 (q ++ dg (l.length : Int)) (by omega) (by simp; omega)
  rw [show ((0 : Nat) : Int) = 0 from rfl] at this
  rw [this]
  simp [encRs]
section
variable (x0 x1 x2 : Int) (x3 : Bool) (x4 : Int) (x5 : List Int) (x7 : List Ev) (x8 x9 x10 x11 : Int) (x12 : List Int) (x13 : Int)
theorem L10a_run (l : List Rw) (hl : l.length ≤ 100) (h : ∀ r ∈ l, RwOK r) : ∀ (d k : Nat) (q : List Int), k + d = l.length → q.length + 700 * d < 10000000 →
    L10_13 (k : Nat) x0 x1 x2 x3 x4 x5 l x7 x8 x9 x10 x11 x12 x13 q = some (((), ()), ((x0, x1, x2, x3, x4, x5, l, x7, x8, x9, x10, x11, x12, x13, ()), ()), (q ++ (l.drop k).flatMap encRw, ())) := by
  intro d
  induction d with
  | zero =>
    intro k q hk hq
    rw [L10_13_eq]
    simp only [T10_13, cif]
    rw [if_neg (by omega), List.drop_eq_nil_of_le (by omega)]
    simp
  | succ d ih =>
    intro k q hk hq
    have hlt : k < l.length := by omega
    have hr := h _ (List.getElem_mem hlt)
    have hw : IntKind.wrap .i64 ((k : Int) + 1) = ((k + 1 : Nat) : Int) := by rw [w64 (by omega) (by omega)]; omega
    have d1 := dg_len (l[k]'hlt).1
    have d2 := encV_len hr.l
    have d3 := dg_len (l[k]'hlt).2.2.1
    have g0 := hr.n0
    have g1 := hr.n1
    have g2 := hr.l
    have g3 := hr.t0
    have g4 := hr.t1
    have hcc : (0 : Int) ≤ (k : Int) ∧ (k : Int) < (l.length : Int) := by omega
    rw [L10_13_eq]
    simp only [T10_13, cif, getD_at hlt, hw]
    rw [if_pos (by omega), if_pos hcc, wu64 (by omega) (by omega), F26_eq _ _ (by omega) (by omega) (lt_lim (by omega))]
    simp only [Option.bind_some]
    rw [if_pos hcc, F28_eq _ _ hr.v.vk (by omega) (lt_lim (by simp; omega))]
    simp only [Option.bind_some]
    rw [if_pos hcc, F26_eq _ _ (by omega) (by omega) (lt_lim (by simp; omega))]
    simp only [Option.bind_some, Sum.elim_inl]
    have e : q ++ dg (l[k]'hlt).1 ++ encV (l[k]'hlt).2.1 ++ dg (l[k]'hlt).2.2.1 = q ++ encRw (l[k]'hlt) := by unfold encRw; simp
    have := encRw_len hr
    rw [e, ih (k + 1) _ (by omega) (by simp; omega), List.drop_eq_getElem_cons hlt, List.flatMap_cons]
    simp
end

/-- An event that may be, with few bytes. -/
structure EvR (e : Ev) : Prop where
  r : rgt e = 0
  w : EvW e
  l : (encE e).length ≤ 1000
  b : Bys (encE e)
def encEs (l : List Ev) : List Int := dg l.length ++ l.flatMap fun e => dgT (encE e)
theorem EvR.F66 {e : Ev} (h : EvR e) : F66 e = some (ro (encE e)) := F66_eq e (h.w.ok h.r)
theorem EvR.F33 {e : Ev} (h : EvR e) : F33 e = some (ro (encE e)) := F33_eq e (h.w.ok h.r) (rgt_kind h.r)
theorem EvR.len {e : Ev} (h : EvR e) : (dgT (encE e)).length ≤ 1010 := by
  have := dgT_len (encE e)
  have := h.l
  omega
theorem L32_run (l : List Ev) (hl : l.length ≤ 1000) (h : ∀ r ∈ l, EvR r) : ∀ (d k : Nat) (q : List Int), k + d = l.length → q.length + 1010 * d < 100000000 → L32_12 l (l.length : Nat) (k : Nat) q = some (((), ()), (), (q ++ (l.drop k).flatMap (fun e => dgT (encE e)), ())) := by
  intro d
  induction d with
  | zero =>
    intro k q hk hq
    rw [L32_12_eq]
    simp only [T32_12, cif]
    rw [if_neg (by omega), List.drop_eq_nil_of_le (by omega)]
    simp
  | succ d ih =>
    intro k q hk hq
    have hlt : k < l.length := by omega
    have hr := h _ (List.getElem_mem hlt)
    have hw : IntKind.wrap .i64 ((k : Int) + 1) = ((k + 1 : Nat) : Int) := by rw [w64 (by omega) (by omega)]; omega
    have d1 := hr.len
    have d2 := hr.l
    rw [L32_12_eq]
    simp only [T32_12, cif, getD_at hlt, hw]
    rw [if_pos (by omega), if_pos (by omega), show F66 _ = _ from hr.F66]
    simp only [Option.bind_some]
    rw [F52_eq _ _ (by omega) (lt_lim (by omega))]
    simp only [Option.bind_some, Sum.elim_inl]
    rw [ih (k + 1) _ (by omega) (by simp; omega), List.drop_eq_getElem_cons hlt, List.flatMap_cons]
    simp
section
variable (x0 x1 x2 : Int) (x3 : Bool) (x4 : Int) (x5 : List Int) (x6 : List Rw) (x8 x9 x10 x11 : Int) (x12 : List Int) (x13 : Int)
theorem L10b_run (l : List Ev) (hl : l.length ≤ 1000) (h : ∀ r ∈ l, EvR r) : ∀ (d k : Nat) (q : List Int), k + d = l.length → q.length + 1010 * d < 100000000 →
    L10_19 (k : Nat) x0 x1 x2 x3 x4 x5 x6 l x8 x9 x10 x11 x12 x13 q = some (((), ()), ((x0, x1, x2, x3, x4, x5, x6, l, x8, x9, x10, x11, x12, x13, ()), ()), (q ++ (l.drop k).flatMap (fun e => dgT (encE e)), ())) := by
  intro d
  induction d with
  | zero =>
    intro k q hk hq
    rw [L10_19_eq]
    simp only [T10_19, cif]
    rw [if_neg (by omega), List.drop_eq_nil_of_le (by omega)]
    simp
  | succ d ih =>
    intro k q hk hq
    have hlt : k < l.length := by omega
    have hr := h _ (List.getElem_mem hlt)
    have hw : IntKind.wrap .i64 ((k : Int) + 1) = ((k + 1 : Nat) : Int) := by rw [w64 (by omega) (by omega)]; omega
    have d1 := hr.len
    have d2 := hr.l
    rw [L10_19_eq]
    simp only [T10_19, cif, getD_at hlt, hw]
    rw [if_pos (by omega), if_pos (by omega), show F33 _ = _ from hr.F33]
    simp only [Option.bind_some]
    rw [F27_eq _ _ (by omega) (lt_lim (by omega))]
    simp only [Option.bind_some, Sum.elim_inl]
    rw [ih (k + 1) _ (by omega) (by simp; omega), List.drop_eq_getElem_cons hlt, List.flatMap_cons]
    simp
end
end Go.IM.V

/- Letters: Encode and the document's answer. -/
set_option linter.unusedVariables false
set_option linter.unusedSimpArgs false
set_option linter.constructorNameAsVariable false
namespace Go.IM.V
open Go Go.IM Go.Proofs

abbrev Lt : Type := Int × Int × Int × Bool × Int × List Int × List Rw × List Ev × Int × Int × Int × Int × List Int × Int × Unit
/-- A letter that is read. -/
structure LOK (k f t : Int) (mine : Bool) (ser : Int) (hv : List Int) (rs : List Rw) (es : List Ev) (tm sz sum at' : Int) (bs : List Int) (why : Int) : Prop where
  k1 : 1 ≤ k
  k7 : k ≤ 7
  f0 : 0 ≤ f
  f1 : f ≤ 63
  t0 : 0 ≤ t
  t1 : t ≤ 63
  s0 : 0 ≤ ser
  s1 : ser ≤ 9223372036854775807
  v : Sml hv
  vl : hv.length ≤ 64
  r : ∀ r ∈ rs, RwOK r
  rl : rs.length ≤ 64
  e : ∀ e ∈ es, EvR e
  el : es.length ≤ 1000
  tm0 : 0 ≤ tm
  tm1 : tm < 18446744073709551616
  sz0 : 0 ≤ sz
  sz1 : sz < 18446744073709551616
  sm0 : 0 ≤ sum
  sm1 : sum < 4294967296
  at0 : 0 ≤ at'
  at1 : at' < 18446744073709551616
  b : Bys bs
  bl : bs.length ≤ 1000
  w0 : 0 ≤ why
  w1 : why ≤ 65536
def hdL (k f t : Int) (mine : Bool) (ser : Int) : List Int := dg 1 ++ [k] ++ dg f ++ dg t ++ dg (if mine then 1 else 0) ++ dg ser
noncomputable def bodyL (k f t : Int) (mine : Bool) (ser : Int) (hv : List Int) (rs : List Rw) (es : List Ev) (tm sz sum at' : Int) (bs : List Int) (why : Int) : List Int :=
  if k = 1 ∨ k = 2 ∨ k = 4 then hdL k f t mine ser ++ encV hv ++ encRs rs
  else if k = 3 then hdL k f t mine ser ++ encV hv ++ encEs es
  else if k = 5 then hdL k f t mine ser ++ encV hv ++ dg tm ++ dg sz ++ dg sum
  else if k = 6 then hdL k f t mine ser ++ dg sz ++ dg at' ++ dgT bs
  else hdL k f t mine ser ++ dg why
theorem hdL_len (k f t : Int) (mine : Bool) (ser : Int) : (hdL k f t mine ser).length ≤ 51 := by
  unfold hdL
  have := dg_len 1
  have := dg_len f
  have := dg_len t
  have := dg_len (if mine then 1 else 0)
  have := dg_len ser
  simp only [List.length_append, List.length_cons, List.length_nil]
  omega
theorem Bys.flat {α : Type} {f : α → List Int} : ∀ {l : List α}, (∀ x ∈ l, Bys (f x)) → Bys (l.flatMap f)
  | [], _ => fun x hx => by simp at hx
  | a :: l, h => by
    rw [List.flatMap_cons]
    exact (h a (List.mem_cons_self ..)).app (Bys.flat fun x hx => h x (List.mem_cons_of_mem _ hx))
theorem encV_byte {v : List Int} (h : Sml v) (hl : v.length ≤ 64) : Bys (encV v) := by
  have := trim_le v
  exact encL_byte h.trim.vk (by omega)
theorem encRs_byte {l : List Rw} (h : ∀ r ∈ l, RwOK r) (hl : l.length ≤ 64) : Bys (encRs l) := by
  refine (dg_byte (by omega) (by omega)).app (Bys.flat fun r hr => ?_)
  have g := h r hr
  have g0 := g.n0
  have g1 := g.n1
  have g2 := g.t0
  have g3 := g.t1
  exact ((dg_byte (by omega) (by omega)).app (encV_byte g.v g.l)).app (dg_byte (by omega) (by omega))
theorem encEs_byte {l : List Ev} (h : ∀ r ∈ l, EvR r) (hl : l.length ≤ 1000) : Bys (encEs l) := by
  refine (dg_byte (by omega) (by omega)).app (Bys.flat fun e he => ?_)
  have g := h e he
  have := g.l
  exact dgT_byte g.b (by omega)
theorem encRs_len {l : List Rw} (h : ∀ r ∈ l, RwOK r) (hl : l.length ≤ 64) : (encRs l).length ≤ 50000 := by
  unfold encRs
  have := dg_len (l.length : Int)
  have := flat_len (f := encRw) (n := 700) (l := l) fun r hr => encRw_len (h r hr)
  rw [List.length_append]
  omega
theorem encEs_len {l : List Ev} (h : ∀ r ∈ l, EvR r) (hl : l.length ≤ 1000) : (encEs l).length ≤ 1010010 := by
  unfold encEs
  have := dg_len (l.length : Int)
  have := flat_len (f := fun e => dgT (encE e)) (n := 1010) (l := l) fun r hr => (h r hr).len
  rw [List.length_append]
  omega
variable {k f t : Int} {mine : Bool} {ser : Int} {hv : List Int} {rs : List Rw} {es : List Ev} {tm sz sum at' : Int} {bs : List Int} {why : Int}
theorem hdL_byte (h : LOK k f t mine ser hv rs es tm sz sum at' bs why) : Bys (hdL k f t mine ser) := by
  have g1 := h.k1
  have g2 := h.k7
  have g3 := h.f0
  have g4 := h.f1
  have g5 := h.t0
  have g6 := h.t1
  have g7 := h.s0
  have g8 := h.s1
  unfold hdL
  refine Bys.app (Bys.app (Bys.app (Bys.app (Bys.app (dg_byte (by omega) (by omega)) ?_) (dg_byte (by omega) (by omega))) (dg_byte (by omega) (by omega))) ?_) (dg_byte (by omega) (by omega))
  · intro x hx
    rw [List.mem_singleton] at hx
    omega
  · cases mine <;> exact dg_byte (by decide) (by decide)
theorem bodyL_ok (h : LOK k f t mine ser hv rs es tm sz sum at' bs why) : Bys (bodyL k f t mine ser hv rs es tm sz sum at' bs why) ∧ (bodyL k f t mine ser hv rs es tm sz sum at' bs why).length ≤ 2000000 := by
  have hb := hdL_byte h
  have hl := hdL_len k f t mine ser
  have vb := encV_byte h.v h.vl
  have vl := encV_len h.vl
  have g1 := h.tm0
  have g2 := h.tm1
  have g3 := h.sz0
  have g4 := h.sz1
  have g5 := h.sm0
  have g6 := h.sm1
  have g7 := h.at0
  have g8 := h.at1
  have g9 := h.w0
  have g10 := h.w1
  have g11 := h.bl
  unfold bodyL
  split
  · have := encRs_len h.r h.rl
    exact ⟨(hb.app vb).app (encRs_byte h.r h.rl), by simp only [List.length_append]; omega⟩
  · split
    · have := encEs_len h.e h.el
      exact ⟨(hb.app vb).app (encEs_byte h.e h.el), by simp only [List.length_append]; omega⟩
    · split
      · have := dg_len tm
        have := dg_len sz
        have := dg_len sum
        exact ⟨(((hb.app vb).app (dg_byte (by omega) (by omega))).app (dg_byte (by omega) (by omega))).app (dg_byte (by omega) (by omega)), by simp only [List.length_append]; omega⟩
      · split
        · have := dg_len sz
          have := dg_len at'
          have := dgT_len bs
          exact ⟨((hb.app (dg_byte (by omega) (by omega))).app (dg_byte (by omega) (by omega))).app (dgT_byte h.b (by omega)), by simp only [List.length_append]; omega⟩
        · have := dg_len why
          exact ⟨hb.app (dg_byte (by omega) (by omega)), by simp only [List.length_append]; omega⟩

theorem F32_ok (h : LOK k f t mine ser hv rs es tm sz sum at' bs why) : F32 (k, f, t, mine, ser, hv, rs, es, tm, sz, sum, at', bs, why, ()) = some (ro (rcd (bodyL k f t mine ser hv rs es tm sz sum at' bs why))) := by
  obtain ⟨bb, bl⟩ := bodyL_ok h
  have h1 := h.k1
  have h2 := h.k7
  have f0 := h.f0
  have f1 := h.f1
  have t0 := h.t0
  have t1 := h.t1
  have s0 := h.s0
  have s1 := h.s1
  have d0 := dg_len 1
  have d1 := dg_len f
  have d2 := dg_len t
  have d3 := dg_len (if mine then 1 else 0)
  have d4 := dg_len ser
  have hf0 : (0 : Int) ≤ (if mine then 1 else 0) := by split <;> omega
  have hf1 : (if mine then 1 else 0) < (18446744073709551616 : Int) := by split <;> omega
  unfold F32
  rw [F51_eq _ _ (by omega) (by omega) (lt_lim (by first | omega | (simp only [List.length_append, List.length_cons, List.length_nil]; omega) | (simp; omega) | simp))]
  simp only [Option.bind_some, cif, List.nil_append]
  rw [if_pos (lt_lim (by first | omega | (simp only [List.length_append, List.length_cons, List.length_nil]; omega) | (simp; omega) | simp)), wu64 (by omega) (by omega), F51_eq _ _ (by omega) (by omega) (lt_lim (by first | omega | (simp only [List.length_append, List.length_cons, List.length_nil]; omega) | (simp; omega) | simp))]
  simp only [Option.bind_some]
  rw [wu64 (by omega) (by omega), F51_eq _ _ (by omega) (by omega) (lt_lim (by first | omega | (simp only [List.length_append, List.length_cons, List.length_nil]; omega) | (simp; omega) | simp))]
  simp only [Option.bind_some]
  rw [show F64 mine = some (r1 (if mine then 1 else 0)) by cases mine <;> rfl]
  simp only [Option.bind_some]
  rw [F51_eq _ _ hf0 hf1 (lt_lim (by first | omega | (simp only [List.length_append, List.length_cons, List.length_nil]; omega) | (simp; omega) | simp))]
  simp only [Option.bind_some]
  rw [F51_eq _ _ (by omega) (by omega) (lt_lim (by first | omega | (simp only [List.length_append, List.length_cons, List.length_nil]; omega) | (simp; omega) | simp))]
  simp only [Option.bind_some]
  rw [show dg 1 ++ [k] ++ dg f ++ dg t ++ dg (if mine then 1 else 0) ++ dg ser = hdL k f t mine ser from rfl]
  have hl := hdL_len k f t mine ser
  have vl := encV_len h.vl
  have vl2 := h.vl
  clear d0 d1 d2 d3 d4
  unfold bodyL at bb bl ⊢
  by_cases c1 : k = 1
  · rw [show (k == 1) = true from beq_iff_eq.2 c1]
    rw [if_pos (.inl c1)] at bb bl ⊢
    simp only [cond_true]
    rw [F53_eq _ _ h.v.vk (by omega) (lt_lim (by omega))]
    simp only [Option.bind_some]
    rw [F65_eq _ _ h.rl h.r (by first | omega | (simp only [List.length_append, List.length_cons, List.length_nil]; omega) | (simp; omega) | simp)]
    simp only [Option.bind_some]
    rw [F49_eq _ bb (by omega)]
    rfl
  rw [show (k == 1) = false from beq_eq_false_iff_ne.2 c1]
  by_cases c2 : k = 2
  · rw [show (k == 2) = true from beq_iff_eq.2 c2]
    rw [if_pos (.inr (.inl c2))] at bb bl ⊢
    simp only [cond_true, cond_false]
    rw [F53_eq _ _ h.v.vk (by omega) (lt_lim (by omega))]
    simp only [Option.bind_some]
    rw [F65_eq _ _ h.rl h.r (by first | omega | (simp only [List.length_append, List.length_cons, List.length_nil]; omega) | (simp; omega) | simp)]
    simp only [Option.bind_some]
    rw [F49_eq _ bb (by omega)]
    rfl
  rw [show (k == 2) = false from beq_eq_false_iff_ne.2 c2]
  by_cases c4 : k = 4
  · rw [show (k == 4) = true from beq_iff_eq.2 c4]
    rw [if_pos (.inr (.inr c4))] at bb bl ⊢
    simp only [cond_true, cond_false]
    rw [F53_eq _ _ h.v.vk (by omega) (lt_lim (by omega))]
    simp only [Option.bind_some]
    rw [F65_eq _ _ h.rl h.r (by first | omega | (simp only [List.length_append, List.length_cons, List.length_nil]; omega) | (simp; omega) | simp)]
    simp only [Option.bind_some]
    rw [F49_eq _ bb (by omega)]
    rfl
  rw [show (k == 4) = false from beq_eq_false_iff_ne.2 c4]
  rw [if_neg (show ¬ (k = 1 ∨ k = 2 ∨ k = 4) by omega)] at bb bl ⊢
  by_cases c3 : k = 3
  · rw [show (k == 3) = true from beq_iff_eq.2 c3]
    rw [if_pos c3] at bb bl ⊢
    simp only [cond_true, cond_false]
    have el := h.el
    have dl := dg_len (es.length : Int)
    rw [F53_eq _ _ h.v.vk (by omega) (lt_lim (by omega))]
    simp only [Option.bind_some]
    rw [wu64 (by omega) (by omega), F51_eq _ _ (by omega) (by omega) (lt_lim (by first | omega | (simp only [List.length_append, List.length_cons, List.length_nil]; omega) | (simp; omega) | simp))]
    simp only [Option.bind_some]
    have := L32_run es el h.e es.length 0 (hdL k f t mine ser ++ encV hv ++ dg (es.length : Int)) (by omega) (by first | omega | (simp only [List.length_append, List.length_cons, List.length_nil]; omega) | (simp; omega) | simp)
    rw [show ((0 : Nat) : Int) = 0 from rfl] at this
    rw [this]
    simp only [Option.bind_some]
    rw [show hdL k f t mine ser ++ encV hv ++ dg (es.length : Int) ++ List.flatMap (fun e => dgT (encE e)) (List.drop 0 es) = hdL k f t mine ser ++ encV hv ++ encEs es by unfold encEs; simp]
    rw [F49_eq _ bb (by omega)]
    rfl
  rw [show (k == 3) = false from beq_eq_false_iff_ne.2 c3]
  rw [if_neg c3] at bb bl ⊢
  have g1 := h.tm0
  have g2 := h.tm1
  have g3 := h.sz0
  have g4 := h.sz1
  have g5 := h.sm0
  have g6 := h.sm1
  have g7 := h.at0
  have g8 := h.at1
  have g9 := h.w0
  have g10 := h.w1
  have g11 := h.bl
  have e1 := dg_len tm
  have e2 := dg_len sz
  have e3 := dg_len sum
  have e4 := dg_len at'
  by_cases c5 : k = 5
  · rw [show (k == 5) = true from beq_iff_eq.2 c5]
    rw [if_pos c5] at bb bl ⊢
    simp only [cond_true, cond_false]
    rw [F53_eq _ _ h.v.vk (by omega) (lt_lim (by omega))]
    simp only [Option.bind_some]
    rw [F51_eq _ _ (by omega) (by omega) (lt_lim (by first | omega | (simp only [List.length_append, List.length_cons, List.length_nil]; omega) | (simp; omega) | simp))]
    simp only [Option.bind_some]
    rw [F51_eq _ _ (by omega) (by omega) (lt_lim (by first | omega | (simp only [List.length_append, List.length_cons, List.length_nil]; omega) | (simp; omega) | simp))]
    simp only [Option.bind_some]
    rw [wu64 (by omega) (by omega), F51_eq _ _ (by omega) (by omega) (lt_lim (by first | omega | (simp only [List.length_append, List.length_cons, List.length_nil]; omega) | (simp; omega) | simp))]
    simp only [Option.bind_some]
    rw [F49_eq _ bb (by omega)]
    rfl
  rw [show (k == 5) = false from beq_eq_false_iff_ne.2 c5]
  rw [if_neg c5] at bb bl ⊢
  by_cases c6 : k = 6
  · rw [show (k == 6) = true from beq_iff_eq.2 c6]
    rw [if_pos c6] at bb bl ⊢
    simp only [cond_true, cond_false]
    rw [F51_eq _ _ (by omega) (by omega) (lt_lim (by first | omega | (simp only [List.length_append, List.length_cons, List.length_nil]; omega) | (simp; omega) | simp))]
    simp only [Option.bind_some]
    rw [F51_eq _ _ (by omega) (by omega) (lt_lim (by first | omega | (simp only [List.length_append, List.length_cons, List.length_nil]; omega) | (simp; omega) | simp))]
    simp only [Option.bind_some]
    rw [F52_eq _ _ (by omega) (lt_lim (by first | omega | (simp only [List.length_append, List.length_cons, List.length_nil]; omega) | (simp; omega) | simp))]
    simp only [Option.bind_some]
    rw [F49_eq _ bb (by omega)]
    rfl
  rw [show (k == 6) = false from beq_eq_false_iff_ne.2 c6]
  rw [if_neg c6] at bb bl ⊢
  rw [show (k == 7) = true from beq_iff_eq.2 (by omega)]
  simp only [cond_true, cond_false]
  rw [wu64 (by omega) (by omega), F51_eq _ _ (by omega) (by omega) (lt_lim (by first | omega | (simp only [List.length_append, List.length_cons, List.length_nil]; omega) | (simp; omega) | simp))]
  simp only [Option.bind_some]
  rw [F49_eq _ bb (by omega)]
  rfl

theorem F10_ok (h : LOK k f t mine ser hv rs es tm sz sum at' bs why) : F10 (k, f, t, mine, ser, hv, rs, es, tm, sz, sum, at', bs, why, ()) = some (ro (rcd (bodyL k f t mine ser hv rs es tm sz sum at' bs why))) := by
  obtain ⟨bb, bl⟩ := bodyL_ok h
  have h1 := h.k1
  have h2 := h.k7
  have f0 := h.f0
  have f1 := h.f1
  have t0 := h.t0
  have t1 := h.t1
  have s0 := h.s0
  have s1 := h.s1
  have d0 := dg_len 1
  have d1 := dg_len f
  have d2 := dg_len t
  have d3 := dg_len (if mine then 1 else 0)
  have d4 := dg_len ser
  unfold F10
  rw [F26_eq _ _ (by omega) (by omega) (lt_lim (by first | omega | (simp only [List.length_append, List.length_cons, List.length_nil]; omega) | (simp; omega) | simp))]
  simp only [Option.bind_some, cif, List.nil_append]
  rw [if_pos (lt_lim (by first | omega | (simp only [List.length_append, List.length_cons, List.length_nil]; omega) | (simp; omega) | simp))]
  have key : ∀ (flg : Int), flg = (if mine then 1 else 0) → ((F26 (dg 1 ++ [k]) (IntKind.wrap .u64 f)).bind fun a => (F26 a.2.2.1 (IntKind.wrap .u64 t)).bind fun b => (F26 b.2.2.1 flg).bind fun c => F26 c.2.2.1 ser) = some (ro (hdL k f t mine ser)) := by
    intro flg hflg
    have hf0 : (0 : Int) ≤ flg := by rw [hflg]; split <;> omega
    have hf1 : flg < (18446744073709551616 : Int) := by rw [hflg]; split <;> omega
    have d3' := dg_len flg
    rw [wu64 (by omega) (by omega), F26_eq _ _ (by omega) (by omega) (lt_lim (by first | omega | (simp only [List.length_append, List.length_cons, List.length_nil]; omega) | (simp; omega) | simp))]
    simp only [Option.bind_some]
    rw [wu64 (by omega) (by omega), F26_eq _ _ (by omega) (by omega) (lt_lim (by first | omega | (simp only [List.length_append, List.length_cons, List.length_nil]; omega) | (simp; omega) | simp))]
    simp only [Option.bind_some]
    rw [F26_eq _ _ hf0 hf1 (lt_lim (by first | omega | (simp only [List.length_append, List.length_cons, List.length_nil]; omega) | (simp; omega) | simp))]
    simp only [Option.bind_some]
    rw [F26_eq _ _ (by omega) (by omega) (lt_lim (by first | omega | (simp only [List.length_append, List.length_cons, List.length_nil]; omega) | (simp; omega) | simp)), hflg]
    rfl
  have two : ∀ {G : Option ((Unit × Unit) × Unit × (List Int × Unit))} {K : ((Unit × Unit) × Unit × (List Int × Unit)) → Option ((Unit × Unit) × Unit × (List Int × Unit))}, (∀ (flg : Int), flg = (if mine then 1 else 0) → ((F26 (dg 1 ++ [k]) (IntKind.wrap .u64 f)).bind fun a => (F26 a.2.2.1 (IntKind.wrap .u64 t)).bind fun b => (F26 b.2.2.1 flg).bind fun c => (F26 c.2.2.1 ser).bind K) = K (ro (hdL k f t mine ser))) := by
    intro G K flg hflg
    have := congrArg (fun q => q.bind K) (key flg hflg)
    simpa only [Option.bind_assoc, Option.bind_some] using this
  have pick : ∀ {K : ((Unit × Unit) × Unit × (List Int × Unit)) → Option ((Unit × Unit) × Unit × (List Int × Unit))}, (bif mine then ((F26 (dg 1 ++ [k]) (IntKind.wrap .u64 f)).bind fun a => (F26 a.2.2.1 (IntKind.wrap .u64 t)).bind fun b => (F26 b.2.2.1 1).bind fun c => (F26 c.2.2.1 ser).bind K)
      else ((F26 (dg 1 ++ [k]) (IntKind.wrap .u64 f)).bind fun a => (F26 a.2.2.1 (IntKind.wrap .u64 t)).bind fun b => (F26 b.2.2.1 0).bind fun c => (F26 c.2.2.1 ser).bind K)) = K (ro (hdL k f t mine ser)) := by
    intro K
    cases hm : mine with
    | true =>
      have := two (G := none) (K := K) 1 (by rw [hm]; rfl)
      rw [hm] at this; exact this
    | false =>
      have := two (G := none) (K := K) 0 (by rw [hm]; rfl)
      rw [hm] at this; exact this
  rw [pick]
  dsimp only
  have hl := hdL_len k f t mine ser
  have vl := encV_len h.vl
  have vl2 := h.vl
  clear d0 d1 d2 d3 d4
  unfold bodyL at bb bl ⊢
  by_cases c1 : k = 1
  · rw [show (k == 1) = true from beq_iff_eq.2 c1]
    rw [if_pos (.inl c1)] at bb bl ⊢
    simp only [cond_true]
    have rl := h.rl
    have dl := dg_len (rs.length : Int)
    rw [F28_eq _ _ h.v.vk (by omega) (lt_lim (by omega))]
    simp only [Option.bind_some]
    rw [wu64 (by omega) (by omega), F26_eq _ _ (by omega) (by omega) (lt_lim (by first | omega | (simp only [List.length_append, List.length_cons, List.length_nil]; omega) | (simp; omega) | simp))]
    simp only [Option.bind_some]
    have := L10a_run k f t mine ser hv es tm sz sum at' bs why rs (by omega) h.r rs.length 0 (hdL k f t mine ser ++ encV hv ++ dg (rs.length : Int)) (by omega) (by first | omega | (simp only [List.length_append, List.length_cons, List.length_nil]; omega) | (simp; omega) | simp)
    rw [show ((0 : Nat) : Int) = 0 from rfl] at this
    rw [this]
    simp only [Option.bind_some]
    rw [show hdL k f t mine ser ++ encV hv ++ dg (rs.length : Int) ++ List.flatMap encRw (List.drop 0 rs) = hdL k f t mine ser ++ encV hv ++ encRs rs by unfold encRs; simp]
    rw [F13_eq _ bb (by omega)]
    rfl
  rw [show (k == 1) = false from beq_eq_false_iff_ne.2 c1]
  by_cases c2 : k = 2
  · rw [show (k == 2) = true from beq_iff_eq.2 c2]
    rw [if_pos (.inr (.inl c2))] at bb bl ⊢
    simp only [cond_true, cond_false]
    have rl := h.rl
    have dl := dg_len (rs.length : Int)
    rw [F28_eq _ _ h.v.vk (by omega) (lt_lim (by omega))]
    simp only [Option.bind_some]
    rw [wu64 (by omega) (by omega), F26_eq _ _ (by omega) (by omega) (lt_lim (by first | omega | (simp only [List.length_append, List.length_cons, List.length_nil]; omega) | (simp; omega) | simp))]
    simp only [Option.bind_some]
    have := L10a_run k f t mine ser hv es tm sz sum at' bs why rs (by omega) h.r rs.length 0 (hdL k f t mine ser ++ encV hv ++ dg (rs.length : Int)) (by omega) (by first | omega | (simp only [List.length_append, List.length_cons, List.length_nil]; omega) | (simp; omega) | simp)
    rw [show ((0 : Nat) : Int) = 0 from rfl] at this
    rw [this]
    simp only [Option.bind_some]
    rw [show hdL k f t mine ser ++ encV hv ++ dg (rs.length : Int) ++ List.flatMap encRw (List.drop 0 rs) = hdL k f t mine ser ++ encV hv ++ encRs rs by unfold encRs; simp]
    rw [F13_eq _ bb (by omega)]
    rfl
  rw [show (k == 2) = false from beq_eq_false_iff_ne.2 c2]
  by_cases c4 : k = 4
  · rw [show (k == 4) = true from beq_iff_eq.2 c4]
    rw [if_pos (.inr (.inr c4))] at bb bl ⊢
    simp only [cond_true, cond_false]
    have rl := h.rl
    have dl := dg_len (rs.length : Int)
    rw [F28_eq _ _ h.v.vk (by omega) (lt_lim (by omega))]
    simp only [Option.bind_some]
    rw [wu64 (by omega) (by omega), F26_eq _ _ (by omega) (by omega) (lt_lim (by first | omega | (simp only [List.length_append, List.length_cons, List.length_nil]; omega) | (simp; omega) | simp))]
    simp only [Option.bind_some]
    have := L10a_run k f t mine ser hv es tm sz sum at' bs why rs (by omega) h.r rs.length 0 (hdL k f t mine ser ++ encV hv ++ dg (rs.length : Int)) (by omega) (by first | omega | (simp only [List.length_append, List.length_cons, List.length_nil]; omega) | (simp; omega) | simp)
    rw [show ((0 : Nat) : Int) = 0 from rfl] at this
    rw [this]
    simp only [Option.bind_some]
    rw [show hdL k f t mine ser ++ encV hv ++ dg (rs.length : Int) ++ List.flatMap encRw (List.drop 0 rs) = hdL k f t mine ser ++ encV hv ++ encRs rs by unfold encRs; simp]
    rw [F13_eq _ bb (by omega)]
    rfl
  rw [show (k == 4) = false from beq_eq_false_iff_ne.2 c4]
  rw [if_neg (show ¬ (k = 1 ∨ k = 2 ∨ k = 4) by omega)] at bb bl ⊢
  by_cases c3 : k = 3
  · rw [show (k == 3) = true from beq_iff_eq.2 c3]
    rw [if_pos c3] at bb bl ⊢
    simp only [cond_true, cond_false]
    have el := h.el
    have dl := dg_len (es.length : Int)
    rw [F28_eq _ _ h.v.vk (by omega) (lt_lim (by omega))]
    simp only [Option.bind_some]
    rw [wu64 (by omega) (by omega), F26_eq _ _ (by omega) (by omega) (lt_lim (by first | omega | (simp only [List.length_append, List.length_cons, List.length_nil]; omega) | (simp; omega) | simp))]
    simp only [Option.bind_some]
    have := L10b_run k f t mine ser hv rs tm sz sum at' bs why es el h.e es.length 0 (hdL k f t mine ser ++ encV hv ++ dg (es.length : Int)) (by omega) (by first | omega | (simp only [List.length_append, List.length_cons, List.length_nil]; omega) | (simp; omega) | simp)
    rw [show ((0 : Nat) : Int) = 0 from rfl] at this
    rw [this]
    simp only [Option.bind_some]
    rw [show hdL k f t mine ser ++ encV hv ++ dg (es.length : Int) ++ List.flatMap (fun e => dgT (encE e)) (List.drop 0 es) = hdL k f t mine ser ++ encV hv ++ encEs es by unfold encEs; simp]
    rw [F13_eq _ bb (by omega)]
    rfl
  rw [show (k == 3) = false from beq_eq_false_iff_ne.2 c3]
  rw [if_neg c3] at bb bl ⊢
  have g1 := h.tm0
  have g2 := h.tm1
  have g3 := h.sz0
  have g4 := h.sz1
  have g5 := h.sm0
  have g6 := h.sm1
  have g7 := h.at0
  have g8 := h.at1
  have g9 := h.w0
  have g10 := h.w1
  have g11 := h.bl
  have e1 := dg_len tm
  have e2 := dg_len sz
  have e3 := dg_len sum
  have e4 := dg_len at'
  by_cases c5 : k = 5
  · rw [show (k == 5) = true from beq_iff_eq.2 c5]
    rw [if_pos c5] at bb bl ⊢
    simp only [cond_true, cond_false]
    rw [F28_eq _ _ h.v.vk (by omega) (lt_lim (by omega))]
    simp only [Option.bind_some]
    rw [F26_eq _ _ (by omega) (by omega) (lt_lim (by first | omega | (simp only [List.length_append, List.length_cons, List.length_nil]; omega) | (simp; omega) | simp))]
    simp only [Option.bind_some]
    rw [F26_eq _ _ (by omega) (by omega) (lt_lim (by first | omega | (simp only [List.length_append, List.length_cons, List.length_nil]; omega) | (simp; omega) | simp))]
    simp only [Option.bind_some]
    rw [wu64 (by omega) (by omega), F26_eq _ _ (by omega) (by omega) (lt_lim (by first | omega | (simp only [List.length_append, List.length_cons, List.length_nil]; omega) | (simp; omega) | simp))]
    simp only [Option.bind_some]
    rw [F13_eq _ bb (by omega)]
    rfl
  rw [show (k == 5) = false from beq_eq_false_iff_ne.2 c5]
  rw [if_neg c5] at bb bl ⊢
  by_cases c6 : k = 6
  · rw [show (k == 6) = true from beq_iff_eq.2 c6]
    rw [if_pos c6] at bb bl ⊢
    simp only [cond_true, cond_false]
    rw [F26_eq _ _ (by omega) (by omega) (lt_lim (by first | omega | (simp only [List.length_append, List.length_cons, List.length_nil]; omega) | (simp; omega) | simp))]
    simp only [Option.bind_some]
    rw [F26_eq _ _ (by omega) (by omega) (lt_lim (by first | omega | (simp only [List.length_append, List.length_cons, List.length_nil]; omega) | (simp; omega) | simp))]
    simp only [Option.bind_some]
    rw [F27_eq _ _ (by omega) (lt_lim (by first | omega | (simp only [List.length_append, List.length_cons, List.length_nil]; omega) | (simp; omega) | simp))]
    simp only [Option.bind_some]
    rw [F13_eq _ bb (by omega)]
    rfl
  rw [show (k == 6) = false from beq_eq_false_iff_ne.2 c6]
  rw [if_neg c6] at bb bl ⊢
  simp only [cond_false]
  rw [wu64 (by omega) (by omega), F26_eq _ _ (by omega) (by omega) (lt_lim (by first | omega | (simp only [List.length_append, List.length_cons, List.length_nil]; omega) | (simp; omega) | simp))]
  simp only [Option.bind_some]
  rw [F13_eq _ bb (by omega)]
  rfl
end Go.IM.V

/- Letters: what is read. -/
set_option linter.unusedVariables false
set_option linter.unusedSimpArgs false
set_option linter.constructorNameAsVariable false
namespace Go.IM.V
open Go Go.IM Go.Proofs

theorem tnum_len {xs rest : List Int} {n most : Int} (hb : Bys xs) (h : tnum most xs = .inl (n, rest)) : rest.length ≤ xs.length := by
  obtain ⟨h1, _⟩ := tnum_some hb h
  rw [h1, List.length_append]; omega
theorem rdV_len {xs l rest : List Int} (hb : Bys xs) (h : rdV xs = .inl (l, rest)) : rest.length ≤ xs.length := by
  obtain ⟨h1, _⟩ := rdV_some hb h
  rw [h1, List.length_append]; omega
theorem tkT_len {xs t rest : List Int} {most : Int} (hb : Bys xs) (h : tkT most xs = .inl (t, rest)) : rest.length ≤ xs.length ∧ t.length ≤ xs.length := by
  obtain ⟨h1, _⟩ := tkT_some hb h
  unfold dgT at h1
  rw [h1]
  simp only [List.length_append]
  constructor <;> omega
theorem ne3 {e : Int} (h : e = 4 ∨ e = 5 ∨ e = 6) : e ≠ 0 := by omega

theorem L74_any (n : Nat) (hn : n ≤ 64) : ∀ (d k : Nat) (xs : List Int) (q : List Rw), k + d = n → Bys xs → (∀ r ∈ q, RwOK r) → q.length = k →
    (∃ (e : Int) (r : List Int), L74_3 (n : Nat) (k : Nat) xs q = some (.inl (tie e r)) ∧ e ≠ 0) ∨ ∃ (rs : List Rw) (r : List Int), L74_3 (n : Nat) (k : Nat) xs q = some (.inr (((), ()), ((r, ()), ()), (rs, ()))) ∧ (∀ x ∈ rs, RwOK x) ∧ rs.length = n ∧ Bys r ∧ r.length ≤ xs.length := by
  intro d
  induction d with
  | zero =>
    intro k xs q hk hb hq hl
    right
    rw [L74_3_eq]
    simp only [T74_3, cif]
    rw [if_neg (by omega)]
    exact ⟨q, xs, rfl, hq, by omega, hb, Nat.le_refl _⟩
  | succ d ih =>
    intro k xs q hk hb hq hl
    rw [L74_3_eq]
    simp only [T74_3, cif]
    rw [if_pos (by omega), F58_eq _ _ hb]
    cases h1 : tnum 63 xs with
    | inr e => exact .inl ⟨_, _, rfl, ne3 (tnum_err h1)⟩
    | inl p =>
    obtain ⟨a, r1⟩ := p
    obtain ⟨_, a0, a1, a2⟩ := tnum_some hb h1
    have hb1 := tnum_byte hb h1
    have l1 := tnum_len hb h1
    simp only [Option.bind_some, Sum.elim_inl]
    rw [F59_eq _ hb1]
    cases h2 : rdV r1 with
    | inr e => obtain ⟨e, r⟩ := e; exact .inl ⟨_, _, rfl, ne3 (rdV_err h2)⟩
    | inl p =>
    obtain ⟨v, r2⟩ := p
    obtain ⟨_, v1, v2, hb2⟩ := rdV_some hb1 h2
    have l2 := rdV_len hb1 h2
    simp only [Option.bind_some, Sum.elim_inl]
    rw [F58_eq _ _ hb2]
    cases h3 : tnum 9223372036854775807 r2 with
    | inr e => exact .inl ⟨_, _, rfl, ne3 (tnum_err h3)⟩
    | inl p =>
    obtain ⟨b, r3⟩ := p
    obtain ⟨_, b0, b1, b2⟩ := tnum_some hb2 h3
    have hb3 := tnum_byte hb2 h3
    have l3 := tnum_len hb2 h3
    simp only [Option.bind_some, Sum.elim_inl]
    have hw : IntKind.wrap .u64 ((k : Int) + 1) = ((k + 1 : Nat) : Int) := by rw [wu64 (by omega) (by omega)]; omega
    rw [if_pos (lt_lim (by simp; omega)), hw]
    simp only [Option.bind_some, Sum.elim_inl]
    rcases ih (k + 1) r3 (q ++ [(IntKind.wrap .i64 a, v, b, ())]) (by omega) hb3 (fun r hr => by
      rcases List.mem_append.1 hr with hr | hr
      · exact hq r hr
      · rw [List.mem_singleton] at hr
        subst hr
        exact ⟨by rw [w64 (by omega) (by omega)]; exact a0, by rw [w64 (by omega) (by omega)]; exact a2, v1, v2, b0, b2⟩) (by simp; omega) with ⟨e, r, g1, g2⟩ | ⟨rs, r, g1, g2, g3, g4, g5⟩
    · exact .inl ⟨e, r, g1, g2⟩
    · exact .inr ⟨rs, r, g1, g2, g3, g4, by omega⟩
theorem F74_any (xs : List Int) (hb : Bys xs) : (∃ (e : Int) (r : List Int), F74 xs = some (.inr (tie e r)) ∧ e ≠ 0) ∨ ∃ (rs : List Rw) (r : List Int), F74 xs = some (.inl (tin rs r)) ∧ (∀ x ∈ rs, RwOK x) ∧ rs.length ≤ 64 ∧ Bys r ∧ r.length ≤ xs.length := by
  unfold F74
  rw [F58_eq _ _ hb]
  cases h1 : tnum 64 xs with
  | inr e => exact .inl ⟨_, _, rfl, ne3 (tnum_err h1)⟩
  | inl p =>
  obtain ⟨a, r1⟩ := p
  obtain ⟨_, a0, a1, a2⟩ := tnum_some hb h1
  have hb1 := tnum_byte hb h1
  have l1 := tnum_len hb h1
  simp only [Option.bind_some, Sum.elim_inl]
  obtain ⟨n, rfl⟩ : ∃ n : Nat, a = (n : Int) := ⟨a.toNat, by omega⟩
  rcases L74_any n (by omega) n 0 r1 [] (by omega) hb1 (fun r hr => by cases hr) rfl with ⟨e, r, g1, g2⟩ | ⟨rs, r, g1, g2, g3, g4, g5⟩
  · rw [show ((0 : Nat) : Int) = 0 from rfl] at g1
    rw [g1]
    exact .inl ⟨e, r, rfl, g2⟩
  · rw [show ((0 : Nat) : Int) = 0 from rfl] at g1
    rw [g1]
    exact .inr ⟨rs, r, rfl, g2, by omega, g4, by omega⟩

abbrev FR : Type := (((Int × (Int × (Int × (Bool × (Int × ((List Int) × ((List (Int × ((List Int) × (Int × Unit)))) × ((List (Int × (Int × (Int × (Int × (ByteArray × ((List Int) × (Nat × (Int × Unit))))))))) × (Int × (Int × (Int × (Int × ((List Int) × (Int × Unit)))))))))))))) × (Int × Unit)) × Unit × Unit)
/-- What comes of reading. -/
def LR (r : Option FR) : Prop := ∃ (k f t : Int) (mine : Bool) (ser : Int) (hv : List Int) (rs : List Rw) (es : List Ev) (tm sz sum at' : Int) (bs : List Int) (why e : Int),
  r = some (((k, f, t, mine, ser, hv, rs, es, tm, sz, sum, at', bs, why, ()), e, ()), (), ()) ∧ (e ≠ 0 ∨ LOK k f t mine ser hv rs es tm sz sum at' bs why)
theorem LR.err {k f t : Int} {mine : Bool} {ser : Int} {hv : List Int} {rs : List Rw} {es : List Ev} {tm sz sum at' : Int} {bs : List Int} {why e : Int} (h : e ≠ 0) :
    LR (some (((k, f, t, mine, ser, hv, rs, es, tm, sz, sum, at', bs, why, ()), e, ()), (), ())) := ⟨k, f, t, mine, ser, hv, rs, es, tm, sz, sum, at', bs, why, e, rfl, .inl h⟩
theorem LR.ok {k f t : Int} {mine : Bool} {ser : Int} {hv : List Int} {rs : List Rw} {es : List Ev} {tm sz sum at' : Int} {bs : List Int} {why : Int} (h : LOK k f t mine ser hv rs es tm sz sum at' bs why) :
    LR (some (((k, f, t, mine, ser, hv, rs, es, tm, sz, sum, at', bs, why, ()), 0, ()), (), ())) := ⟨k, f, t, mine, ser, hv, rs, es, tm, sz, sum, at', bs, why, 0, rfl, .inr h⟩
theorem LR.done {k f t : Int} {mine : Bool} {ser : Int} {hv : List Int} {rs : List Rw} {es : List Ev} {tm sz sum at' : Int} {bs : List Int} {why : Int} {r : List Int} (h : LOK k f t mine ser hv rs es tm sz sum at' bs why) :
    LR ((F61 r).bind fun y => Sum.elim (fun _ => some (((k, f, t, mine, ser, hv, rs, es, tm, sz, sum, at', bs, why, ()), 0, ()), (), ())) (fun y => some (((k, f, t, mine, ser, hv, rs, es, tm, sz, sum, at', bs, why, ()), y.1, ()), (), ())) y) := by
  rw [F61_eq]
  cases r with
  | nil => exact LR.ok h
  | cons b r => exact LR.err (show (4 : Int) ≠ 0 by decide)

section
variable (k f t : Int) (mine : Bool) (ser : Int) (hv : List Int)
theorem L38_any (a0 : List Int) (hl : a0.length ≤ 1000) (n : Nat) (hn : n ≤ 1000) : ∀ (d i : Nat) (xs : List Int) (q : List Ev), i + d = n → Bys xs → xs.length ≤ a0.length → (∀ e ∈ q, EvR e) → q.length = i →
    (∃ (r : List Int), L38_15 a0 (n : Nat) (i : Nat) k f t mine ser hv [] 0 0 0 0 [] 0 0 xs q = some (.inl ((), ((0, 0, 0, false, 0, [], [], [], 0, 0, 0, 0, [], 0, ()), (4, ()), (r, ()), ()), ()))) ∨
    (∃ (e : Int) (es : List Ev) (r : List Int), L38_15 a0 (n : Nat) (i : Nat) k f t mine ser hv [] 0 0 0 0 [] 0 0 xs q = some (.inr (.inl (e, ((), ((k, f, t, mine, ser, hv, [], es, 0, 0, 0, 0, [], 0, ()), (0, ()), (r, ()), ()), ())))) ∧ e ≠ 0) ∨
    ∃ (es : List Ev) (r : List Int), L38_15 a0 (n : Nat) (i : Nat) k f t mine ser hv [] 0 0 0 0 [] 0 0 xs q = some (.inr (.inr ((), ((k, f, t, mine, ser, hv, [], es, 0, 0, 0, 0, [], 0, ()), (0, ()), (r, ()), ()), ()))) ∧ (∀ e ∈ es, EvR e) ∧ es.length = n := by
  intro d
  induction d with
  | zero =>
    intro i xs q hi hb hxl hq hql
    right; right
    rw [L38_15_eq]
    simp only [T38_15, cif]
    rw [if_neg (by omega)]
    exact ⟨q, xs, rfl, hq, by omega⟩
  | succ d ih =>
    intro i xs q hi hb hxl hq hql
    have hle : (a0.length : Int) < lim := by have : a0.length < lim := lt_lim (by omega); exact Int.ofNat_lt.2 this
    rw [L38_15_eq]
    simp only [T38_15, cif]
    rw [if_pos (by omega), F60_eq _ _ hb (by omega) hle]
    cases h1 : tkT (a0.length : Int) xs with
    | inr e => exact .inr (.inl ⟨_, _, _, rfl, ne3 (tkT_err' h1)⟩)
    | inl p =>
    obtain ⟨s, r1⟩ := p
    obtain ⟨hs, hb1⟩ := tkT_byte hb h1
    obtain ⟨l1, l2⟩ := tkT_len hb h1
    simp only [Option.bind_some, Sum.elim_inl]
    obtain ⟨x, e, g1, g2⟩ := F75_any s hs (by omega)
    rw [g1]
    simp only [Option.bind_some]
    rcases g2 with ⟨rfl, g3, g4, g5⟩ | ⟨g3, _⟩
    · rw [show ((0 : Int) != 0) = false from rfl]
      simp only [cond_false]
      have hw : IntKind.wrap .u64 ((i : Int) + 1) = ((i + 1 : Nat) : Int) := by rw [wu64 (by omega) (by omega)]; omega
      rw [if_pos (lt_lim (by simp; omega)), hw]
      simp only [Option.bind_some, Sum.elim_inl]
      rcases ih (i + 1) r1 (q ++ [x]) (by omega) hb1 (by omega) (fun y hy => by
        rcases List.mem_append.1 hy with hy | hy
        · exact hq y hy
        · rw [List.mem_singleton] at hy
          subst hy
          exact ⟨g3, g5, by rw [g4]; omega, by rw [g4]; exact hs⟩) (by simp; omega) with ⟨r, h⟩ | ⟨e, es, r, h, h'⟩ | ⟨es, r, h, h', h''⟩
      · exact .inl ⟨r, h⟩
      · exact .inr (.inl ⟨e, es, r, h, h'⟩)
      · exact .inr (.inr ⟨es, r, h, h', h''⟩)
    · rw [show (e != 0) = true from bne_iff_ne.2 g3]
      exact .inl ⟨_, rfl⟩
end
theorem F38_any (s : List Int) (hb : Bys s) (hl : s.length ≤ 1000) : LR (F38 s) := by
  unfold F38 F57
  simp only [Option.bind_some]
  rw [F58_eq _ _ hb]
  cases hv : tnum 18446744073709551615 s with
  | inr e => exact LR.err (ne3 (tnum_err hv))
  | inl p =>
  obtain ⟨v, r1⟩ := p
  obtain ⟨_, v0, v1, v2⟩ := tnum_some hb hv
  have hb_r1 := tnum_byte hb hv
  have l_r1 := tnum_len hb hv
  simp only [Option.bind_some, Sum.elim_inl]
  by_cases hv1 : v = 1
  case neg =>
    rw [show (v != 1) = true from bne_iff_ne.2 hv1]
    exact LR.err (by decide)
  rw [show (v != 1) = false from by rw [hv1]; rfl]
  simp only [cond_false]
  rw [F73_eq]
  cases r1 with
  | nil => exact LR.err (by decide)
  | cons k r2 =>
  have hk := hb_r1 k (List.mem_cons_self ..)
  have hb_r2 : Bys r2 := fun y hy => hb_r1 y (List.mem_cons_of_mem _ hy)
  have l_r2 : r2.length ≤ s.length := by simp only [List.length_cons] at l_r1; omega
  simp only [Option.bind_some, Sum.elim_inl]
  rw [F58_eq _ _ hb_r2]
  cases hf : tnum 63 r2 with
  | inr e => exact LR.err (ne3 (tnum_err hf))
  | inl p =>
  obtain ⟨f, r3⟩ := p
  obtain ⟨_, f0, f1, f2⟩ := tnum_some hb_r2 hf
  have hb_r3 := tnum_byte hb_r2 hf
  have l_r3 := tnum_len hb_r2 hf
  simp only [Option.bind_some, Sum.elim_inl]
  rw [F58_eq _ _ hb_r3]
  cases ht : tnum 63 r3 with
  | inr e => exact LR.err (ne3 (tnum_err ht))
  | inl p =>
  obtain ⟨t, r4⟩ := p
  obtain ⟨_, t0, t1, t2⟩ := tnum_some hb_r3 ht
  have hb_r4 := tnum_byte hb_r3 ht
  have l_r4 := tnum_len hb_r3 ht
  simp only [Option.bind_some, Sum.elim_inl]
  rw [F58_eq _ _ hb_r4]
  cases hm : tnum 1 r4 with
  | inr e => exact LR.err (ne3 (tnum_err hm))
  | inl p =>
  obtain ⟨m, r5⟩ := p
  obtain ⟨_, m0, m1, m2⟩ := tnum_some hb_r4 hm
  have hb_r5 := tnum_byte hb_r4 hm
  have l_r5 := tnum_len hb_r4 hm
  simp only [Option.bind_some, Sum.elim_inl]
  rw [F58_eq _ _ hb_r5]
  cases hser : tnum 9223372036854775807 r5 with
  | inr e => exact LR.err (ne3 (tnum_err hser))
  | inl p =>
  obtain ⟨ser, r6⟩ := p
  obtain ⟨_, ser0, ser1, ser2⟩ := tnum_some hb_r5 hser
  have hb_r6 := tnum_byte hb_r5 hser
  have l_r6 := tnum_len hb_r5 hser
  simp only [Option.bind_some, Sum.elim_inl]
  rw [w64 (n := f) (by omega) (by omega), w64 (n := t) (by omega) (by omega)]
  have lok : ∀ {hv : List Int} {rs : List Rw} {es : List Ev} {tm sz sum at' : Int} {bs : List Int} {why : Int}, 1 ≤ k → k ≤ 7 → Sml hv → hv.length ≤ 64 → (∀ r ∈ rs, RwOK r) → rs.length ≤ 64 → (∀ e ∈ es, EvR e) → es.length ≤ 1000 → (0 ≤ tm ∧ tm < 18446744073709551616) → (0 ≤ sz ∧ sz < 18446744073709551616) → (0 ≤ sum ∧ sum < 4294967296) → (0 ≤ at' ∧ at' < 18446744073709551616) → Bys bs → bs.length ≤ 1000 → (0 ≤ why ∧ why ≤ 65536) →
      LOK k f t (m == 1) ser hv rs es tm sz sum at' bs why := fun g1 g2 g3 g4 g5 g6 g7 g8 g9 g10 g11 g12 g13 g14 g15 => ⟨g1, g2, f0, f2, t0, t2, ser0, ser2, g3, g4, g5, g6, g7, g8, g9.1, g9.2, g10.1, g10.2, g11.1, g11.2, g12.1, g12.2, g13, g14, g15.1, g15.2⟩
  have z1 : (0 : Int) ≤ 0 ∧ (0 : Int) < 18446744073709551616 := by decide
  have z2 : (0 : Int) ≤ 0 ∧ (0 : Int) < 4294967296 := by decide
  have z3 : (0 : Int) ≤ 0 ∧ (0 : Int) ≤ 65536 := by decide
  have nv : Sml [] := fun x hx => by cases hx
  have nr : ∀ r ∈ ([] : List Rw), RwOK r := fun x hx => by cases hx
  have ne : ∀ r ∈ ([] : List Ev), EvR r := fun x hx => by cases hx
  have nb : Bys [] := fun x hx => by cases hx
  by_cases c1 : k = 1
  · rw [show (k == 1) = true from beq_iff_eq.2 c1]
    simp only [cond_true]
    rw [F59_eq _ hb_r6]
    cases hhv : rdV r6 with
    | inr e => obtain ⟨e, r⟩ := e; exact LR.err (ne3 (rdV_err hhv))
    | inl p =>
    obtain ⟨hv, r7⟩ := p
    obtain ⟨_, hv0, hv1, hb_r7⟩ := rdV_some hb_r6 hhv
    have l_r7 := rdV_len hb_r6 hhv
    simp only [Option.bind_some, Sum.elim_inl]
    rcases F74_any r7 hb_r7 with ⟨e, r, g1, g2⟩ | ⟨rs, r, g1, g2, g3, g4, g5⟩
    · rw [g1]; exact LR.err g2
    rw [g1]
    simp only [Option.bind_some, Sum.elim_inl]
    exact LR.done (lok (by omega) (by omega) hv0 hv1 g2 g3 ne (by decide) z1 z1 z2 z1 nb (by decide) z3)
  rw [show (k == 1) = false from beq_eq_false_iff_ne.2 c1]
  simp only [cond_false]
  by_cases c2 : k = 2
  · rw [show (k == 2) = true from beq_iff_eq.2 c2]
    simp only [cond_true]
    rw [F59_eq _ hb_r6]
    cases hhv : rdV r6 with
    | inr e => obtain ⟨e, r⟩ := e; exact LR.err (ne3 (rdV_err hhv))
    | inl p =>
    obtain ⟨hv, r7⟩ := p
    obtain ⟨_, hv0, hv1, hb_r7⟩ := rdV_some hb_r6 hhv
    have l_r7 := rdV_len hb_r6 hhv
    simp only [Option.bind_some, Sum.elim_inl]
    rcases F74_any r7 hb_r7 with ⟨e, r, g1, g2⟩ | ⟨rs, r, g1, g2, g3, g4, g5⟩
    · rw [g1]; exact LR.err g2
    rw [g1]
    simp only [Option.bind_some, Sum.elim_inl]
    exact LR.done (lok (by omega) (by omega) hv0 hv1 g2 g3 ne (by decide) z1 z1 z2 z1 nb (by decide) z3)
  rw [show (k == 2) = false from beq_eq_false_iff_ne.2 c2]
  simp only [cond_false]
  by_cases c4 : k = 4
  · rw [show (k == 4) = true from beq_iff_eq.2 c4]
    simp only [cond_true]
    rw [F59_eq _ hb_r6]
    cases hhv : rdV r6 with
    | inr e => obtain ⟨e, r⟩ := e; exact LR.err (ne3 (rdV_err hhv))
    | inl p =>
    obtain ⟨hv, r7⟩ := p
    obtain ⟨_, hv0, hv1, hb_r7⟩ := rdV_some hb_r6 hhv
    have l_r7 := rdV_len hb_r6 hhv
    simp only [Option.bind_some, Sum.elim_inl]
    rcases F74_any r7 hb_r7 with ⟨e, r, g1, g2⟩ | ⟨rs, r, g1, g2, g3, g4, g5⟩
    · rw [g1]; exact LR.err g2
    rw [g1]
    simp only [Option.bind_some, Sum.elim_inl]
    exact LR.done (lok (by omega) (by omega) hv0 hv1 g2 g3 ne (by decide) z1 z1 z2 z1 nb (by decide) z3)
  rw [show (k == 4) = false from beq_eq_false_iff_ne.2 c4]
  simp only [cond_false]
  by_cases c3 : k = 3
  · rw [show (k == 3) = true from beq_iff_eq.2 c3]
    simp only [cond_true]
    rw [F59_eq _ hb_r6]
    cases hhv : rdV r6 with
    | inr e => obtain ⟨e, r⟩ := e; exact LR.err (ne3 (rdV_err hhv))
    | inl p =>
    obtain ⟨hv, r7⟩ := p
    obtain ⟨_, hv0, hv1, hb_r7⟩ := rdV_some hb_r6 hhv
    have l_r7 := rdV_len hb_r6 hhv
    simp only [Option.bind_some, Sum.elim_inl]
    rw [wu64 (n := (s.length : Int)) (by omega) (by omega)]
    rw [F58_eq _ _ hb_r7]
    cases hc : tnum (s.length : Int) r7 with
    | inr e => exact LR.err (ne3 (tnum_err hc))
    | inl p =>
    obtain ⟨c, r8⟩ := p
    obtain ⟨_, c0, c1, c2⟩ := tnum_some hb_r7 hc
    have hb_r8 := tnum_byte hb_r7 hc
    have l_r8 := tnum_len hb_r7 hc
    simp only [Option.bind_some, Sum.elim_inl]
    obtain ⟨n, rfl⟩ : ∃ n : Nat, c = (n : Int) := ⟨c.toNat, by omega⟩
    have := L38_any k f t (m == 1) ser hv s hl n (by omega) n 0 r8 [] (by omega) hb_r8 (by omega) (fun e he => by cases he) rfl
    rw [show ((0 : Nat) : Int) = 0 from rfl] at this
    rcases this with ⟨r, g1⟩ | ⟨e, es, r, g1, g2⟩ | ⟨es, r, g1, g2, g3⟩
    · rw [g1]; exact LR.err (show (4 : Int) ≠ 0 by decide)
    · rw [g1]; exact LR.err g2
    · rw [g1]
      simp only [Option.bind_some, Sum.elim_inl, Sum.elim_inr]
      exact LR.done (lok (by omega) (by omega) hv0 hv1 nr (by decide) g2 (by omega) z1 z1 z2 z1 nb (by decide) z3)
  rw [show (k == 3) = false from beq_eq_false_iff_ne.2 c3]
  simp only [cond_false]
  by_cases c5 : k = 5
  · rw [show (k == 5) = true from beq_iff_eq.2 c5]
    simp only [cond_true]
    rw [F59_eq _ hb_r6]
    cases hhv : rdV r6 with
    | inr e => obtain ⟨e, r⟩ := e; exact LR.err (ne3 (rdV_err hhv))
    | inl p =>
    obtain ⟨hv, r7⟩ := p
    obtain ⟨_, hv0, hv1, hb_r7⟩ := rdV_some hb_r6 hhv
    have l_r7 := rdV_len hb_r6 hhv
    simp only [Option.bind_some, Sum.elim_inl]
    rw [F58_eq _ _ hb_r7]
    cases htm : tnum 9223372036854775807 r7 with
    | inr e => exact LR.err (ne3 (tnum_err htm))
    | inl p =>
    obtain ⟨tm, r8⟩ := p
    obtain ⟨_, tm0, tm1, tm2⟩ := tnum_some hb_r7 htm
    have hb_r8 := tnum_byte hb_r7 htm
    have l_r8 := tnum_len hb_r7 htm
    simp only [Option.bind_some, Sum.elim_inl]
    rw [F58_eq _ _ hb_r8]
    cases hsz : tnum 1099511627776 r8 with
    | inr e => exact LR.err (ne3 (tnum_err hsz))
    | inl p =>
    obtain ⟨sz, r9⟩ := p
    obtain ⟨_, sz0, sz1, sz2⟩ := tnum_some hb_r8 hsz
    have hb_r9 := tnum_byte hb_r8 hsz
    have l_r9 := tnum_len hb_r8 hsz
    simp only [Option.bind_some, Sum.elim_inl]
    rw [F58_eq _ _ hb_r9]
    cases hsm : tnum 4294967295 r9 with
    | inr e => exact LR.err (ne3 (tnum_err hsm))
    | inl p =>
    obtain ⟨sm, r10⟩ := p
    obtain ⟨_, sm0, sm1, sm2⟩ := tnum_some hb_r9 hsm
    have hb_r10 := tnum_byte hb_r9 hsm
    have l_r10 := tnum_len hb_r9 hsm
    simp only [Option.bind_some, Sum.elim_inl]
    have hw : IntKind.wrap .u32 sm = sm := by rw [wu32_mod]; omega
    rw [hw]
    exact LR.done (lok (by omega) (by omega) hv0 hv1 nr (by decide) ne (by decide) ⟨tm0, by omega⟩ ⟨sz0, by omega⟩ ⟨sm0, by omega⟩ z1 nb (by decide) z3)
  rw [show (k == 5) = false from beq_eq_false_iff_ne.2 c5]
  simp only [cond_false]
  by_cases c6 : k = 6
  · rw [show (k == 6) = true from beq_iff_eq.2 c6]
    simp only [cond_true]
    rw [F58_eq _ _ hb_r6]
    cases hsz : tnum 1099511627776 r6 with
    | inr e => exact LR.err (ne3 (tnum_err hsz))
    | inl p =>
    obtain ⟨sz, r7⟩ := p
    obtain ⟨_, sz0, sz1, sz2⟩ := tnum_some hb_r6 hsz
    have hb_r7 := tnum_byte hb_r6 hsz
    have l_r7 := tnum_len hb_r6 hsz
    simp only [Option.bind_some, Sum.elim_inl]
    rw [F58_eq _ _ hb_r7]
    cases ha : tnum 1099511627776 r7 with
    | inr e => exact LR.err (ne3 (tnum_err ha))
    | inl p =>
    obtain ⟨a, r8⟩ := p
    obtain ⟨_, a0, a1, a2⟩ := tnum_some hb_r7 ha
    have hb_r8 := tnum_byte hb_r7 ha
    have l_r8 := tnum_len hb_r7 ha
    simp only [Option.bind_some, Sum.elim_inl]
    have hle : (s.length : Int) < lim := by have : s.length < lim := lt_lim (by omega); exact Int.ofNat_lt.2 this
    rw [F60_eq _ _ hb_r8 (by omega) hle]
    cases h9 : tkT (s.length : Int) r8 with
    | inr e => exact LR.err (ne3 (tkT_err' h9))
    | inl p =>
    obtain ⟨bs, r9⟩ := p
    obtain ⟨hbs, hb_r9⟩ := tkT_byte hb_r8 h9
    obtain ⟨l_r9, l_bs⟩ := tkT_len hb_r8 h9
    simp only [Option.bind_some, Sum.elim_inl]
    exact LR.done (lok (by omega) (by omega) nv (by decide) nr (by decide) ne (by decide) z1 ⟨sz0, by omega⟩ z2 ⟨a0, by omega⟩ hbs (by omega) z3)
  rw [show (k == 6) = false from beq_eq_false_iff_ne.2 c6]
  simp only [cond_false]
  by_cases c7 : k = 7
  · rw [show (k == 7) = true from beq_iff_eq.2 c7]
    simp only [cond_true]
    rw [F58_eq _ _ hb_r6]
    cases hw : tnum 65536 r6 with
    | inr e => exact LR.err (ne3 (tnum_err hw))
    | inl p =>
    obtain ⟨w, r7⟩ := p
    obtain ⟨_, w0, w1, w2⟩ := tnum_some hb_r6 hw
    have hb_r7 := tnum_byte hb_r6 hw
    have l_r7 := tnum_len hb_r6 hw
    simp only [Option.bind_some, Sum.elim_inl]
    rw [w64 (n := w) (by omega) (by omega)]
    exact LR.done (lok (by omega) (by omega) nv (by decide) nr (by decide) ne (by decide) z1 z1 z2 z1 nb (by decide) ⟨w0, w2⟩)
  rw [show (k == 7) = false from beq_eq_false_iff_ne.2 c7]
  exact LR.err (by decide)
end Go.IM.V

/- Letters: the law LetterJunk. -/
set_option linter.unusedVariables false
set_option linter.unusedSimpArgs false
set_option linter.constructorNameAsVariable false
namespace Go.IM.V
open Go Go.IM Go.Proofs

theorem F12_any (p : List Int) (hb : Bys p) (hl : p.length ≤ 1000) : ∃ (x : Lt) (e : Int), F12 p = some ((x, e, ()), (), ()) ∧ ((e ≠ 0 ∧ x.1 = 0 ∧ x.2.2.2.2.1 = 0) ∨ (e = 0 ∧ ∃ (k f t : Int) (mine : Bool) (ser : Int) (hv : List Int) (rs : List Rw) (es : List Ev) (tm sz sum at' : Int) (bs : List Int) (why : Int),
    LOK k f t mine ser hv rs es tm sz sum at' bs why ∧ x = (k, f, t, mine, ser, hv, rs, es, tm, sz, sum, at', bs, why, ()) ∧ ((strL (rcd (bodyL k f t mine ser hv rs es tm sz sum at' bs why))).toList == (strL p).toList) = true)) := by
  unfold F12
  rw [F37_eq p _ hb (lt_lim (by omega)) (by decide)]
  cases h1 : opn 4194304 p with
  | inr e =>
    simp only [Option.bind_some]
    have he := opn_err h1
    rw [show (e != 0) = true from bne_iff_ne.2 (by omega)]
    exact ⟨_, e, rfl, .inl ⟨by omega, rfl, rfl⟩⟩
  | inl q =>
    obtain ⟨s, r⟩ := q
    obtain ⟨e1, _, e3⟩ := opn_some hb h1
    have hbs : Bys s := fun x hx => hb x (by rw [e1]; unfold rcd dgT; simp [hx])
    simp only [Option.bind_some, cif]
    rw [show ((0 : Int) != 0) = false from rfl]
    simp only [cond_false]
    by_cases hr : ((r.length : Nat) : Int) > 0
    · rw [if_pos hr]
      exact ⟨_, 4, rfl, .inl ⟨by decide, rfl, rfl⟩⟩
    rw [if_neg hr]
    obtain ⟨k, f, t, mine, ser, hv, rs, es, tm, sz, sum, at', bs, why, e, g1, g2⟩ := F38_any s hbs (by omega)
    rw [g1]
    simp only [Option.bind_some]
    by_cases he : e = 0
    · subst he
      rw [show ((0 : Int) != 0) = false from rfl]
      simp only [cond_false]
      have hL := g2.resolve_left (by decide)
      rw [F32_ok hL]
      simp only [Option.bind_some]
      cases hc : ((strL (rcd (bodyL k f t mine ser hv rs es tm sz sum at' bs why))).toList == (strL p).toList) with
      | false =>
        simp only [Bool.not_false, cond_true]
        exact ⟨_, 4, rfl, .inl ⟨by decide, rfl, rfl⟩⟩
      | true =>
        simp only [Bool.not_true, cond_false]
        exact ⟨_, 0, rfl, .inr ⟨rfl, k, f, t, mine, ser, hv, rs, es, tm, sz, sum, at', bs, why, hL, rfl, hc⟩⟩
    · rw [show (e != 0) = true from bne_iff_ne.2 he]
      exact ⟨_, e, rfl, .inl ⟨he, rfl, rfl⟩⟩

/-! ### The document's example -/
theorem lok0 : LOK 7 1 2 false 3 [] [] [] 0 0 0 0 [] 3 :=
  ⟨by decide, by decide, by decide, by decide, by decide, by decide, by decide, by decide, fun x hx => (by cases hx), by decide, fun x hx => (by cases hx), by decide, fun x hx => (by cases hx), by decide, by decide, by decide, by decide, by decide, by decide, by decide, by decide, by decide, fun x hx => (by cases hx), by decide, by decide, by decide⟩
theorem body0 : bodyL 7 1 2 false 3 [] [] [] 0 0 0 0 [] 3 = [1, 7, 1, 2, 0, 3, 3] := by decide +kernel
theorem byt0 : Bys [1, 7, 1, 2, 0, 3, 3] := by intro x hx; simp at hx; omega
theorem rd0 : F38 [1, 7, 1, 2, 0, 3, 3] = some (((7, 1, 2, false, 3, [], [], [], 0, 0, 0, 0, [], 3, ()), 0, ()), (), ()) := by
  unfold F38 F57
  simp only [Option.bind_some]
  rw [F58_eq _ _ byt0, show tnum 18446744073709551615 [1, 7, 1, 2, 0, 3, 3] = .inl (1, [7, 1, 2, 0, 3, 3]) by decide +kernel]
  simp only [Option.bind_some, Sum.elim_inl]
  rw [show ((1 : Int) != 1) = false from rfl]
  simp only [cond_false]
  rw [F73_eq]
  simp only [Option.bind_some, Sum.elim_inl]
  rw [F58_eq _ _ (show Bys [1, 2, 0, 3, 3] from byt0.drop 2), show tnum 63 [1, 2, 0, 3, 3] = .inl (1, [2, 0, 3, 3]) by decide +kernel]
  simp only [Option.bind_some, Sum.elim_inl]
  rw [F58_eq _ _ (show Bys [2, 0, 3, 3] from byt0.drop 3), show tnum 63 [2, 0, 3, 3] = .inl (2, [0, 3, 3]) by decide +kernel]
  simp only [Option.bind_some, Sum.elim_inl]
  rw [F58_eq _ _ (show Bys [0, 3, 3] from byt0.drop 4), show tnum 1 [0, 3, 3] = .inl (0, [3, 3]) by decide +kernel]
  simp only [Option.bind_some, Sum.elim_inl]
  rw [F58_eq _ _ (show Bys [3, 3] from byt0.drop 5), show tnum 9223372036854775807 [3, 3] = .inl (3, [3]) by decide +kernel]
  simp only [Option.bind_some, Sum.elim_inl]
  rw [show ((7 : Int) == 1) = false from rfl, show ((7 : Int) == 2) = false from rfl, show ((7 : Int) == 3) = false from rfl, show ((7 : Int) == 4) = false from rfl, show ((7 : Int) == 5) = false from rfl, show ((7 : Int) == 6) = false from rfl, show ((7 : Int) == 7) = true from rfl]
  simp only [cond_false, cond_true]
  rw [F58_eq _ _ (show Bys [3] from byt0.drop 6), show tnum 65536 [3] = .inl (3, []) by decide +kernel]
  simp only [Option.bind_some, Sum.elim_inl]
  rw [F61_eq]
  rfl
theorem rcd0_len : (rcd [1, 7, 1, 2, 0, 3, 3]).length = 12 := by rw [rcd_len]; decide +kernel
theorem two0 : (rcd [1, 7, 1, 2, 0, 3, 3]).getD (2 : Int).toNat 0 = 7 := by decide +kernel
theorem turned0 : opn 4194304 ((rcd [1, 7, 1, 2, 0, 3, 3]).set (2 : Int).toNat (iXor .u8 ((rcd [1, 7, 1, 2, 0, 3, 3]).getD (2 : Int).toNat 0) 1)) = .inr 4 := by decide +kernel
theorem F8_eq : F8 = some (r1 true) := by
  unfold F8 F32h
  rw [F32_ok lok0, body0]
  have hne : List.isEmpty (α := Int) (rcd [1, 7, 1, 2, 0, 3, 3]) = false := by decide +kernel
  have hbr := rcd_byte byt0 (by decide)
  have hlr := rcd0_len
  simp only [Option.bind_some, hne, cond_false]
  have hd : F12 (rcd [1, 7, 1, 2, 0, 3, 3]) = some (((7, 1, 2, false, 3, [], [], [], 0, 0, 0, 0, [], 3, ()), 0, ()), (), ()) := by
    unfold F12
    have ho : opn 4194304 (rcd [1, 7, 1, 2, 0, 3, 3]) = .inl ([1, 7, 1, 2, 0, 3, 3], []) := by
      have := opn_app (t := [1, 7, 1, 2, 0, 3, 3]) (rest := []) (most := 4194304) (by decide) (by decide)
      rwa [List.append_nil] at this
    rw [F37_eq _ _ hbr (lt_lim (by omega)) (by decide), ho]
    simp only [Option.bind_some]
    rw [rd0]
    simp only [Option.bind_some]
    rw [show ((0 : Int) != 0) = false from rfl]
    simp only [cond_false]
    rw [F32_ok lok0, body0]
    simp only [Option.bind_some]
    rw [show ((strL (rcd [1, 7, 1, 2, 0, 3, 3])).toList == (strL (rcd [1, 7, 1, 2, 0, 3, 3])).toList) = true from beq_self_eq_true _]
    rfl
  rw [hd]
  simp only [Option.bind_some]
  rw [show ((0 : Int) != 0) = false from rfl, show ((3 : Int) != 3) = false from rfl, show ((2 : Int) != 2) = false from rfl]
  simp only [cond_false, cif, hlr]
  have hbt : Bys ((rcd [1, 7, 1, 2, 0, 3, 3]).set (2 : Int).toNat (iXor .u8 ((rcd [1, 7, 1, 2, 0, 3, 3]).getD (2 : Int).toNat 0) 1)) := by
    intro x hx
    rcases List.mem_or_eq_of_mem_set hx with hx | hx
    · exact hbr x hx
    · rw [hx, two0]; decide
  rw [if_pos (by decide), if_pos (by decide), if_pos (by decide), if_pos (by decide)]
  have hd2 : ∃ (x : Lt), F12 ((rcd [1, 7, 1, 2, 0, 3, 3]).set (2 : Int).toNat (iXor .u8 ((rcd [1, 7, 1, 2, 0, 3, 3]).getD (2 : Int).toNat 0) 1)) = some ((x, 4, ()), (), ()) := by
    unfold F12
    rw [F37_eq _ _ hbt (lt_lim (by rw [List.length_set]; omega)) (by decide), turned0]
    exact ⟨_, rfl⟩
  obtain ⟨x, hx⟩ := hd2
  rw [hx]
  rfl
theorem letterJunk_pure (p : List Int) (w : Bool) (hp : Bys p) : F4 p w = some (r1 true) := by
  unfold F4
  rw [F8_eq]
  simp only [Option.bind_some, Bool.not_true, cond_false, cif]
  by_cases hl : ((p.length : Nat) : Int) > 500
  · rw [if_pos hl]
  rw [if_neg hl]
  have key : ∀ (q : List Int), Bys q → q.length ≤ 1000 → ((F12 q).bind fun y => bif y.1.2.1 != 0 then (bif y.1.1.1 == 0 then some (((y.1.1.2.2.2.2.1 == 0), ()), (), ()) else some ((false, ()), (), ()))
      else (F10 (y.1.1.1, (y.1.1.2.1, (y.1.1.2.2.1, (y.1.1.2.2.2.1, (y.1.1.2.2.2.2.1, (y.1.1.2.2.2.2.2.1, (y.1.1.2.2.2.2.2.2.1, (y.1.1.2.2.2.2.2.2.2.1, (y.1.1.2.2.2.2.2.2.2.2.1, (y.1.1.2.2.2.2.2.2.2.2.2.1, (y.1.1.2.2.2.2.2.2.2.2.2.2.1, (y.1.1.2.2.2.2.2.2.2.2.2.2.2.1, (y.1.1.2.2.2.2.2.2.2.2.2.2.2.2.1, (y.1.1.2.2.2.2.2.2.2.2.2.2.2.2.2.1, ()))))))))))))))).bind fun z => some ((((strL z.2.2.1).toList == (strL q).toList), ()), (), ())) = some (r1 true) := by
    intro q hq hql
    obtain ⟨x, e, g1, g2⟩ := F12_any q hq hql
    rw [g1]
    simp only [Option.bind_some]
    rcases g2 with ⟨g2, g3, g4⟩ | ⟨rfl, k, f, t, mine, ser, hv, rs, es, tm, sz, sum, at', bs, why, hL, rfl, hc⟩
    · rw [show (e != 0) = true from bne_iff_ne.2 g2, g3, g4]
      rfl
    · rw [show ((0 : Int) != 0) = false from rfl]
      simp only [cond_false]
      rw [F10_ok hL]
      simp only [Option.bind_some, hc]
  cases w with
  | true =>
    simp only [cond_true]
    rw [F13_eq p hp (by omega)]
    simp only [Option.bind_some]
    have h1 := rcd_len p
    have h2 := dg_len (p.length : Int)
    exact key (rcd p) (rcd_byte hp (by omega)) (by omega)
  | false => exact key p hp (by omega)
end Go.IM.V
