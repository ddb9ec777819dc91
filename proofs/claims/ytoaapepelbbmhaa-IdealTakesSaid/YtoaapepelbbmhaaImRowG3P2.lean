/- What the code of a law comes to, and what that tells: part 2. Lemmas alone; no conditions. -/
import Derived.Test.YtoaapepelbbmhaaImRowG3P1
set_option linter.unusedVariables false
namespace Go.IM.V
open Go Go.IM Go.Proofs
abbrev SC : Type := (TX × (TNN × (TNN × (TNN × Unit))))
theorem F31_nil (w : Int) : F31 [] w = some ((0, ()), (), ()) := by
 unfold F31
 simp only [cif]
 by_cases h : w < 0
 ·rw [if_pos h]
 ·rw [if_neg h, if_pos (by simp; omega)]
theorem T29_e (e : DEv) (b1 : Int) (b2 : A3) (b3 b4 : Int) : T29_3 [e] 1 0 [] b1 b2 b3 b4 [] = (F31 [] e.1).bind fun y0 => bif decide ((e.2.1 : Int) > y0.1.1) then some (.inl (((), (), [e], 1, 1, ()), (([], b1, b2, b3, b4, (), ()), ()), ([e], ()))) else some (.inl (((), (), [e], 1, 1, ()), (([], b1, b2, b3, b4, (), ()), ()), ([], ()))) := by kernel_rfl
theorem F29_e (e : DEv) (b1 : Int) (b2 : A3) (b3 b4 : Int) (h : 1 ≤ e.2.1) : F29 [e] [] b1 b2 b3 b4 = some (([e], ()), (([], b1, b2, b3, b4, (), ()), ()), ()) := by
 have hT : T29_3 [e] 1 0 [] b1 b2 b3 b4 [] = some (.inl (((), (), [e], 1, 1, ()), (([], b1, b2, b3, b4, (), ()), ()), ([e], ()))) := by
  rw [T29_e, F31_nil]
  show (bif decide ((e.2.1 : Int) > 0) then _ else _) = _
  rw [decide_eq_true (by omega)]
  rfl
 have hL : L29_3 [e] 1 0 [] b1 b2 b3 b4 [] = some (((), ()), (([], b1, b2, b3, b4, (), ()), ()), ([e], ())) := by
  show (T29_3 [e] 1 0 [] b1 b2 b3 b4 []).bind _ = _
  rw [hT]
  rfl
 show (L29_3 [e] 1 0 [] b1 b2 b3 b4 []).bind _ = _
 rw [hL]
 rfl
theorem T30_e (e : DEv) (s : SC) (h : F13csc e s = some ((false, ()), s, ())) : T30c2_3 2 [e] 1 0 s.1.1 s.1.2.1 s.1.2.2.1 s.2.2.2.1.1 s.2.2.2.1.2.1 s.2.2.2.1.2.2.1 s.2.2.2.1.2.2.2.1 s.2.2.2.1.2.2.2.2.1 s.2.1.1 s.2.1.2.1 s.2.1.2.2.1 s.2.1.2.2.2.1 s.2.1.2.2.2.2.1 s.2.2.1.1 s.2.2.1.2.1 s.2.2.1.2.2.1 s.2.2.1.2.2.2.1 s.2.2.1.2.2.2.2.1 = some (.inr (.inl ((4, ()), (s.1, s.2.2.2.1, s.2.1, s.2.2.1, ()), ()))) := by
 have h' : F13c e s.1.1 s.1.2.1 s.1.2.2.1 s.2.1.1 s.2.1.2.1 s.2.1.2.2.1 s.2.1.2.2.2.1 s.2.1.2.2.2.2.1 s.2.2.1.1 s.2.2.1.2.1 s.2.2.1.2.2.1 s.2.2.1.2.2.2.1 s.2.2.1.2.2.2.2.1 s.2.2.2.1.1 s.2.2.2.1.2.1 s.2.2.2.1.2.2.1 s.2.2.2.1.2.2.2.1 s.2.2.2.1.2.2.2.2.1 = some ((false, ()), s, ()) := h
 unfold T30c2_3
 show ((F13c e s.1.1 s.1.2.1 s.1.2.2.1 s.2.1.1 s.2.1.2.1 s.2.1.2.2.1 s.2.1.2.2.2.1 s.2.1.2.2.2.2.1 s.2.2.1.1 s.2.2.1.2.1 s.2.2.1.2.2.1 s.2.2.1.2.2.2.1 s.2.2.1.2.2.2.2.1 s.2.2.2.1.1 s.2.2.2.1.2.1 s.2.2.2.1.2.2.1 s.2.2.2.1.2.2.2.1 s.2.2.2.1.2.2.2.2.1).bind _) = _
 rw [h']
 rfl
theorem F10_e (e : DEv) (s : SC) (h : F13csc e s = some ((false, ()), s, ())) (hn : s.2.2.2.1.1 = []) (h1 : 1 ≤ e.2.1) : F10c2sc [] [e] 1 s = some ((4, ()), s, ()) := by
 have h29 := F29_e e s.2.2.2.1.2.1 s.2.2.2.1.2.2.1 s.2.2.2.1.2.2.2.1 s.2.2.2.1.2.2.2.2.1 h1
 have h30 := T30_e e s h
 have hL : F30c2 [e] s.1.1 s.1.2.1 s.1.2.2.1 s.2.1.1 s.2.1.2.1 s.2.1.2.2.1 s.2.1.2.2.2.1 s.2.1.2.2.2.2.1 s.2.2.1.1 s.2.2.1.2.1 s.2.2.1.2.2.1 s.2.2.1.2.2.2.1 s.2.2.1.2.2.2.2.1 s.2.2.2.1.1 s.2.2.2.1.2.1 s.2.2.2.1.2.2.1 s.2.2.2.1.2.2.2.1 s.2.2.2.1.2.2.2.2.1 = some ((4, ()), s, ()) := by
  show ((T30c2_3 2 [e] 1 0 s.1.1 s.1.2.1 s.1.2.2.1 s.2.2.2.1.1 s.2.2.2.1.2.1 s.2.2.2.1.2.2.1 s.2.2.2.1.2.2.2.1 s.2.2.2.1.2.2.2.2.1 s.2.1.1 s.2.1.2.1 s.2.1.2.2.1 s.2.1.2.2.2.1 s.2.1.2.2.2.2.1 s.2.2.1.1 s.2.2.1.2.1 s.2.2.1.2.2.1 s.2.2.1.2.2.2.1 s.2.2.1.2.2.2.2.1).bind _).bind _ = _
  rw [h30]
  rfl
 show ((F29 [e] s.2.2.2.1.1 s.2.2.2.1.2.1 s.2.2.2.1.2.2.1 s.2.2.2.1.2.2.2.1 s.2.2.2.1.2.2.2.2.1).bind _) = _
 rw [hn, h29]
 show ((F30c2 [e] s.1.1 s.1.2.1 s.1.2.2.1 s.2.1.1 s.2.1.2.1 s.2.1.2.2.1 s.2.1.2.2.2.1 s.2.1.2.2.2.2.1 s.2.2.1.1 s.2.2.1.2.1 s.2.2.1.2.2.1 s.2.2.1.2.2.2.1 s.2.2.1.2.2.2.2.1 [] s.2.2.2.1.2.1 s.2.2.2.1.2.2.1 s.2.2.2.1.2.2.2.1 s.2.2.2.1.2.2.2.2.1).bind _) = _
 rw [← hn, hL]
 rfl
def smB (e : DEv) : Bool := decide (0 ≤ e.2.1 ∧ e.2.1 < 18446744073709551616) && (decide (0 ≤ e.2.2.1 ∧ e.2.2.1 < 18446744073709551616) && (decide (e.2.2.2.2.1.size ≤ 64) && decide (e.2.2.2.2.2.1.length ≤ 100)))
theorem smB_ok {e : DEv} (h : smB e = true) : SmE e := by
 unfold smB at h
 simp only [Bool.and_eq_true, decide_eq_true_eq] at h
 exact ⟨h.1, h.2.1, h.2.2.1, h.2.2.2⟩
theorem zE_sm : SmE zE := smB_ok (by kernel_rfl)
theorem getD_mem {α : Type} (l : List α) (i : Nat) (d : α) : l.getD i d ∈ l ∨ l.getD i d = d := by
 rw [List.getD_eq_getElem?_getD]
 cases h : l[i]? with
 | none => exact .inr rfl
 | some x => exact .inl (List.mem_of_getElem? h)
theorem all_sm {l : List (List DEv)} (h : (l.all fun x => x.all smB) = true) (w i : Nat) : SmE ((l.getD w []).getD i zE) := by
 rw [List.all_eq_true] at h
 rcases getD_mem (l.getD w []) i zE with h1 | h1
 ·rcases getD_mem l w [] with h2 | h2
  ·have h3 := h _ h2
   rw [List.all_eq_true] at h3
   exact smB_ok (h3 _ h1)
  ·rw [h2] at h1; cases h1
 ·rw [h1]; exact zE_sm
theorem F36_eq (n : Int) : F36 n = some ((decide (0 ≤ n ∧ n < 64), ()), (), ()) := by
 unfold F36
 simp only [cif]
 by_cases h : 0 ≤ n
 ·rw [if_pos (by omega)]; congr 3; exact decide_eq_decide.2 ⟨fun q => ⟨h, q⟩, fun q => q.2⟩
 ·rw [if_neg (by omega), decide_eq_false (fun q => h q.1)]
def Q12 (e : DEv) (r : Option ((Int × Unit) × Unit × Unit)) : Prop := ∃ v, r = some ((v, ()), (), ()) ∧ (v = 0 → (0 ≤ e.1 ∧ e.1 < 64) ∧ 1 ≤ e.2.1)
theorem Q12_ite {e : DEv} {c : Prop} [Decidable c] {a b : Option ((Int × Unit) × Unit × Unit)} (ha : c → Q12 e a) (hb : ¬ c → Q12 e b) : Q12 e (if c then a else b) := by
 by_cases h : c
 ·rw [if_pos h]; exact ha h
 ·rw [if_neg h]; exact hb h
theorem F12_tot (e : DEv) (h : 0 ≤ e.2.1) : Q12 e (F12 e) := by
 unfold F12
 simp only [F36_eq, Option.bind_some, Bool.cond_eq_ite, decide_eq_true_eq, beq_iff_eq, Bool.not_eq_true', decide_eq_false_iff_not]
 repeat' refine Q12_ite (fun _ => ?_) (fun _ => ?_)
 all_goals exact ⟨_, rfl, fun q => by first | (exact absurd q (by decide)) | omega⟩
theorem F37_tot (a e : DEv) (ha : SmE a) (he : SmE e) : ∃ b, F37 a e = some ((b, ()), (), ()) := by
 obtain ⟨q1, e1⟩ := F54_tot a ha
 obtain ⟨q2, e2⟩ := F54_tot e he
 unfold F37
 rw [e1]
 simp only [Option.bind_some]
 rw [e2]
 exact ⟨_, rfl⟩
theorem F13_tot (e : DEv) (s : SC) (hs : (s.1.2.1.all fun x => x.all smB) = true) (he : SmE e) (h0 : 0 ≤ e.1 ∧ e.1 < 64) (h1 : 1 ≤ e.2.1) : ∃ b, F13csc e s = some ((b, ()), s, ()) := by
 obtain ⟨b, hb⟩ := F37_tot ((s.1.2.1.getD e.1.toNat []).getD (IntKind.wrap .u64 (e.2.1 - 1)).toNat zE) e (all_sm hs _ _) he
 have hw : IntKind.wrap .u64 (e.2.1 - 1) = e.2.1 - 1 := wu64 (by omega) (by have := he.1.2; omega)
 have hl : IntKind.wrap .u64 (((s.1.2.1.getD e.1.toNat []).length : Nat) : Int) ≤ (((s.1.2.1.getD e.1.toNat []).length : Nat) : Int) := by rw [wu64_mod]; omega
 unfold F13csc F13c
 rw [hb]
 simp only [Option.bind_some, cif]
 rw [if_pos (by omega), if_pos (by omega), if_pos (by omega), if_pos (by omega), if_pos (by omega)]
 split
 ·rw [if_pos (by omega), if_pos (by omega), if_pos (by rw [hw]; omega)]
  exact ⟨b, rfl⟩
 ·exact ⟨false, rfl⟩
noncomputable def y9of (n : Int) : Option ((A4 × Unit) × SC × Unit) := ((F8c).bind fun y4 => ((L3_6sc (IntKind.wrap .i64 (1 + (((IntKind.wrap .i64 n) : Int).tmod 5))) 0 y4.2.1).bind fun y5 => ((F11c0sc y5.2.1).bind fun y6 => ((F10c1sc ([] : List Int) y6.1.1 (IntKind.wrap .i64 (1 + (((IntKind.wrap .i64 n) : Int).tmod 5))) y6.2.1).bind fun y7 => ((F9c1sc (0, (0, (0, (4, ((⟨#[98]⟩ : ByteArray), (([] : List Int), (0, (0, ())))))))) y7.2.1).bind fun y8 => (F11c1sc y8.2.1))))))
noncomputable def rst (l : List DEv) (s : SC) (v : Int) : Option ((Bool × Unit) × Unit × Unit) := ((F14c1sc s).bind fun y41 => ((F10c2sc y41.1.1 l 1 y41.2.1).bind fun y42 => ((F10c2sc ([] : List Int) l (((l).length : Nat) : Int) y42.2.1).bind fun y43 => (bif ((v : Int) == 4) then (bif ((y42.1.1 : Int) == 9) then (bif ((y43.1.1 : Int) == 0) then ((F14c2sc y43.2.1).bind fun y44 => ((F14c1sc y44.2.1).bind fun y45 => ((F15 y44.1.1 y45.1.1).bind fun y46 => (some ((y46.1.1, ()), (), ()))))) else (some ((false, ()), (), ()))) else (some ((false, ()), (), ()))) else (some ((false, ()), (), ()))))))
noncomputable def tlE (e : DEv) (l : List DEv) (s : SC) : Option ((Bool × Unit) × Unit × Unit) := ((F12 e).bind fun y38 => (bif ((y38.1.1 : Int) != 0) then (some ((true, ()), (), ())) else ((F13csc e s).bind fun y39 => (bif y39.1.1 then (some ((true, ()), (), ())) else ((F10c2sc ([] : List Int) [e] 1 y39.2.1).bind fun y40 => ((F14c1sc y40.2.1).bind fun y41 => ((F10c2sc y41.1.1 l 1 y41.2.1).bind fun y42 => ((F10c2sc ([] : List Int) l (((l).length : Nat) : Int) y42.2.1).bind fun y43 => (bif ((y40.1.1 : Int) == 4) then (bif ((y42.1.1 : Int) == 9) then (bif ((y43.1.1 : Int) == 0) then ((F14c2sc y43.2.1).bind fun y44 => ((F14c1sc y44.2.1).bind fun y45 => ((F15 y44.1.1 y45.1.1).bind fun y46 => (some ((y46.1.1, ()), (), ()))))) else (some ((false, ()), (), ()))) else (some ((false, ()), (), ()))) else (some ((false, ()), (), ())))))))))))
theorem tl_true (e : DEv) (l : List DEv) (s : SC) (he : SmE e) (hs : (s.1.2.1.all fun x => x.all smB) = true) (hn : s.2.2.2.1.1 = []) (hr : rst l s 4 = some (r1 true)) : tlE e l s = some (r1 true) := by
 obtain ⟨v, hv, hv0⟩ := F12_tot e he.1.1
 unfold tlE
 rw [hv]
 simp only [Option.bind_some]
 by_cases h0 : v = 0
 ·subst h0
  obtain ⟨h1, h2⟩ := hv0 rfl
  obtain ⟨b, hb⟩ := F13_tot e s hs he h1 h2
  rw [hb]
  cases b with
  | true => rfl
  | false =>
   show ((F10c2sc [] [e] 1 s).bind _) = _
   rw [F10_e e s hb hn h2]
   exact hr
 ·rw [show (v != 0) = true by rw [bne_iff_ne]; exact h0]
  rfl
theorem y9s0 : (y9of 0).isSome = true := by kernel_rfl
noncomputable def st0 : SC := ((y9of 0).get y9s0).2.1
noncomputable def ev0 : List DEv := ((y9of 0).get y9s0).1.1
theorem rs0 : rst ev0 st0 4 = some (r1 true) := by kernel_rfl
theorem sm0 : (st0.1.2.1.all fun x => x.all smB) = true := by kernel_rfl
theorem hn0 : st0.2.2.2.1.1 = [] := by kernel_rfl
theorem y9s1 : (y9of 1).isSome = true := by kernel_rfl
noncomputable def st1 : SC := ((y9of 1).get y9s1).2.1
noncomputable def ev1 : List DEv := ((y9of 1).get y9s1).1.1
theorem rs1 : rst ev1 st1 4 = some (r1 true) := by kernel_rfl
theorem sm1 : (st1.1.2.1.all fun x => x.all smB) = true := by kernel_rfl
theorem hn1 : st1.2.2.2.1.1 = [] := by kernel_rfl
theorem y9s2 : (y9of 2).isSome = true := by kernel_rfl
noncomputable def st2 : SC := ((y9of 2).get y9s2).2.1
noncomputable def ev2 : List DEv := ((y9of 2).get y9s2).1.1
theorem rs2 : rst ev2 st2 4 = some (r1 true) := by kernel_rfl
theorem sm2 : (st2.1.2.1.all fun x => x.all smB) = true := by kernel_rfl
theorem hn2 : st2.2.2.2.1.1 = [] := by kernel_rfl
theorem y9s3 : (y9of 3).isSome = true := by kernel_rfl
noncomputable def st3 : SC := ((y9of 3).get y9s3).2.1
noncomputable def ev3 : List DEv := ((y9of 3).get y9s3).1.1
theorem rs3 : rst ev3 st3 4 = some (r1 true) := by kernel_rfl
theorem sm3 : (st3.1.2.1.all fun x => x.all smB) = true := by kernel_rfl
theorem hn3 : st3.2.2.2.1.1 = [] := by kernel_rfl
theorem y9s4 : (y9of 4).isSome = true := by kernel_rfl
noncomputable def st4 : SC := ((y9of 4).get y9s4).2.1
noncomputable def ev4 : List DEv := ((y9of 4).get y9s4).1.1
theorem rs4 : rst ev4 st4 4 = some (r1 true) := by kernel_rfl
theorem sm4 : (st4.1.2.1.all fun x => x.all smB) = true := by kernel_rfl
theorem hn4 : st4.2.2.2.1.1 = [] := by kernel_rfl
theorem key_long (n h : Int) (e : DEv) (hk : ¬ e.2.2.2.2.1.size ≤ 64) : F3 n h e = some (r1 true) := by
 unfold F3
 rw [show decide ((((e.2.2.2.2.1.size : Nat) : Int) : Int) > 64) = true from decide_eq_true (by omega)]
 rfl
theorem text_long (n h : Int) (e : DEv) (hk : e.2.2.2.2.1.size ≤ 64) (ht : ¬ e.2.2.2.2.2.1.length ≤ 100) : F3 n h e = some (r1 true) := by
 unfold F3
 rw [show decide ((((e.2.2.2.2.1.size : Nat) : Int) : Int) > 64) = false from decide_eq_false (by omega), show decide ((((e.2.2.2.2.2.1.length : Nat) : Int) : Int) > 100) = true from decide_eq_true (by omega)]
 rfl
theorem tk00 (e : DEv) (he : SmE e) : F3 0 0 e = some (r1 true) := by
 have h1 : decide ((((e.2.2.2.2.1.size : Nat) : Int) : Int) > 64) = false := decide_eq_false (by have := he.2.2.1; omega)
 have h2 : decide ((((e.2.2.2.2.2.1.length : Nat) : Int) : Int) > 100) = false := decide_eq_false (by have := he.2.2.2; omega)
 unfold F3
 rw [h1, h2]
 refine Eq.trans (b := some (r1 true)) ?_ rfl
 kernel_rfl
theorem tk01 (e : DEv) (he : SmE e) : F3 0 1 e = some (r1 true) := by
 have h1 : decide ((((e.2.2.2.2.1.size : Nat) : Int) : Int) > 64) = false := decide_eq_false (by have := he.2.2.1; omega)
 have h2 : decide ((((e.2.2.2.2.2.1.length : Nat) : Int) : Int) > 100) = false := decide_eq_false (by have := he.2.2.2; omega)
 unfold F3
 rw [h1, h2]
 refine Eq.trans (b := some (r1 true)) ?_ rfl
 kernel_rfl
theorem tk02 (e : DEv) (he : SmE e) : F3 0 2 e = some (r1 true) := by
 have h1 : decide ((((e.2.2.2.2.1.size : Nat) : Int) : Int) > 64) = false := decide_eq_false (by have := he.2.2.1; omega)
 have h2 : decide ((((e.2.2.2.2.2.1.length : Nat) : Int) : Int) > 100) = false := decide_eq_false (by have := he.2.2.2; omega)
 unfold F3
 rw [h1, h2]
 refine Eq.trans (b := some (r1 true)) ?_ rfl
 kernel_rfl
theorem tk03 (e : DEv) (he : SmE e) : F3 0 3 e = some (r1 true) := by
 have h1 : decide ((((e.2.2.2.2.1.size : Nat) : Int) : Int) > 64) = false := decide_eq_false (by have := he.2.2.1; omega)
 have h2 : decide ((((e.2.2.2.2.2.1.length : Nat) : Int) : Int) > 100) = false := decide_eq_false (by have := he.2.2.2; omega)
 unfold F3
 rw [h1, h2]
 refine Eq.trans (b := some (r1 true)) ?_ rfl
 kernel_rfl
theorem tk04 (e : DEv) (he : SmE e) : F3 0 4 e = some (r1 true) := by
 have h1 : decide ((((e.2.2.2.2.1.size : Nat) : Int) : Int) > 64) = false := decide_eq_false (by have := he.2.2.1; omega)
 have h2 : decide ((((e.2.2.2.2.2.1.length : Nat) : Int) : Int) > 100) = false := decide_eq_false (by have := he.2.2.2; omega)
 unfold F3
 rw [h1, h2]
 refine Eq.trans (b := tlE e ev0 st0) ?_ (tl_true e ev0 st0 he sm0 hn0 rs0)
 kernel_rfl
theorem tk10 (e : DEv) (he : SmE e) : F3 1 0 e = some (r1 true) := by
 have h1 : decide ((((e.2.2.2.2.1.size : Nat) : Int) : Int) > 64) = false := decide_eq_false (by have := he.2.2.1; omega)
 have h2 : decide ((((e.2.2.2.2.2.1.length : Nat) : Int) : Int) > 100) = false := decide_eq_false (by have := he.2.2.2; omega)
 unfold F3
 rw [h1, h2]
 refine Eq.trans (b := some (r1 true)) ?_ rfl
 kernel_rfl
theorem tk11 (e : DEv) (he : SmE e) : F3 1 1 e = some (r1 true) := by
 have h1 : decide ((((e.2.2.2.2.1.size : Nat) : Int) : Int) > 64) = false := decide_eq_false (by have := he.2.2.1; omega)
 have h2 : decide ((((e.2.2.2.2.2.1.length : Nat) : Int) : Int) > 100) = false := decide_eq_false (by have := he.2.2.2; omega)
 unfold F3
 rw [h1, h2]
 refine Eq.trans (b := some (r1 true)) ?_ rfl
 kernel_rfl
theorem tk12 (e : DEv) (he : SmE e) : F3 1 2 e = some (r1 true) := by
 have h1 : decide ((((e.2.2.2.2.1.size : Nat) : Int) : Int) > 64) = false := decide_eq_false (by have := he.2.2.1; omega)
 have h2 : decide ((((e.2.2.2.2.2.1.length : Nat) : Int) : Int) > 100) = false := decide_eq_false (by have := he.2.2.2; omega)
 unfold F3
 rw [h1, h2]
 refine Eq.trans (b := some (r1 true)) ?_ rfl
 kernel_rfl
theorem tk13 (e : DEv) (he : SmE e) : F3 1 3 e = some (r1 true) := by
 have h1 : decide ((((e.2.2.2.2.1.size : Nat) : Int) : Int) > 64) = false := decide_eq_false (by have := he.2.2.1; omega)
 have h2 : decide ((((e.2.2.2.2.2.1.length : Nat) : Int) : Int) > 100) = false := decide_eq_false (by have := he.2.2.2; omega)
 unfold F3
 rw [h1, h2]
 refine Eq.trans (b := some (r1 true)) ?_ rfl
 kernel_rfl
theorem tk14 (e : DEv) (he : SmE e) : F3 1 4 e = some (r1 true) := by
 have h1 : decide ((((e.2.2.2.2.1.size : Nat) : Int) : Int) > 64) = false := decide_eq_false (by have := he.2.2.1; omega)
 have h2 : decide ((((e.2.2.2.2.2.1.length : Nat) : Int) : Int) > 100) = false := decide_eq_false (by have := he.2.2.2; omega)
 unfold F3
 rw [h1, h2]
 refine Eq.trans (b := tlE e ev1 st1) ?_ (tl_true e ev1 st1 he sm1 hn1 rs1)
 kernel_rfl
theorem tk20 (e : DEv) (he : SmE e) : F3 2 0 e = some (r1 true) := by
 have h1 : decide ((((e.2.2.2.2.1.size : Nat) : Int) : Int) > 64) = false := decide_eq_false (by have := he.2.2.1; omega)
 have h2 : decide ((((e.2.2.2.2.2.1.length : Nat) : Int) : Int) > 100) = false := decide_eq_false (by have := he.2.2.2; omega)
 unfold F3
 rw [h1, h2]
 refine Eq.trans (b := some (r1 true)) ?_ rfl
 kernel_rfl
theorem tk21 (e : DEv) (he : SmE e) : F3 2 1 e = some (r1 true) := by
 have h1 : decide ((((e.2.2.2.2.1.size : Nat) : Int) : Int) > 64) = false := decide_eq_false (by have := he.2.2.1; omega)
 have h2 : decide ((((e.2.2.2.2.2.1.length : Nat) : Int) : Int) > 100) = false := decide_eq_false (by have := he.2.2.2; omega)
 unfold F3
 rw [h1, h2]
 refine Eq.trans (b := some (r1 true)) ?_ rfl
 kernel_rfl
theorem tk22 (e : DEv) (he : SmE e) : F3 2 2 e = some (r1 true) := by
 have h1 : decide ((((e.2.2.2.2.1.size : Nat) : Int) : Int) > 64) = false := decide_eq_false (by have := he.2.2.1; omega)
 have h2 : decide ((((e.2.2.2.2.2.1.length : Nat) : Int) : Int) > 100) = false := decide_eq_false (by have := he.2.2.2; omega)
 unfold F3
 rw [h1, h2]
 refine Eq.trans (b := some (r1 true)) ?_ rfl
 kernel_rfl
theorem tk23 (e : DEv) (he : SmE e) : F3 2 3 e = some (r1 true) := by
 have h1 : decide ((((e.2.2.2.2.1.size : Nat) : Int) : Int) > 64) = false := decide_eq_false (by have := he.2.2.1; omega)
 have h2 : decide ((((e.2.2.2.2.2.1.length : Nat) : Int) : Int) > 100) = false := decide_eq_false (by have := he.2.2.2; omega)
 unfold F3
 rw [h1, h2]
 refine Eq.trans (b := some (r1 true)) ?_ rfl
 kernel_rfl
theorem tk24 (e : DEv) (he : SmE e) : F3 2 4 e = some (r1 true) := by
 have h1 : decide ((((e.2.2.2.2.1.size : Nat) : Int) : Int) > 64) = false := decide_eq_false (by have := he.2.2.1; omega)
 have h2 : decide ((((e.2.2.2.2.2.1.length : Nat) : Int) : Int) > 100) = false := decide_eq_false (by have := he.2.2.2; omega)
 unfold F3
 rw [h1, h2]
 refine Eq.trans (b := tlE e ev2 st2) ?_ (tl_true e ev2 st2 he sm2 hn2 rs2)
 kernel_rfl
theorem tk30 (e : DEv) (he : SmE e) : F3 3 0 e = some (r1 true) := by
 have h1 : decide ((((e.2.2.2.2.1.size : Nat) : Int) : Int) > 64) = false := decide_eq_false (by have := he.2.2.1; omega)
 have h2 : decide ((((e.2.2.2.2.2.1.length : Nat) : Int) : Int) > 100) = false := decide_eq_false (by have := he.2.2.2; omega)
 unfold F3
 rw [h1, h2]
 refine Eq.trans (b := some (r1 true)) ?_ rfl
 kernel_rfl
theorem tk31 (e : DEv) (he : SmE e) : F3 3 1 e = some (r1 true) := by
 have h1 : decide ((((e.2.2.2.2.1.size : Nat) : Int) : Int) > 64) = false := decide_eq_false (by have := he.2.2.1; omega)
 have h2 : decide ((((e.2.2.2.2.2.1.length : Nat) : Int) : Int) > 100) = false := decide_eq_false (by have := he.2.2.2; omega)
 unfold F3
 rw [h1, h2]
 refine Eq.trans (b := some (r1 true)) ?_ rfl
 kernel_rfl
theorem tk32 (e : DEv) (he : SmE e) : F3 3 2 e = some (r1 true) := by
 have h1 : decide ((((e.2.2.2.2.1.size : Nat) : Int) : Int) > 64) = false := decide_eq_false (by have := he.2.2.1; omega)
 have h2 : decide ((((e.2.2.2.2.2.1.length : Nat) : Int) : Int) > 100) = false := decide_eq_false (by have := he.2.2.2; omega)
 unfold F3
 rw [h1, h2]
 refine Eq.trans (b := some (r1 true)) ?_ rfl
 kernel_rfl
theorem tk33 (e : DEv) (he : SmE e) : F3 3 3 e = some (r1 true) := by
 have h1 : decide ((((e.2.2.2.2.1.size : Nat) : Int) : Int) > 64) = false := decide_eq_false (by have := he.2.2.1; omega)
 have h2 : decide ((((e.2.2.2.2.2.1.length : Nat) : Int) : Int) > 100) = false := decide_eq_false (by have := he.2.2.2; omega)
 unfold F3
 rw [h1, h2]
 refine Eq.trans (b := some (r1 true)) ?_ rfl
 kernel_rfl
theorem tk34 (e : DEv) (he : SmE e) : F3 3 4 e = some (r1 true) := by
 have h1 : decide ((((e.2.2.2.2.1.size : Nat) : Int) : Int) > 64) = false := decide_eq_false (by have := he.2.2.1; omega)
 have h2 : decide ((((e.2.2.2.2.2.1.length : Nat) : Int) : Int) > 100) = false := decide_eq_false (by have := he.2.2.2; omega)
 unfold F3
 rw [h1, h2]
 refine Eq.trans (b := tlE e ev3 st3) ?_ (tl_true e ev3 st3 he sm3 hn3 rs3)
 kernel_rfl
theorem tk40 (e : DEv) (he : SmE e) : F3 4 0 e = some (r1 true) := by
 have h1 : decide ((((e.2.2.2.2.1.size : Nat) : Int) : Int) > 64) = false := decide_eq_false (by have := he.2.2.1; omega)
 have h2 : decide ((((e.2.2.2.2.2.1.length : Nat) : Int) : Int) > 100) = false := decide_eq_false (by have := he.2.2.2; omega)
 unfold F3
 rw [h1, h2]
 refine Eq.trans (b := some (r1 true)) ?_ rfl
 kernel_rfl
theorem tk41 (e : DEv) (he : SmE e) : F3 4 1 e = some (r1 true) := by
 have h1 : decide ((((e.2.2.2.2.1.size : Nat) : Int) : Int) > 64) = false := decide_eq_false (by have := he.2.2.1; omega)
 have h2 : decide ((((e.2.2.2.2.2.1.length : Nat) : Int) : Int) > 100) = false := decide_eq_false (by have := he.2.2.2; omega)
 unfold F3
 rw [h1, h2]
 refine Eq.trans (b := some (r1 true)) ?_ rfl
 kernel_rfl
theorem tk42 (e : DEv) (he : SmE e) : F3 4 2 e = some (r1 true) := by
 have h1 : decide ((((e.2.2.2.2.1.size : Nat) : Int) : Int) > 64) = false := decide_eq_false (by have := he.2.2.1; omega)
 have h2 : decide ((((e.2.2.2.2.2.1.length : Nat) : Int) : Int) > 100) = false := decide_eq_false (by have := he.2.2.2; omega)
 unfold F3
 rw [h1, h2]
 refine Eq.trans (b := some (r1 true)) ?_ rfl
 kernel_rfl
theorem tk43 (e : DEv) (he : SmE e) : F3 4 3 e = some (r1 true) := by
 have h1 : decide ((((e.2.2.2.2.1.size : Nat) : Int) : Int) > 64) = false := decide_eq_false (by have := he.2.2.1; omega)
 have h2 : decide ((((e.2.2.2.2.2.1.length : Nat) : Int) : Int) > 100) = false := decide_eq_false (by have := he.2.2.2; omega)
 unfold F3
 rw [h1, h2]
 refine Eq.trans (b := some (r1 true)) ?_ rfl
 kernel_rfl
theorem tk44 (e : DEv) (he : SmE e) : F3 4 4 e = some (r1 true) := by
 have h1 : decide ((((e.2.2.2.2.1.size : Nat) : Int) : Int) > 64) = false := decide_eq_false (by have := he.2.2.1; omega)
 have h2 : decide ((((e.2.2.2.2.2.1.length : Nat) : Int) : Int) > 100) = false := decide_eq_false (by have := he.2.2.2; omega)
 unfold F3
 rw [h1, h2]
 refine Eq.trans (b := tlE e ev4 st4) ?_ (tl_true e ev4 st4 he sm4 hn4 rs4)
 kernel_rfl
theorem takes_at (n k h j : Int) (e : DEv) (h0 : (IntKind.wrap .i64 n).tmod 5 = (IntKind.wrap .i64 k).tmod 5) (h1 : h.tmod 5 = j.tmod 5) : F3 n h e = F3 k j e := by
 unfold F3
 rw [h0, h1]
theorem takes_pure (n h : Int) (e : DEv) (hn : 0 ≤ n ∧ n < 256) (hh : 0 ≤ h ∧ h < 256) (hs : 0 ≤ e.2.1 ∧ e.2.1 < 18446744073709551616) (ht : 0 ≤ e.2.2.1 ∧ e.2.2.1 < 18446744073709551616) : F3 n h e = some (r1 true) := by
 by_cases c1 : e.2.2.2.2.1.size ≤ 64
 case neg => exact key_long n h e c1
 by_cases c2 : e.2.2.2.2.2.1.length ≤ 100
 case neg => exact text_long n h e c1 c2
 have he : SmE e := ⟨hs, ht, c1, c2⟩
 have w : ∀ x : Int, 0 ≤ x ∧ x < 256 → IntKind.wrap .i64 x = x := fun x hx => by rw [IntKind.wrap_i64]; omega
 have key : ∀ (k j : Int), (F3 k j e = some (r1 true)) → 0 ≤ k ∧ k < 5 ∧ 0 ≤ j ∧ j < 5 → n % 5 = k → h % 5 = j → F3 n h e = some (r1 true) := by
  intro k j hF hkj e1 e2
  obtain ⟨k0, k1, j0, j1⟩ := hkj
  refine (takes_at n k h j e ?_ ?_).trans hF
  ·rw [w n hn, w k ⟨k0, by omega⟩, Int.tmod_eq_emod_of_nonneg hn.1, Int.tmod_eq_emod_of_nonneg k0]; omega
  ·rw [Int.tmod_eq_emod_of_nonneg hh.1, Int.tmod_eq_emod_of_nonneg j0]; omega
 have hk : n % 5 = 0 ∨ n % 5 = 1 ∨ n % 5 = 2 ∨ n % 5 = 3 ∨ n % 5 = 4 := by omega
 have hj : h % 5 = 0 ∨ h % 5 = 1 ∨ h % 5 = 2 ∨ h % 5 = 3 ∨ h % 5 = 4 := by omega
 rcases hk with hk | hk | hk | hk | hk <;> rcases hj with hj | hj | hj | hj | hj
 ·exact key _ _ (tk00 e he) (by omega) hk hj
 ·exact key _ _ (tk01 e he) (by omega) hk hj
 ·exact key _ _ (tk02 e he) (by omega) hk hj
 ·exact key _ _ (tk03 e he) (by omega) hk hj
 ·exact key _ _ (tk04 e he) (by omega) hk hj
 ·exact key _ _ (tk10 e he) (by omega) hk hj
 ·exact key _ _ (tk11 e he) (by omega) hk hj
 ·exact key _ _ (tk12 e he) (by omega) hk hj
 ·exact key _ _ (tk13 e he) (by omega) hk hj
 ·exact key _ _ (tk14 e he) (by omega) hk hj
 ·exact key _ _ (tk20 e he) (by omega) hk hj
 ·exact key _ _ (tk21 e he) (by omega) hk hj
 ·exact key _ _ (tk22 e he) (by omega) hk hj
 ·exact key _ _ (tk23 e he) (by omega) hk hj
 ·exact key _ _ (tk24 e he) (by omega) hk hj
 ·exact key _ _ (tk30 e he) (by omega) hk hj
 ·exact key _ _ (tk31 e he) (by omega) hk hj
 ·exact key _ _ (tk32 e he) (by omega) hk hj
 ·exact key _ _ (tk33 e he) (by omega) hk hj
 ·exact key _ _ (tk34 e he) (by omega) hk hj
 ·exact key _ _ (tk40 e he) (by omega) hk hj
 ·exact key _ _ (tk41 e he) (by omega) hk hj
 ·exact key _ _ (tk42 e he) (by omega) hk hj
 ·exact key _ _ (tk43 e he) (by omega) hk hj
 ·exact key _ _ (tk44 e he) (by omega) hk hj
end Go.IM.V