/- What the code of a law comes to, and what that tells: part 2. Lemmas alone; no conditions. -/
import Derived.Test.YtinknnimmpcddaaImRowE7P1
import Derived.Test.YtinknnimmpcddaaImM2
import Derived.Test.YtinknnimmpcddaaImM1
set_option linter.unusedVariables false
set_option linter.unusedSimpArgs false
set_option linter.constructorNameAsVariable false
namespace Go.IM.V
open Go Go.IM Go.Proofs
theorem nm_ok : F16 bNM = some (r1 true) := by
 rw [F16_eq, show nmd bNM = true from by decide +kernel]
theorem nn_ok : F16 bNN = some (r1 true) := by
 rw [F16_eq, show nmd bNN = true from by decide +kernel]
theorem dnew : F15 65536 = some (((), ()), (((), 65536, (-1), 0, 0, false, ()), ((), ()), ()), ()) := rfl
theorem act0 (n : Int) (h0 : 0 ≤ n) (h : n < 100) : F440 65536 (-1) 0 n false = some ((0, ()), (((), 65536, (-1), 0, n + 1, false, ()), ((), ()), ()), ()) := by
 unfold F440; rw [show ((-1 : Int) == 0) = false from rfl, show decide ((-1 : Int) > 0) = false from rfl, w64 (n := n + 1) (by omega) (by omega)]; rfl
theorem actA (n s : Int) (q : List Int) (h0 : 0 ≤ n) (h : n < 100) : F44a 65536 (-1) 0 n false s q = some ((0, ()), (((), 65536, (-1), 0, n + 1, false, ()), ((), ()), ((), s, ()), ()), (q, ())) := by
 unfold F44a; rw [show ((-1 : Int) == 0) = false from rfl, show decide ((-1 : Int) > 0) = false from rfl, w64 (n := n + 1) (by omega) (by omega)]; rfl
theorem rem0 : F470 65536 (-1) 0 0 false = some ((2, ()), (((), 65536, (-1), 0, 1, false, ()), ((), ()), ()), ()) := by
 unfold F470; rw [act0 0 (by decide) (by decide)]; rfl
theorem appA {p : List Int} (h : p.length ≤ 65536) : F180a p 65536 (-1) 0 1 false = some ((0, ()), (((), 65536, (-1), 0, 2, false, ()), ((), ()), ((), 0, ()), ()), (p, ())) := by
 have e2 : F420 65536 (-1) 0 1 false = some ((65536, 0, ()), (((), 65536, (-1), 0, 1, false, ()), ((), ()), ()), ()) := rfl; have e3 : F430 65536 (-1) 0 1 false = some ((true, ()), (((), 65536, (-1), 0, 1, false, ()), ((), ()), ()), ()) := rfl; have e1 := act0 1 (by decide) (by decide); have e4 : F450a p 65536 (-1) 0 (1 + 1) false = some ((), (((), 65536, (-1), 0, 2, false, ()), ((), ()), ((), 0, ()), ()), (p, ())) := by
  unfold F450a; rw [decide_eq_true (by unfold lim; omega)]; rfl
 unfold F180a; rw [nn_ok]; simp only [Option.bind_some, Bool.not_true, cond_false, e1, e2, e3, bne_self_eq_false]; rw [show IntKind.wrap .i64 (65536 - 0) = 65536 from by decide +kernel, decide_eq_false (by omega)]; simp only [cond_false, e4, Option.bind_some]
theorem syncA {p : List Int} : F23a 65536 (-1) 0 2 false 0 p = some ((0, ()), (((), 65536, (-1), 0, 3, false, ()), ((), ()), ((), ((p.length : Nat) : Int), ()), ()), (p, ())) := by
 unfold F23a; rw [actA 2 0 p (by decide) (by decide)]; rfl
theorem moveA {p : List Int} {s : Int} : F50am 65536 (-1) 0 3 false s p = some ((0, ()), (((), 65536, (-1), 0, 4, false, ()), ((), ()), ((), s, ()), ()), (p, ())) := by
 unfold F50am; rw [nm_ok]; simp only [Option.bind_some, Bool.not_true, cond_false, actA 3 s p (by decide) (by decide), bne_self_eq_false]; rfl
def hdB (t : Int × Int × Int × Unit) : List Int := [97, 110, 97, 49] ++ [t.1] ++ dg t.2.1 ++ dg t.2.2.1
structure TOK (t : Int × Int × Int × Unit) : Prop where
 k0 : 0 ≤ t.1
 k1 : t.1 < 256
 a0 : 0 ≤ t.2.1
 a1 : t.2.1 < 18446744073709551616
 b0 : 0 ≤ t.2.2.1
 b1 : t.2.2.1 < 18446744073709551616
theorem hdB_len (t : Int × Int × Int × Unit) : (hdB t).length ≤ 25 := by
 have := dg_len t.2.1; have := dg_len t.2.2.1
 unfold hdB; simp only [List.length_append, List.length_cons, List.length_nil]; omega
theorem hdB_byte {t : Int × Int × Int × Unit} (h : TOK t) : Bys (hdB t) := by
 refine ((Bys.app ?_ ?_).app (dg_byte h.a0 h.a1)).app (dg_byte h.b0 h.b1)
 ·intro x hx; simp only [List.mem_cons, List.not_mem_nil, or_false] at hx; rcases hx with rfl | rfl | rfl | rfl <;> decide
 ·intro x hx; simp only [List.mem_cons, List.not_mem_nil, or_false] at hx; subst hx; exact ⟨h.k0, h.k1⟩
theorem F48_eq {t : Int × Int × Int × Unit} (h : TOK t) : F48 t = some (ro (rcd (hdB t))) := by
 have h1 := dg_len t.2.1; unfold F48; rw [decide_eq_true (by decide), F51_eq _ _ h.a0 h.a1 (lt_lim (by simp))]; simp only [Option.bind_some, cond_true]; rw [F51_eq _ _ h.b0 h.b1 (lt_lim (by simp only [List.length_append, List.length_cons, List.length_nil]; omega))]
 simp only [Option.bind_some]; have := F49_eq (hdB t) (hdB_byte h) (by have := hdB_len t; omega)
 unfold hdB at this ⊢; rw [this]; rfl
theorem rcd_le (p : List Int) : (rcd p).length ≤ p.length + 14 := by rw [rcd_len]; have := dg_len p.length; omega
theorem L200_one {x q : List Int} (hx : Bys x) (hl : x.length ≤ 2000) (hq : q.length ≤ 2000) : L200m_7 [x] ((([x].length : Nat)) : Int) 0 q = some (.inr (((), ()), (), (q ++ rcd x, ()))) := by
 have hr := rcd_le x; have e1 : L200m_7 [x] ((([x].length : Nat)) : Int) 1 (q ++ rcd x) = some (.inr (((), ()), (), (q ++ rcd x, ()))) := by
  rw [L200m_7_eq]; unfold T200m_7; rw [decide_eq_false (by simp)]; rfl
 rw [L200m_7_eq]; unfold T200m_7; rw [decide_eq_true (show (0 : Int) < (([x].length : Nat) : Int) by simp), decide_eq_true (show 0 ≤ (0 : Int) ∧ (0 : Int) < (([x].length : Nat) : Int) by simp)]; have e0 : [x].getD (0 : Int).toNat [] = x := rfl; rw [e0, decide_eq_false (by omega), F49_eq x hx (by omega)]; simp only [cond_true, cond_false, Option.bind_some]; rw [decide_eq_true (lt_lim (by omega)), show IntKind.wrap .i64 (0 + 1) = 1 from by decide +kernel]
 simp only [cond_true, Option.bind_some, Sum.elim_inl]; exact e1
theorem swap_eq {t : Int × Int × Int × Unit} (h : TOK t) {x : List Int} (hx : Bys x) (hl : x.length ≤ 1000) :
  F200m t [x] 65536 (-1) 0 0 false = some ((0, ()), (((), 65536, (-1), 0, 4, false, ()), ((), ()), ((), (((rcd (hdB t) ++ rcd x).length : Nat) : Int), ()), ()), (rcd (hdB t) ++ rcd x, ())) := by
 have h1 := rcd_le (hdB t); have h2 := rcd_le x; have h3 := hdB_len t; unfold F200m; rw [rem0]; simp only [Option.bind_some, show ((2 : Int) != 0) = true from rfl, cond_true, bne_self_eq_false, cond_false]; have eh : F48 (t.1, (t.2.1, (t.2.2.1, ()))) = some (ro (rcd (hdB t))) := F48_eq h; rw [eh]; simp only [Option.bind_some]; rw [L200_one hx (by omega) (by omega)]; simp only [Option.bind_some, Sum.elim_inr]
 rw [appA (p := rcd (hdB t) ++ rcd x) (by rw [List.length_append]; omega)]
 simp only [Option.bind_some, bne_self_eq_false, cond_false]; rw [syncA]; simp only [Option.bind_some, bne_self_eq_false, cond_false]; rw [moveA]; rfl
end Go.IM.V
namespace Go.IM.V
open Go Go.IM Go.Proofs
abbrev tag4 : List Int := [97, 110, 97, 49]
theorem L93_ok : ∀ (d k : Nat) (r : List Int), k + d = 4 → L93_4 tag4 4 (k : Nat) 0 0 0 0 (tag4.drop k ++ r) = some (.inr (.inr ((), ((0, 0, 0, ()), (0, ()), (r, ()), ()), ()))) := by
 intro d; induction d with
 | zero =>
  intro k r h; obtain rfl : k = 4 := by omega
  rw [L93_4_eq]; unfold T93_4; rw [decide_eq_false (by omega)]; rfl
 | succ d ih =>
  intro k r h; have hk : k < tag4.length := by show k < 4; omega
  rw [L93_4_eq]; unfold T93_4; rw [decide_eq_true (show ((k : Nat) : Int) < 4 by omega), decide_eq_true (show 0 ≤ ((k : Nat) : Int) ∧ ((k : Nat) : Int) < ((tag4.length : Nat) : Int) by omega), List.drop_eq_getElem_cons hk, F73_eq]; have hg : tag4.getD (((k : Nat) : Int)).toNat (0 : Int) = tag4[k] := by rw [Int.toNat_natCast, List.getD_eq_getElem?_getD, List.getElem?_eq_getElem hk]; rfl
  simp only [List.cons_append, cond_true, Option.bind_some, Sum.elim_inl, hg, bne_self_eq_false, cond_false]; rw [w64 (n := ((k : Nat) : Int) + 1) (by omega) (by omega)]; have := ih (k + 1) r (by omega)
  exact this
abbrev M64 : Int := 18446744073709551615
theorem F93_hd {t : Int × Int × Int × Unit} (h : TOK t) : F93 (hdB t) = some ((t, (0, ())), (), ()) := by
 unfold F93 F57; simp only [Option.bind_some]; rw [decide_eq_true (by decide)]; simp only [cond_true]; have hL := L93_ok 4 0 ([t.1] ++ (dg t.2.1 ++ dg t.2.2.1)) rfl; have e : hdB t = tag4.drop 0 ++ ([t.1] ++ (dg t.2.1 ++ dg t.2.2.1)) := by unfold hdB; simp only [List.append_assoc, List.drop_zero]
 rw [e]; rw [show ((([97, 110, 97, 49]).length : Nat) : Int) = 4 from rfl]; have hL' : L93_4 [97, 110, 97, 49] 4 0 0 0 0 0 (tag4.drop 0 ++ ([t.1] ++ (dg t.2.1 ++ dg t.2.2.1))) = _ := hL
 rw [hL']; have e1 : tnum M64 (dg t.2.1 ++ dg t.2.2.1) = .inl (t.2.1, dg t.2.2.1) := tnum_app h.a0 h.a1 (by have := h.a1; show t.2.1 ≤ 18446744073709551615; omega) _
 have e2 : tnum M64 (dg t.2.2.1) = .inl (t.2.2.1, []) := by
  have := tnum_app (most := M64) h.b0 h.b1 (by have := h.b1; show t.2.2.1 ≤ 18446744073709551615; omega) []
  rwa [List.append_nil] at this
 simp only [Option.bind_some, Sum.elim_inr, F73_eq, List.cons_append, List.nil_append, Sum.elim_inl]; rw [F58_eq M64 _ ((dg_byte h.a0 h.a1).app (dg_byte h.b0 h.b1)), e1]; simp only [Option.bind_some, Sum.elim_inl]; rw [F58_eq M64 _ (dg_byte h.b0 h.b1), e2]; simp only [Option.bind_some, Sum.elim_inl, F61_eq]
abbrev MO : Int := 2097152
theorem F94_one {x : List Int} (hx : Bys x) (hl : x.length ≤ 1000) : F94 (rcd x) MO = some (([x], ((((rcd x).length : Nat) : Int), (0, ()))), (), ()) := by
 have hr := rcd_le x; have h5 := rcd_len x; have e1 : L94_3 (rcd x) MO [] [x] = some (.inr (((), ()), (), ([x], ()))) := by
  rw [L94_3_eq]; unfold T94_3; rw [decide_eq_false (by simp)]; rfl
 have e2 : L94_3 (rcd x) MO (rcd x) [] = some (.inr (((), ()), (), ([x], ()))) := by
  rw [L94_3_eq]; unfold T94_3; have ho : opn MO (rcd x) = .inl (x, []) := by
   have := opn_app (t := x) (rest := []) (most := MO) (by show (x.length : Int) ≤ 2097152; omega) (by omega)
   rwa [List.append_nil] at this
  rw [decide_eq_true (by omega), F37_eq _ MO (rcd_byte hx (by omega)) (lt_lim (by omega)) (by decide), ho]; simp only [Option.bind_some, cond_true, bne_self_eq_false, cond_false]; rw [decide_eq_true (lt_lim (by simp))]; simp only [cond_true, Option.bind_some, Sum.elim_inl, List.nil_append]; exact e1
 unfold F94; rw [e2]; rfl
theorem F78_hd {t : Int × Int × Int × Unit} (h : TOK t) {x : List Int} (hx : Bys x) (hl : x.length ≤ 1000) : ∃ n, F78 (rcd (hdB t) ++ rcd x) = some (((t, ([x], (n, (0, ())))), (0, ())), (), ()) := by
 have h1 := rcd_le (hdB t); have h2 := rcd_le x; have h3 := hdB_len t; unfold F78; rw [show (2097152 : Int) = MO from rfl, F37_eq _ MO ((rcd_byte (hdB_byte h) (by omega)).app (rcd_byte hx (by omega))) (lt_lim (by rw [List.length_append]; omega)) (by decide),
  opn_app (by show ((hdB t).length : Int) ≤ 2097152; omega) (by omega)]
 simp only [Option.bind_some, bne_self_eq_false, cond_false]; rw [F93_hd h]; simp only [Option.bind_some, bne_self_eq_false, cond_false]; rw [F94_one hx hl]; exact ⟨_, rfl⟩
end Go.IM.V
namespace Go.IM.V
open Go Go.IM Go.Proofs
theorem clone_all {q : List Int} (hq : q.length ≤ 100000) : F92 q = some ((q, ()), (), ()) := by
 unfold F92; refine nilBr_of ?_ (fun h => ?_)
 ·rw [decide_eq_true (lt_lim (by simp; omega))]; rfl
 ·rw [List.eq_nil_of_length_eq_zero h]
theorem read_n {r fu to ac s : Int} {q : List Int} (hq : q.length ≤ 100000) : F77n r fu to ac false q s = some ((q, (0, ())), (((), r, fu, to, ac, false, ()), ((), ()), (q, s, ()), ()), ()) := by
 unfold F77n F43n; simp only [Option.bind_some, Bool.not_false, Bool.not_true, cond_false, clone_all hq]
end Go.IM.V
set_option linter.unusedSectionVars false
namespace Go.IM
open Go Go.RowKit
variable {P : Program} [Orc P]
def Ev.All (P : Program) [Orc P] (c : Code) (a : Act) (m : M) (S : Out → Act → M → Prop) : Prop :=
 ∀ (B : Nat) (w0 : World) (ρ : Ren) (w : World) (a' : Act) (Q : Exit → Act → World → Prop), Inv P B w0 ρ m w → Wf m → ActRel ρ a a' → (∀ e a1 m1, S e a1 m1 → Wf m1 → Meets P B w0 ρ e a1 m1 Q) → c.wp P Q a' w
def Ev.AllR (P : Program) [Orc P] (b : Code) (n : Nat) (a : Act) (m : M) (S : Out → Act → M → Prop) : Prop :=
 ∀ (B : Nat) (w0 : World) (ρ : Ren) (w : World) (a' : Act) (Q : Exit → Act → World → Prop), Inv P B w0 ρ m w → Wf m → ActRel ρ a a' → (∀ e a1 m1, S e a1 m1 → Wf m1 → Meets P B w0 ρ e a1 m1 Q) → Code.rounds P b Q n a' w
def Ops.All (P : Program) [Orc P] (ops : Array Oper) (l : List Nat) (a : Act) (m : M) (S : Out → Act → M → Prop) : Prop :=
 ∀ (B : Nat) (w0 : World) (ρ : Ren) (w : World) (a' : Act) (Q : Exit → Act → World → Prop), Inv P B w0 ρ m w → Wf m → ActRel ρ a a' → (∀ e a1 m1, S e a1 m1 → Wf m1 → Meets P B w0 ρ e a1 m1 Q) → wpOps P ops Q l a' w
def Cal.All (P : Program) [Orc P] (f : FuncId) (args : Array Value) (m : M) (S : COut → M → Prop) : Prop :=
 ∀ (B : Nat) (w0 : World) (ρ : Ren) (w : World) (args' : Array Value), Inv P B w0 ρ m w → Wf m → VsRel ρ args args' →
  Calls P f args' w fun e w' => ∃ out m1, S out m1 ∧ Wf m1 ∧ ∃ ρ', ρ.le ρ' ∧ Inv P B w0 ρ' m1 w' ∧ EndRel ρ' out e
variable {a a1 : Act} {m m1 : M} {e : Out} {c x y : Code} {id : Nat} {S S1 : Out → Act → M → Prop}
theorem All.to (h : Ev.To P c a m e a1 m1) (hS : S e a1 m1) : Ev.All P c a m S := by
 intro B w0 ρ w a' Q hI hW hA hQ; obtain ⟨n, h⟩ := h; have h := h n (Nat.le_refl _); exact (E_sound n).1 ρ m w c a a' e a1 m1 Q hI hW hA h (hQ e a1 m1 hS ((E_good n _ _ _ _ _ _ h).1.wf hW))
theorem CalAll.to {f : FuncId} {args : Array Value} {out : COut} {T : COut → M → Prop} (h : Cal P f args m out m1) (hT : T out m1) : Cal.All P f args m T := by
 intro B w0 ρ w args' hI hW hA; obtain ⟨n, h⟩ := h; have h := h n (Nat.le_refl _); refine (callE_sound n ρ m w f args args' out m1 hI hW hA h).mono ?_
 rintro e w' ⟨ρ', h1, h2, h3⟩
 exact ⟨out, m1, hT, ((callF_good (E_good n)) _ _ _ _ _ h).1.wf hW, ρ', h1, h2, h3⟩
theorem All.seq (h : Ev.All P x a m S1) (hn : ∀ a1 m1, S1 .normal a1 m1 → Ev.All P y a1 m1 S) (ho : ∀ e a1 m1, e ≠ .normal → S1 e a1 m1 → S e a1 m1) : Ev.All P (.seq x y) a m S := by
 intro B w0 ρ w a' Q hI hW hA hQ; refine wp_seq (h B w0 ρ w a' _ hI hW hA fun e a1 m1 hS hW1 ρ' x' a1' w' hle hI' hA' hx => ?_); cases hx with
 | normal => exact hn a1 m1 hS B w0 ρ' w' a1' Q hI' hW1 hA' fun e2 a2 m2 h2 hW2 => (hQ e2 a2 m2 h2 hW2).mono hle
 | exit id => exact hQ _ a1 m1 (ho _ a1 m1 (fun q => by cases q) hS) hW1 ρ' _ a1' w' hle hI' hA' (.exit id)
 | ret => exact hQ _ a1 m1 (ho _ a1 m1 (fun q => by cases q) hS) hW1 ρ' _ a1' w' hle hI' hA' .ret
 | pnc hv => exact hQ _ a1 m1 (ho _ a1 m1 (fun q => by cases q) hS) hW1 ρ' _ a1' w' hle hI' hA' (.pnc hv)
theorem All.cond {o : Operand} {b : Bool} (hok : okOperand o = true) (hb : a.eval o = .bool b) (h : Ev.All P (if b then x else y) a m S) : Ev.All P (.cond o x y) a m S := by
 intro B w0 ρ w a' Q hI hW hA hQ; have hv := hA.eval hok; rw [hb] at hv; have hb' : a'.eval o = .bool b := by generalize a'.eval o = q at hv; cases hv; rfl
 exact wp_cond hb' (h B w0 ρ w a' Q hI hW hA hQ)
theorem All.block (h : Ev.All P x a m S1) (hi : ∀ a1 m1, S1 (.exit id) a1 m1 → S .normal a1 m1) (ho : ∀ e a1 m1, e ≠ .exit id → S1 e a1 m1 → S e a1 m1) : Ev.All P (.block id x) a m S := by
 intro B w0 ρ w a' Q hI hW hA hQ; refine wp_block (h B w0 ρ w a' _ hI hW hA fun e a1 m1 hS hW1 ρ' x' a1' w' hle hI' hA' hx => ?_); cases hx with
 | normal => exact hQ _ a1 m1 (ho _ a1 m1 (fun q => by cases q) hS) hW1 ρ' _ a1' w' hle hI' hA' .normal
 | exit id' =>
  simp only [Exit.inBlock]; by_cases hid : id' = id
  ·subst hid; rw [if_pos rfl]; exact hQ _ a1 m1 (hi a1 m1 hS) hW1 ρ' _ a1' w' hle hI' hA' .normal
  ·rw [if_neg hid]; exact hQ _ a1 m1 (ho _ a1 m1 (fun q => hid (by cases q; rfl)) hS) hW1 ρ' _ a1' w' hle hI' hA' (.exit id')
 | ret => exact hQ _ a1 m1 (ho _ a1 m1 (fun q => by cases q) hS) hW1 ρ' _ a1' w' hle hI' hA' .ret
 | pnc hv => exact hQ _ a1 m1 (ho _ a1 m1 (fun q => by cases q) hS) hW1 ρ' _ a1' w' hle hI' hA' (.pnc hv)
theorem All.round {n : Nat} (h : Ev.All P x a m S1) (hn : ∀ a1 m1, S1 .normal a1 m1 → Ev.AllR P x n a1 m1 S) (ho : ∀ e a1 m1, e ≠ .normal → S1 e a1 m1 → S e a1 m1) : Ev.AllR P x (n + 1) a m S := by
 intro B w0 ρ w a' Q hI hW hA hQ; rw [rounds_succ]; refine h B w0 ρ w a' _ hI hW hA fun e a1 m1 hS hW1 ρ' x' a1' w' hle hI' hA' hx => ?_
 cases hx with
 | normal => exact hn a1 m1 hS B w0 ρ' w' a1' Q hI' hW1 hA' fun e2 a2 m2 h2 hW2 => (hQ e2 a2 m2 h2 hW2).mono hle
 | exit id => exact hQ _ a1 m1 (ho _ a1 m1 (fun q => by cases q) hS) hW1 ρ' _ a1' w' hle hI' hA' (.exit id)
 | ret => exact hQ _ a1 m1 (ho _ a1 m1 (fun q => by cases q) hS) hW1 ρ' _ a1' w' hle hI' hA' .ret
 | pnc hv => exact hQ _ a1 m1 (ho _ a1 m1 (fun q => by cases q) hS) hW1 ρ' _ a1' w' hle hI' hA' (.pnc hv)
theorem All.loop {n : Nat} (h : Ev.AllR P x n a m S) : Ev.All P (.loop x) a m S := fun B w0 ρ w a' Q hI hW hA hQ => wp_loop_rounds n (h B w0 ρ w a' Q hI hW hA hQ)
theorem All.region {ops : Array Oper} {l : List Nat} (hl : List.range ops.size = l) (h : Ops.All P ops l a m S) : Ev.All P (.region id ops false) a m S := fun B w0 ρ w a' Q hI hW hA hQ => wp_region (by rw [hl]; exact h B w0 ρ w a' Q hI hW hA hQ)
section ops
variable {ops : Array Oper} {l : List Nat} {i : Nat} {o : Oper} {v : Value}
theorem AllO.nil (h : S .normal a m) : Ops.All P ops [] a m S := fun B w0 ρ w a' Q hI hW hA hQ => hQ _ _ _ h hW ρ _ a' w (Ren.le_refl _) hI hA .normal
theorem AllO.step (ho : ops[i]? = some o) (hw : Region.wanted o (yielded ops a.tmps) = true) (hok : okOp o = true) {r : Res} (hi : iop P a.eval o m = some r)
  (hr : match r with
   | .val v m1 => Ops.All P ops l (a.put o.dst v) m1 S
   | .skip m1 => Ops.All P ops l (a.put o.dst undef) m1 S
   | .dfr d m1 => Ops.All P ops l (({ a with defers := d :: a.defers } : Act).put o.dst undef) m1 S
   | .call f args m1 => Cal.All P f args m1 fun out m2 => match out with
    | .ret v => Ops.All P ops l (a.put o.dst v) m2 S
    | .pnc v => S (.pnc v) a m2
   | .pnc v m1 => S (.pnc v) a m1) : Ops.All P ops (i :: l) a m S := by
 intro B w0 ρ w a' Q hI hW hA hQ; simp only [wpOps, ho]; rw [yielded_rel hA, if_pos hw]; left; have hev : ∀ x ∈ o.op.operands, VRel ρ (a.eval x) (a'.eval x) := by
  intro x hx; unfold okOp at hok; rw [Array.all_eq_true'] at hok; exact hA.eval (hok x hx)
 have hs := iop_sound hI hev hi; have hW1 : Wf r.mem := (iop_good (k := 0) (b := ⟨.cells #[] 0, 0, false, false, false⟩) hi).1.wf hW; unfold Oper.wp; cases r with
 | val v m2 =>
  obtain ⟨v', w', ρ', h1, h2, h3, h4⟩ := hs; rw [h1, Oper.upon_value]; exact hr B w0 ρ' w' _ Q h3 hW1 ((hA.mono h2).put _ h4) fun e a1 m1 hS hW2 => (hQ e a1 m1 hS hW2).mono h2
 | skip m2 =>
  obtain ⟨w', ρ', h1, h2, h3⟩ := hs; rw [h1, Oper.upon_skip]; exact hr B w0 ρ' w' _ Q h3 hW1 ((hA.mono h2).put _ (VRel.undef _)) fun e a1 m1 hS hW2 => (hQ e a1 m1 hS hW2).mono h2
 | dfr d m2 =>
  obtain ⟨d', h1, h3, h4⟩ := hs; rw [h1, Oper.upon_defer]; exact hr B w0 ρ w _ Q h3 hW1 (ActRel.put (a := { a with defers := d :: a.defers }) (a' := { a' with defers := d' :: a'.defers }) ⟨hA.1, h4, hA.2⟩ _ (VRel.undef _)) hQ
 | call f args m2 =>
  obtain ⟨args', h1, h3, h4⟩ := hs; rw [h1, Oper.upon_enter]; refine (hr B w0 ρ w args' h3 hW1 h4).mono ?_
  rintro en w' ⟨out, m3, hS, hW3, ρ', k1, k2, k3⟩
  cases k3 with
  | ret hv => exact hS B w0 ρ' w' _ Q k2 hW3 ((hA.mono k1).put _ hv) fun e a1 m1 hS' hW2 => (hQ e a1 m1 hS' hW2).mono k1
  | pnc hv => exact hQ _ _ _ hS hW3 ρ' _ a' w' k1 k2 (hA.mono k1) (.pnc hv)
 | pnc v m2 =>
  obtain ⟨v', h1, h3, h4⟩ := hs; rw [h1, Oper.upon_panic]; exact hQ _ _ _ hr hW1 ρ _ a' w (Ren.le_refl _) h3 hA (.pnc h4)
theorem AllO.unwanted (ho : ops[i]? = some o) (hw : Region.wanted o (yielded ops a.tmps) = false) (h : Ops.All P ops l (a.put o.dst undef) m S) : Ops.All P ops (i :: l) a m S := by
 intro B w0 ρ w a' Q hI hW hA hQ; simp only [wpOps, ho]; rw [yielded_rel hA, if_neg (by rw [hw]; decide)]
 exact h B w0 ρ w _ Q hI hW (hA.put _ (VRel.undef _)) hQ
def nextOne (m : M) (i j since : Nat) (seen : Array Nat) (clock : Nat) : Option MapEntry → Option (Value × M)
 | some e => (m.putObj i (.mapIter (some j) since (seen.push e.born) clock)).map fun m1 => (.tuple #[.bool true, e.key, e.val], m1)
 | none => some (.tuple #[.bool false], m)
theorem choose_run (P : Program) (n : Nat) (hn : 0 < n) (w : World) : ∃ k w1, k < n ∧ (choose (.mapNext n)).run P w = .ok k w1 ∧ (w1 = w ∨ w1 = { w with drawn := w.drawn + 1 }) := by
 by_cases h : n ≤ 1
 ·exact ⟨0, w, hn, by simp [choose, Sem.run, Question.forced, h], .inl rfl⟩
 ·exact ⟨w.tape w.drawn (.mapNext n) % n, _, Nat.mod_lt _ hn, by simp [choose, Sem.run, Question.forced, h, Question.cut], .inr rfl⟩
def ORel (ρ : Ren) : Option MapEntry → Option MapEntry → Prop
 | none, none => True
 | some x, some y => VRel ρ x.key y.key ∧ VRel ρ x.val y.val ∧ x.born = y.born
 | _, _ => False
theorem OEnts.get {ρ : Ren} : ∀ {l l' : List (Option MapEntry)}, OEnts ρ l l' → l.length = l'.length ∧ ∀ (k : Nat) (c' : Option MapEntry), l'[k]? = some c' → ∃ c, l[k]? = some c ∧ ORel ρ c c' := by
 intro l; induction l with
 | nil => intro l' h; cases l' with
  | nil => exact ⟨rfl, fun k c' hk => by simp at hk⟩
  | cons => exact h.elim
 | cons x l ih =>
  intro l' h; cases l' with
  | nil => cases x <;> exact h.elim
  | cons y l' =>
   have key : ORel ρ x y ∧ OEnts ρ l l' := by
    cases x <;> cases y <;> first | exact ⟨trivial, h⟩ | exact h.elim | exact ⟨h.1, h.2⟩
   obtain ⟨h1, h2⟩ := ih key.2; refine ⟨by simp [h1], fun k c' hk => ?_⟩; cases k with
   | zero => simp at hk; subst hk; exact ⟨x, rfl, key.1⟩
   | succ k => exact h2 k c' (by simpa using hk)
theorem next_any {B : Nat} {w0 w : World} {ρ : Ren} (h : Inv P B w0 ρ m w) {it' : Value} {i j since last clock : Nat} {seen : Array Nat} {es : Array MapEntry} {b : Blk} (hx : VRel ρ (.pointer (some ⟨i, 0, none⟩)) it') (hb : m.alive i = some b)
  (ho : b.obj = .mapIter (some j) since seen last) (hmo : m.mapOf j = some (es, clock)) (hbad : (!seen.isEmpty && !es.isEmpty && es.all (·.born ≥ last)) = false)
  (hall : ∀ c ∈ (candOf es since seen).toList, ∃ r, nextOne m i j since seen clock c = some r) (t : TypeId) :
  ∃ c ∈ (candOf es since seen).toList, ∃ v m1, nextOne m i j since seen clock c = some (v, m1) ∧ ∃ v' w', (Instr.next it' false t).run P w = .ok v' w' ∧ Inv P B w0 ρ m1 w' ∧ VRel ρ v v' := by
 obtain ⟨r, hr, hh⟩ := h.re hb; have hov : VRel ρ (.tuple #[.bool false]) (.tuple #[.bool false]) := by
  have := VsRel.one (VRel.bool (ρ := ρ) false)
  exact .tuple this.1 this.2
 have hth : ∀ {a c a' c' : Value}, VRel ρ a a' → VRel ρ c c' → VRel ρ (.tuple #[.bool true, a, c]) (.tuple #[.bool true, a', c']) := by
  intro a c a' c' ha hc; have := ((VsRel.one (VRel.bool (ρ := ρ) true)).append (VsRel.one ha)).append (VsRel.one hc)
  exact .tuple this.1 this.2
 cases hx with
 | ptr _ hi =>
  rw [hr] at hi; cases hi; have hB := holdsB h hb hr (by rw [ho]; intro c e fr; simp)
  unfold Holds at hh; rw [ho] at hh; obtain ⟨_, _, hb0, rm, hrm, hq⟩ := hh; obtain ⟨rm', es', k1, k2, k3⟩ := mapOf_sound h hmo; rw [hrm] at k1; cases k1; have hbad' : ¬ ((!seen.isEmpty && !es'.isEmpty && es'.all (fun x => decide (x.born ≥ last))) = true) := by
   rw [← k3.empty, ← k3.all (fun b => decide (b ≥ last)), hbad]; decide
  obtain ⟨hlen, hget⟩ := (cand_rel k3 since seen).get; have hpos : 0 < (candOf es' since seen).size := by
   unfold candOf; by_cases hq0 : ((es'.filter fun e => !seen.contains e.born).filter (·.born < since)).isEmpty
   ·rw [if_pos hq0]; simp; omega
   ·rw [if_neg hq0]; have : 0 < ((es'.filter fun e => !seen.contains e.born).filter (·.born < since)).size := by
     rcases Nat.eq_zero_or_pos ((es'.filter fun e => !seen.contains e.born).filter (·.born < since)).size with q | q
     ·exact absurd (by simpa [Array.isEmpty] using q) hq0
     ·exact q
    rw [Array.size_append, Array.size_map, Array.size_append]; omega
  obtain ⟨k, w1, hk, hch, hw1⟩ := choose_run P _ hpos w; have hI1 : Inv P B w0 ρ m w1 := by
   rcases hw1 with rfl | rfl
   ·exact h
   ·exact h.drew
  have hheap : w1.heap = w.heap := by rcases hw1 with rfl | rfl <;> rfl
  have hck : (candOf es' since seen).toList[k]? = some (candOf es' since seen)[k] := by rw [Array.getElem?_toList, Array.getElem?_eq_getElem hk]
  obtain ⟨c, hc1, hc2⟩ := hget k _ hck; have hmem : c ∈ (candOf es since seen).toList := List.mem_of_getElem? hc1; obtain ⟨⟨v, m1⟩, hone⟩ := hall c hmem; refine ⟨c, hmem, v, m1, hone, ?_⟩; have hrun : (Instr.next (.pointer (some ⟨r.g, r.base + 0, none⟩)) false t).run P w =
    (match (candOf es' since seen)[k] with
     | some e => ((setObj r.g (.mapIter (some rm.g) since (seen.push e.born) clock)).run P w1).andThen fun _ w' => .ok (.tuple #[.bool true, e.key, e.val]) w'
     | none => .ok (.tuple #[.bool false]) w1) := by
   have hgk : (candOf es' since seen)[k]? = some (candOf es' since seen)[k] := Array.getElem?_eq_getElem hk; generalize (candOf es' since seen)[k] = ck at hgk; unfold candOf at hgk hch; unfold Instr.next; rw [hb0]; simp only [Nat.zero_add, Nat.add_zero, Sem.run_bind, Sem.run_pure]; have e1 : (getObj r.g).run P w = .ok (.mapIter (some rm.g) since seen last) w := by simp [getObj, Sem.run, hq]
   rw [e1]; simp only [Result.andThen_ok, MapKept.run_getObj_map k2, Sem.run_bind]; rw [if_neg hbad']; simp only [Sem.run_bind, hch, Result.andThen_ok, hgk]; cases ck with
   | none => simp
   | some e => simp
  cases hcc : (candOf es' since seen)[k] with
  | none =>
   rw [hcc] at hc2 hrun; cases c with
   | some x => exact hc2.elim
   | none =>
    cases hone; exact ⟨_, w1, hrun, hI1, hov⟩
  | some e' =>
   rw [hcc] at hc2 hrun; cases c with
   | none => exact hc2.elim
   | some e =>
    obtain ⟨g1, g2, g3⟩ := hc2; unfold nextOne at hone; simp only [Option.map_eq_some_iff, Prod.mk.injEq] at hone; obtain ⟨m2, hp, rfl, rfl⟩ := hone; have hq1 : w1.heap[r.g]? = some (.mapIter (some rm.g) since seen last) := by rw [hheap]; exact hq
    refine ⟨.tuple #[.bool true, e'.key, e'.val], { w1 with heap := w1.heap.setIfInBounds r.g (.mapIter (some rm.g) since (seen.push e'.born) clock) }, ?_, ?_, hth g1 g2⟩
    ·rw [hrun]; simp [setObj, Sem.run, hq1]
    ·refine putObj_sound hI1 hp hr hB hq1 fun b' hb' => ?_
     unfold Holds; rw [← g3]; exact ⟨hb', hB, hb0, rm, hrm, (MapKept.heap_set hq1).1⟩
theorem AllO.next (ho : ops[i]? = some o) (hw : Region.wanted o (yielded ops a.tmps) = true) (hok : okOp o = true) {it : Operand} (hop : o.op = .next it false) {q j since last clock : Nat} {seen : Array Nat} {es : Array MapEntry} {b : Blk}
  (hit : a.eval it = .pointer (some ⟨q, 0, none⟩)) (hb : m.alive q = some b) (hob : b.obj = .mapIter (some j) since seen last) (hmo : m.mapOf j = some (es, clock)) (hbad : (!seen.isEmpty && !es.isEmpty && es.all (·.born ≥ last)) = false)
  (h : ∀ c ∈ (candOf es since seen).toList, ∃ v m1, nextOne m q j since seen clock c = some (v, m1) ∧ (Wf m → Wf m1) ∧ Ops.All P ops l (a.put o.dst v) m1 S) : Ops.All P ops (i :: l) a m S := by
 intro B w0 ρ w a' Q hI hW hA hQ; simp only [wpOps, ho]; rw [yielded_rel hA, if_pos hw]; left; have hv : VRel ρ (a.eval it) (a'.eval it) := by
  unfold okOp at hok; rw [Array.all_eq_true'] at hok; exact hA.eval (hok it (by rw [hop]; simp [Op.operands]))
 rw [hit] at hv; obtain ⟨c, hc, v, m1, hone, v', w', h1, h2, h3⟩ := next_any hI hv hb hob hmo hbad (fun c hc => by obtain ⟨v, m1, g, _⟩ := h c hc; exact ⟨_, g⟩) o.type
 obtain ⟨v2, m2, g1, g2, g3⟩ := h c hc; rw [hone] at g1; cases g1; unfold Oper.wp; have hx : (execOp a'.eval o).run P w = .ok (.value v') w' := by simp [execOp, hop, h1]
 rw [hx, Oper.upon_value]; exact g3 B w0 ρ w' _ Q h2 (g2 hW) (hA.put _ h3) hQ
end ops
theorem CalAll.body {f : FuncId} {fn : Func} {args : Array Value} {T : COut → M → Prop} (hf : P.funcs[f]? = some fn) (hb : fn.body = some c) (hg : Ev.All P c (frame fn args) m S)
  (hS : ∀ e a1 m1, S e a1 m1 → (e = .normal ∨ e = .ret) ∧ a1.defers = [] ∧ ∃ v, iresults P fn a1.tmps m1 = some v ∧ T (.ret v) m1) : Cal.All P f args m T := by
 intro B w0 ρ w args' hI hW hA; refine calls_of_wp_defers hf hb ?_; refine hg B w0 ρ w _ _ hI hW (frame_rel fn hA) fun e a1 m1 h1 hW1 ρ' x a1' w' hle hI' hA' hx => ?_
 obtain ⟨h2, h3, v, h4, h5⟩ := hS e a1 m1 h1; have hdn : DefsRel ρ' [] a1'.defers := by rw [← h3]; exact hA'.2
 have hlv : leave P (E P 0) fn a1.tmps [] .ret m1 = some (.ret v, m1) := by simp only [leave, h4]; rfl
 rcases h2 with rfl | rfl
 ·cases hx; exact leave_sound (E_sound 0).1 (E_good 0) [] a1'.defers hI' hW1 hA'.1 hdn .ret hlv fun ρ2 e w2 k1 k2 k3 => ⟨_, m1, h5, hW1, ρ2, Ren.le_trans hle k1, k2, k3⟩
 ·cases hx; exact leave_sound (E_sound 0).1 (E_good 0) [] a1'.defers hI' hW1 hA'.1 hdn .ret hlv fun ρ2 e w2 k1 k2 k3 => ⟨_, m1, h5, hW1, ρ2, Ren.le_trans hle k1, k2, k3⟩
end Go.IM
namespace Go.IM
open Go Go.RowKit
variable {P : Program} [Orc P] {a : Act} {m : M} {c : Code}
theorem All.mono {S T : Out → Act → M → Prop} (h : Ev.All P c a m S) (hs : ∀ e a1 m1, S e a1 m1 → T e a1 m1) : Ev.All P c a m T :=
 fun B w0 ρ w a' Q hI hW hA hQ => h B w0 ρ w a' Q hI hW hA fun e a1 m1 q => hQ e a1 m1 (hs e a1 m1 q)
theorem AllR.mono {S T : Out → Act → M → Prop} {n : Nat} (h : Ev.AllR P c n a m S) (hs : ∀ e a1 m1, S e a1 m1 → T e a1 m1) : Ev.AllR P c n a m T :=
 fun B w0 ρ w a' Q hI hW hA hQ => h B w0 ρ w a' Q hI hW hA fun e a1 m1 q => hQ e a1 m1 (hs e a1 m1 q)
theorem AllO.mono {S T : Out → Act → M → Prop} {ops : Array Oper} {l : List Nat} (h : Ops.All P ops l a m S) (hs : ∀ e a1 m1, S e a1 m1 → T e a1 m1) : Ops.All P ops l a m T :=
 fun B w0 ρ w a' Q hI hW hA hQ => h B w0 ρ w a' Q hI hW hA fun e a1 m1 q => hQ e a1 m1 (hs e a1 m1 q)
theorem CalAll.mono {f : FuncId} {args : Array Value} {S T : COut → M → Prop} (h : Cal.All P f args m S) (hs : ∀ o m1, S o m1 → T o m1) : Cal.All P f args m T :=
 fun B w0 ρ w args' hI hW hA => (h B w0 ρ w args' hI hW hA).mono fun e w' ⟨o, m1, q, r⟩ => ⟨o, m1, hs o m1 q, r⟩
end Go.IM
namespace Go.IM.V
open Go Go.IM
variable {P : Program} {m m1 : M} {S0 : Nat → Prop} {env env1 : Env} {a : Act} {vs : VS} {X Y : Cx} {ρ : Type} {C CA LO : Tab}
noncomputable def altAll (K : Sl → VS → Option ρ) : List (Sl × VS) → Option ρ
 | [] => none
 | [p] => K p.1 p.2
 | p :: l => both (K p.1 p.2) (altAll K l)
theorem altAll_some {K : Sl → VS → Option ρ} {r : ρ} : ∀ {l : List (Sl × VS)}, altAll K l = some r → ∀ p ∈ l, K p.1 p.2 = some r := by
 intro l; induction l with
 | nil => intro h; cases h
 | cons p l ih =>
  intro h q hq; cases l with
  | nil =>
   simp only [List.mem_cons, List.not_mem_nil, or_false] at hq; subst hq; exact h
  | cons p2 l =>
   have h' : both (K p.1 p.2) (altAll K (p2 :: l)) = some r := h
   unfold both at h'; split at h'
   ·rename_i he; rcases List.mem_cons.1 hq with rfl | hq
    ·exact h'
    ·exact ih (he.symm.trans h') q hq
   ·cases h'
def overS : Sl := .t [.s (.c (.bool false))]
def hitS (b : ByteArray × Nat × Nat) : Sl := .t [.s (.c (.bool true)), .s (.c (.string b.1)), .s (.p b.2.2 0)]
def nextsL (i jm since : Nat) (seen : List Nat) (c : Nat) (vs : VS) (l : List (ByteArray × Nat × Nat)) : List (Sl × VS) :=
 (match oldK since (newK seen l) with
  | [] => [(overS, vs)]
  | _ => []) ++ (oldK since (newK seen l) ++ lateK since (newK seen l)).map fun b => (hitS b, { vs with bx := setL vs.bx i [.mi jm since (seen ++ [b.2.1]) c] })
def nextsV (vs : VS) (o : Oper) : Option (List (Sl × VS)) :=
 match o.op with
 | .next it false => match vs.ev it with
  | .v (.s (.p i 0)) => match vs.bx[i]? with
   | some [.mi jm since seen last] => match mxAt vs jm with
    | some (c, l) => bif !seen.isEmpty && !l.isEmpty && l.all (fun a => decide (a.2.1 ≥ last)) then none else some (nextsL i jm since seen c vs l)
    | none => none
   | _ => none
  | _ => none
 | _ => none
def callA (CA : Tab) (P : Program) (vs : VS) (o : Oper) : Option (Nat × List S1) :=
 match o.op with
 | .call ⟨.value f, args, _⟩ => match fnOf (vs.ev f) with
  | some k => bif okFn P k && !(lookCs CA k).isEmpty then some (k, argsL vs args.toList) else none
  | none => none
 | _ => none
noncomputable def vopsA (P : Program) (C CA : Tab) (ops : Array Oper) : List Nat → VS → (VS → Option ρ) → Option ρ
 | [], vs, K => K vs
 | i :: rest, vs, K => match ops[i]? with
  | none => none
  | some o => bif okOp o then
    vguard vs ops o (fun vs => match nextsV vs o with
     | some alts => altAll (fun x vs1 => bif vs1.fits o.dst then vopsA P C CA ops rest (vs1.put o.dst x) K else none) alts
     | none => match callA CA P vs o with
      | some (k, args) => vcallL false args vs (fun x vs1 => bif vs1.fits o.dst then vopsA P C CA ops rest (vs1.put o.dst x) K else none) (fun _ _ => none) (lookCs CA k)
      | none => vop P C false vs o (fun x vs1 => splitK (splitO C o) x fun x => bif vs1.fits o.dst then vopsA P C CA ops rest (vs1.put o.dst x) K else none) (fun _ _ => none))
     (fun vs => bif vs.fits o.dst then vopsA P C CA ops rest (vs.put o.dst undefS) K else none)
   else none
noncomputable def vrunA (P : Program) (C CA LO : Tab) : Nat → Code → VS → (Out → VS → Option ρ) → Option ρ
 | 0, _, _, _ => none
 | n + 1, c, vs, K =>
  match c with
  | .region id ops false => vopsA P C CA ops (List.range ops.size) vs (K .normal)
  | .seq x y => vrunA P C CA LO n x vs fun o vs1 => match o with
   | .normal => vrunA P C CA LO n y vs1 K
   | o => K o vs1
  | .cond c x y => if okOperand c then match vs.ev c with
   | .v (.s (.c (.bool b))) => cond b (vrunA P C CA LO n x (vs.setO c true) K) (vrunA P C CA LO n y (vs.setO c false) K)
   | _ => none
   else none
  | .block id b => vrunA P C CA LO n b vs fun o vs1 => match o with
   | .exit id' => bif Nat.beq id' id then K .normal vs1 else K (.exit id') vs1
   | o => K o vs1
  | .loop b => match lookC LO (headReg b) with
   | some con => vrun P C LO (n + 1) (.loop b) vs K
   | none => bif unrollOf C b then vrunA P C CA [] n b vs fun o vs1 => match o with
     | .normal => vrunA P C CA LO n (.loop b) vs1 K
     | o => K o vs1
    else none
  | c => vrun P C LO (n + 1) c vs K
noncomputable def vleafA (P : Program) (fn : Func) (n : Nat) (o : OT) (out : Out) (vs : VS) : Option o.E :=
 match out with
 | .normal | .ret => match vs.df with
  | [] => vleafE P fn n o .ret vs
  | _ => none
 | _ => none
noncomputable def vfnA (P : Program) (C CA LO : Tab) (fn : Func) (c : Code) (ins : Tm) (o : OT) (x : ins.E) : Option o.E :=
 vrunA P C CA LO 100 c (ins.inst fn.ntmps x) (vleafA P fn ins.bx.length o)
def Con.OKA (P : Program) [Orc P] (k : FuncId) (con : Con) : Prop :=
 ∀ x y, con.F x = some y → ∀ (S0 : Nat → Prop) (env : Env) (m : M) (args : Array Value), RelT P (con.ins.cx x S0 env m) (con.ins.inst 0 x).bx → Bars (con.ins.cx x S0 env m) → repSlots P (con.ins.cx x S0 env m) (fun i => args.getD i undef) (slI id id con.ins.sl x.1) → args.size = con.ins.sl.length →
  Cal.All P k args m fun c m1 => ∃ env1, Ended P (con.ins.cx x S0 env m) S0 env1 m1 (con.out.out y).2.1 (con.out.out y).2.2 ∧
   EndsC P ((con.out.out y).2.1.cx (con.out.out y).2.2 S0 env1 m1) (con.out.out y).1 (slI id id (con.out.out y).2.1.sl (con.out.out y).2.2.1) c
theorem Con.OK.any [Orc P] {k : FuncId} {con : Con} (h : Con.OK P k con) : Con.OKA P k con := by
 intro x y hy S0 env m args h1 h2 h3 h4; obtain ⟨c, m1, env1, k1, k2, k3⟩ := h x y hy S0 env m args h1 h2 h3 h4; exact CalAll.to k1 ⟨env1, k2, k3⟩
theorem Con.OKA.congr [Orc P] {k : FuncId} {ins : Tm} {out : OT} {F G : ins.E → Option out.E} (h : Con.OKA P k ⟨ins, out, F⟩) (hG : ∀ x, G x = F x) : Con.OKA P k ⟨ins, out, G⟩ := by
 have : G = F := funext hG
 rw [this]; exact h
def TabOKA (P : Program) [Orc P] : Tab → Prop
 | [] => True
 | (k, c) :: l => c.OKA P k ∧ TabOKA P l
theorem TabOKA.gets [Orc P] : ∀ {C : Tab}, TabOKA P C → ∀ {k : Nat}, ∀ c ∈ lookCs C k, c.OKA P k := by
 intro C; induction C with
 | nil => intro _ k c hc; cases hc
 | cons p C ih =>
  intro h k c hc; obtain ⟨k', c'⟩ := p; simp only [lookCs] at hc; cases hb : Nat.beq k' k with
  | true =>
   rw [hb] at hc; have := Nat.eq_of_beq_eq_true hb
   subst this; rcases List.mem_cons.1 hc with rfl | hc
   ·exact h.1
   ·exact ih h.2 c hc
  | false => rw [hb] at hc; exact ih h.2 c hc
theorem vcallL_any [Orc P] {k : Nat} {cs : List Con} (hC : ∀ c ∈ cs, Con.OKA P k c) (h : Rel P S0 env m a vs) (hbar : Bars (vs.cx S0 env m)) {args : List S1} {ws : List Value} (hw : repSs P (vs.cx S0 env m) args ws) {K : Sl → VS → Option ρ} {Kp : Value → VS → Option ρ} {r : ρ} (hv : vcallL false args vs K Kp cs = some r) :
  Cal.All P k ws.toArray m fun c m1 => ∃ env1 vs1, Rel P S0 env1 m1 a vs1 ∧ Stp (vs.cx S0 env m) (vs1.cx S0 env1 m1) ∧ ((∃ v x, c = .ret v ∧ repV P (vs1.cx S0 env1 m1) x v ∧ K x vs1 = some r) ∨ ∃ w, c = .pnc w ∧ Kp w vs1 = some r) := by
 induction cs with
 | nil => cases hv
 | cons con cs ihc =>
  have hok := hC con (List.mem_cons_self ..); simp only [vcallL] at hv; generalize hp : prep con.ins.sl con.ins.bf args vs = pp at hv; obtain ⟨l, vs1⟩ := pp; dsimp only at hv; obtain ⟨env', h1, hs1, hl⟩ := prep_sound h hw hp; split at hv
  ·rename_i x q hm; obtain ⟨g1, g2, g3, g4, g5, g6, g7, g8, g9, g10⟩ := mat_sound (X := vs1.cx S0 env' m) h1.T rfl rfl (av := fun i => ws.toArray.getD i undef) (fun p _ => accS_rep hl p.1) hm (p := q.g ≠ []) (fun w => w) (S0 := vs1.S S0 env') (fun i w => w) 0; obtain ⟨f1, f2, f3, f4⟩ := mat_facts (p := q.g ≠ []) (S0 := S0) (env := env') (m := m) (vs := vs1) (x := undef) g3 g7 g5; cases hemp : Nat.beq con.ins.sl.length args.length with
   | false => rw [hemp] at hv; cases hv
   | true =>
   rw [hemp] at hv; simp only [Bool.not_true, cond_false] at hv; have hnil : ws.toArray.size = con.ins.sl.length := by
    have h1 := repSs_len hw; have h2 := Nat.eq_of_beq_eq_true hemp; show ws.length = _; omega
   simp only [Bool.false_and, cond_false, Option.bind_eq_some_iff] at hv; obtain ⟨y, hy, hv⟩ := hv; have hbars : Bars (con.ins.cx x (vs1.S S0 env') (env'.sub q (q.g ≠ [])) m) := by
    intro i w; rcases f4 i w with ⟨k', j, h3, hh3, h4⟩ | ⟨_, h3⟩
    ·exact (hs1.bars h.T.bar hbar) i (.inl ⟨j, (g8 k' j h3).1, show hasOf vs1.bx j = true by rw [← (g8 k' j h3).2.1]; exact hh3, h4⟩)
    ·exact (hs1.bars h.T.bar hbar) i (.inr h3)
   refine CalAll.mono (hok x y hy (vs1.S S0 env') (env'.sub q (q.g ≠ [])) m ws.toArray g1 hbars g2 hnil) ?_
   rintro c m1 ⟨env2, hend, hret⟩
   obtain ⟨r1, r2, r3⟩ := merge (env1 := env2) h1.T (fun k j hk => (g8 k j hk).1) f3 g9 (Xc := con.ins.cx x (vs1.S S0 env') (env'.sub q (q.g ≠ [])) m) rfl f1 rfl (fun k j hk => (g8 k j hk).2.1) (fun k j hk => (g8 k j hk).2.2) f2 hend; have hR := h1.step r2 r1 rfl rfl rfl; refine ⟨_, _, hR, hs1.trans h.T.free r2, ?_⟩; rcases vends_some hv with ⟨e1, e2⟩ | ⟨w, e1, e2⟩
   ·rw [e1] at hret; obtain ⟨v, rfl, hret⟩ := hret; exact .inl ⟨v, _, rfl, resSl_ren r3 hret, e2⟩
   ·rw [e1] at hret; exact .inr ⟨w, hret, e2⟩
  ·exact ihc (fun c hc => hC c (List.mem_cons_of_mem _ hc)) hv
theorem ents_mem : ∀ {l : List (ByteArray × Nat × Nat)} {es : List MapEntry}, entsOK P X l es → ∀ {e : MapEntry}, e ∈ es → ∃ b ∈ l, e.key = .string b.1 ∧ e.born = b.2.1 ∧ repC P X (.p b.2.2 0) e.val := by
 intro l; induction l with
 | nil => intro es h e he; rw [ents_nil h] at he; cases he
 | cons b l ih =>
  intro es h e he; cases es with
  | nil => exact h.elim
  | cons x es =>
   rcases List.mem_cons.1 he with rfl | he
   ·exact ⟨b, List.mem_cons_self .., h.1⟩
   ·obtain ⟨b', h1, h2⟩ := ih h.2 he; exact ⟨b', List.mem_cons_of_mem _ h1, h2⟩
theorem nextsV_any [Orc P] (h : Rel P S0 env m a vs) (hbar : Bars (vs.cx S0 env m)) {o : Oper} {alts : List (Sl × VS)} (hn : nextsV vs o = some alts) {ops : Array Oper} {l : List Nat} {i : Nat} {S : Out → Act → M → Prop} (ho : ops[i]? = some o) (hw : Region.wanted o (yielded ops a.tmps) = true) (hok : okOp o = true)
  (hrest : ∀ p ∈ alts, ∀ v m1, Rel P S0 env m1 a p.2 → Stp (vs.cx S0 env m) (p.2.cx S0 env m1) → repV P (p.2.cx S0 env m1) p.1 v → Ops.All P ops l (a.put o.dst v) m1 S) : Ops.All P ops (i :: l) a m S := by
 unfold nextsV at hn; split at hn
 ·rename_i it hop; split at hn
  ·rename_i i0 hev; split at hn
   ·rename_i jm since seen last hi; split at hn
    ·rename_i c l0 hj; cases hg : (!seen.isEmpty && !l0.isEmpty && l0.all (fun a => decide (a.2.1 ≥ last))) with
     | true => rw [hg] at hn; cases hn
     | false =>
     rw [hg] at hn; simp only [cond_false, Option.some.injEq] at hn; subst hn; have hr := ev_rep h it; rw [hev] at hr; obtain ⟨_, b0, hb0, _, hb1⟩ := hr; have hbe : b0 = env.β i0 := hb1 (by show hasOf vs.bx i0 = true; rw [hasOf_get hi]; rfl)
     subst hbe; obtain ⟨u0, k, ib, u1, u2, u3, u4, u5, u6, u7⟩ := h.T.bx i0 _ hi; have hbxj : vs.bx[jm]? = some [.mx c l0] := by
      unfold mxAt at hj; split at hj
      ·rename_i c' l' hq; cases hj; exact hq
      ·cases hj
     have hib : ib = env.β jm := u7 (by show hasOf vs.bx jm = true; rw [hasOf_get hbxj]; rfl)
     subst hib; obtain ⟨_, _, kb, es, g1, g2, g3, g4, g5, g6, g7⟩ := mx_alive (w := .map (some (env.β jm))) h hj ⟨u0, _, rfl, u6, fun _ => rfl⟩; have u1' : m.alive (env.β i0) = some k := u1
     have hb : m.bar ≤ env.β i0 := hbar _ (.inl ⟨i0, lt_of_get hi, by show hasOf vs.bx i0 = true; rw [hasOf_get hi]; rfl, rfl⟩)
     obtain ⟨e1, e2⟩ := ents_all (fun b => decide (b ≥ last)) g6; have hemp : es.isEmpty = l0.isEmpty := by rw [← e2]; cases es with | mk q => cases q <;> rfl
     have hall : es.all (fun x => decide (x.born ≥ last)) = l0.all (fun a => decide (a.2.1 ≥ last)) := by rw [← e1, Array.all_toList]
     have hsee : seen.toArray.isEmpty = seen.isEmpty := by cases seen <;> rfl
     have hA := ents_filter (fun b => decide (b < since)) (ents_filter (fun b => !seen.contains b) g6); have hB := ents_filter (fun b => decide (b ≥ since)) (ents_filter (fun b => !seen.contains b) g6); refine AllO.next ho hw hok hop hb0 u1' u2 g7 (by rw [hsee, hemp, hall]; exact hg) fun cc hcc => ?_
     rw [cand_list] at hcc; rcases List.mem_append.1 hcc with hcc | hcc
     ·split at hcc
      ·rename_i hemp2; simp only [List.mem_cons, List.not_mem_nil, or_false] at hcc; subst hcc; have ho1 : oldK since (newK seen l0) = [] := by
        have h1 := (ents_all (fun _ => true) hA).2; rw [hemp2] at h1; unfold oldK newK; exact List.isEmpty_iff.1 h1.symm
       refine ⟨_, m, rfl, fun q => q, hrest (overS, vs) ?_ _ m h (Stp.refl h.T.free) ⟨_, rfl, ⟨rfl, rfl⟩, trivial⟩⟩; unfold nextsL; rw [ho1]; exact List.mem_append_left _ (List.mem_cons_self ..)
      ·cases hcc
     ·obtain ⟨e, he, rfl⟩ := List.mem_map.1 hcc; have hex : ∃ b ∈ oldK since (newK seen l0) ++ lateK since (newK seen l0), e.key = .string b.1 ∧ e.born = b.2.1 ∧ repC P (vs.cx S0 env m) (.p b.2.2 0) e.val := by
       rcases List.mem_append.1 he with he | he
       ·obtain ⟨b, h1, h2⟩ := ents_mem hA he; exact ⟨b, List.mem_append_left _ h1, h2⟩
       ·obtain ⟨b, h1, h2⟩ := ents_mem hB he; exact ⟨b, List.mem_append_right _ h1, h2⟩
      obtain ⟨b, hbm, w3, w4, w5⟩ := hex; have hp := putObj_set (o := .mapIter (some (env.β jm)) since (seen.toArray.push e.born) c) u1' u3 u4 u5 hb; obtain ⟨k1, k2⟩ := h.setObj (ns := [.mi jm since (seen ++ [b.2.1]) c]) hi rfl rfl rfl u1 u5 (o := .mapIter (some (env.β jm)) since (seen.toArray.push e.born) c) (by rw [u2]; rfl) (fun m' hle hal => by
       refine ⟨Nat.lt_of_lt_of_le u0 hle.nb, _, env.β jm, hal, ?_, u3, u4, u5, Nat.lt_of_lt_of_le u6 hle.nxt, fun _ => rfl⟩; rw [w4]; simp)
      refine ⟨.tuple #[.bool true, e.key, e.val], _, by show Option.map _ (m.putObj (env.β i0) (.mapIter (some (env.β jm)) since (seen.toArray.push e.born) c)) = _; rw [hp]; rfl, fun q => (putObj_good (k := 0) (b := k) hp).1.wf q, hrest (hitS b, { vs with bx := setL vs.bx i0 [.mi jm since (seen ++ [b.2.1]) c] }) ?_ _ _ k1 k2 ?_⟩
      ·unfold nextsL; exact List.mem_append_right _ (List.mem_map.2 ⟨b, hbm, rfl⟩)
      ·exact ⟨_, rfl, ⟨rfl, rfl⟩, ⟨w3, rfl⟩, w5.le k2.le, trivial⟩
    ·cases hn
   ·cases hn
  ·cases hn
 ·cases hn
def EndA (P : Program) (S0 : Nat → Prop) (env : Env) (m : M) (vs : VS) (n : Nat) (K : Out → VS → Prop) (e : Out) (a1 : Act) (m1 : M) : Prop :=
 ∃ env1 vs1, Rel P S0 env1 m1 a1 vs1 ∧ Stp (vs.cx S0 env m) (vs1.cx S0 env1 m1) ∧ a1.tmps.size = n ∧ K e vs1
theorem EndA.step {vs' : VS} {n : Nat} {K : Out → VS → Prop} {e : Out} {a1 : Act} {m2 : M} (hf : Free m) (hs : Stp (vs.cx S0 env m) (vs'.cx S0 env1 m1)) (h : EndA P S0 env1 m1 vs' n K e a1 m2) : EndA P S0 env m vs n K e a1 m2 := by
 obtain ⟨env2, vs2, h1, h2, h3, h4⟩ := h; exact ⟨env2, vs2, h1, hs.trans hf h2, h3, h4⟩
theorem vopsA_any [Orc P] (hC : TabOK P C) (hCA : TabOKA P CA) {ops : Array Oper} {K : VS → Option ρ} {r : ρ} : ∀ (l : List Nat) {env : Env} {m : M} {a : Act} {vs : VS}, vopsA P C CA ops l vs K = some r → Rel P S0 env m a vs → Bars (vs.cx S0 env m) →
  Ops.All P ops l a m (EndA P S0 env m vs a.tmps.size fun e vs1 => e = .normal ∧ K vs1 = some r) := by
 intro l; induction l with
 | nil => intro env m a vs hv h hb; exact AllO.nil ⟨env, vs, h, Stp.refl h.T.free, rfl, rfl, hv⟩
 | cons i rest ih =>
  intro env m a vs hv h hb; simp only [vopsA] at hv; split at hv
  ·cases hv
  ·rename_i o ho; obtain ⟨hok, hv⟩ := cond_some hv; obtain ⟨vs', h', hsame, hv⟩ := vguard_sound h hv; have hcx' := hsame.cx S0 env m
   have hconv : ∀ {n : Nat} {K : Out → VS → Prop} {e a1 m1}, EndA P S0 env m vs' n K e a1 m1 → EndA P S0 env m vs n K e a1 m1 := by
    rintro n K e a1 m1 ⟨env2, vs2, h1, h2, h3, h4⟩
    rw [hcx'] at h2; exact ⟨env2, vs2, h1, h2, h3, h4⟩
   refine AllO.mono ?_ fun e a1 m1 => hconv
   rw [← hcx'] at hb; clear hconv hsame hcx' h; have h := h'; have next : ∀ {env1 : Env} {m1 : M} {vs1 : VS} {x : Sl} {v : Value}, Rel P S0 env1 m1 a vs1 → Stp (vs'.cx S0 env m) (vs1.cx S0 env1 m1) → repV P (vs1.cx S0 env1 m1) x v →
     (bif vs1.fits o.dst then vopsA P C CA ops rest (vs1.put o.dst x) K else none) = some r → Ops.All P ops rest (a.put o.dst v) m1 (EndA P S0 env m vs' a.tmps.size fun e vs1 => e = .normal ∧ K vs1 = some r) := by
    intro env1 m1 vs1 x v h2 h3 h4 h5; obtain ⟨hfit1, h5⟩ := cond_some h5; have h6 := h2.put hfit1 h4; have hcx : (vs1.put o.dst x).cx S0 env1 m1 = vs1.cx S0 env1 m1 := by cases o.dst <;> rfl
    have hb1 := h3.bars h.T.bar hb; refine AllO.mono (ih h5 h6 (by rw [hcx]; exact hb1)) fun e a1 m2 hE => ?_
    rw [put_size] at hE; exact EndA.step h.T.free (by rw [hcx]; exact h3) hE
   rcases hv with ⟨hw, hv⟩ | ⟨hw, hv⟩
   ·split at hv
    ·rename_i alts hal; exact nextsV_any h hb hal ho hw hok fun p hp v m1 h2 h3 h4 => next h2 h3 h4 (altAll_some hv p hp)
    ·split at hv
     ·rename_i k args hcall; unfold callA at hcall; split at hcall
      ·rename_i f cargs ats hop; split at hcall
       ·rename_i k' hk; obtain ⟨hcc, hcall⟩ := cond_some hcall; cases hcall; simp only [Bool.and_eq_true] at hcc; have hf := fnOf_eq hk (ev_rep h f); have hi : iop P a.eval o m = some (.call k (cargs.toList.map a.eval).toArray m) := by
         unfold iop; rw [hop]; dsimp only; unfold icall; dsimp only; rw [hf]; dsimp only; have := hcc.1
         unfold okFn at this; cases hfn : P.funcs[k]? with
         | none => rw [hfn] at this; cases this
         | some fn =>
          rw [hfn] at this; dsimp only at this ⊢; rw [if_pos this]; simp [List.map_toArray]
          apply Array.ext'; simp
        refine AllO.step ho hw hok hi (CalAll.mono (vcallL_any hCA.gets h hb (argsL_rep h cargs.toList) hv) ?_)
        rintro c m1 ⟨env1, vs1, h2, h3, ⟨v, x, rfl, h4, h5⟩ | ⟨w, rfl, h5⟩⟩
        ·exact next h2 h3 h4 h5
        ·cases h5
       ·cases hcall
      ·cases hcall
     ·rcases vop_sound hC h (low := false) (fun _ => hb) hv with ⟨v, m1, env1, x, vs1, h1, h2, h3, h4, h5, _⟩ | ⟨d, k, l, h1, h2, h3, _, h5⟩ | ⟨w, m1, env1, vs1, h1, h2, h3, h5⟩
      ·have h5 := splitK_some h5; rcases h1 with h7 | ⟨h7, rfl⟩ | ⟨f, args, m0, h7, h8⟩
       ·exact AllO.step ho hw hok h7 (next h2 h3 h4 h5)
       ·exact AllO.step ho hw hok h7 (next h2 h3 h4 h5)
       ·exact AllO.step ho hw hok h7 (CalAll.to h8 (next h2 h3 h4 h5))
      ·obtain ⟨hfit1, h5⟩ := cond_some (splitK_some h5); have h6 : Rel P S0 env m { a with defers := d :: a.defers } { vs' with df := (k, l) :: vs'.df } := ⟨h.T, h.size, h.sl, h2, h3, h.df⟩; have h7 := h6.put (d := o.dst) (x := undefS) (v := undef) hfit1 undefS_rep; have hcx : (({ vs' with df := (k, l) :: vs'.df } : VS).put o.dst undefS).cx S0 env m = vs'.cx S0 env m := by cases o.dst <;> rfl
       refine AllO.step ho hw hok h1 (AllO.mono (ih h5 h7 (by rw [hcx]; exact hb)) fun e a1 m2 hE => ?_)
       rw [put_size] at hE; exact EndA.step h.T.free (by rw [hcx]; exact Stp.refl h.T.free) hE
      ·cases h5
   ·obtain ⟨hfit, hv⟩ := cond_some hv; have h6 := h.put hfit undefS_rep; have hcx : (vs'.put o.dst undefS).cx S0 env m = vs'.cx S0 env m := by cases o.dst <;> rfl
    refine AllO.unwanted ho hw (AllO.mono (ih hv h6 (by rw [hcx]; exact hb)) fun e a1 m2 hE => ?_)
    rw [put_size] at hE; exact EndA.step h.T.free (by rw [hcx]; exact Stp.refl h.T.free) hE
theorem vrunA_any [Orc P] (hC : TabOK P C) (hCA : TabOKA P CA) {N : Nat} : ∀ (n : Nat) {LO : Tab} {c : Code} (hL : ∀ b ∈ loopsOf c, ∀ con, lookC LO (headReg b) = some con → con.LOK P N b) {K : Out → VS → Option ρ} {r : ρ} {env : Env} {m : M} {a : Act} {vs : VS},
  vrunA P C CA LO n c vs K = some r → Rel P S0 env m a vs → Bars (vs.cx S0 env m) → N ≤ a.tmps.size →
  Ev.All P c a m (EndA P S0 env m vs a.tmps.size fun e vs1 => K e vs1 = some r) ∧
   ∀ b, c = .loop b → lookC LO (headReg b) = none → Ev.AllR P b n a m (EndA P S0 env m vs a.tmps.size fun e vs1 => K e vs1 = some r) := by
 intro n; induction n with
 | zero => intro LO c hL K r env m a vs hv; cases hv
 | succ n ih =>
  intro LO c hL K r env m a vs hv h hb hN; obtain ⟨tm, ds⟩ := a; have plain : vrun P C LO (n + 1) c vs K = some r → Ev.All P c ⟨tm, ds⟩ m (EndA P S0 env m vs tm.size fun e vs1 => K e vs1 = some r) := by
   intro hv; obtain ⟨e, tm1, ds1, m1, env1, vs1, g1, g2, g3, g4, g5⟩ := vrun_sound hC [] (n + 1) hL hv h hb hN; rw [List.append_nil, List.append_nil] at g1; exact All.to g1 ⟨env1, vs1, g2, g3, g4, g5⟩
  cases c with
  | skip => exact ⟨plain hv, fun b q => by cases q⟩
  | label => exact ⟨plain hv, fun b q => by cases q⟩
  | exit id => exact ⟨plain hv, fun b q => by cases q⟩
  | ret => exact ⟨plain hv, fun b q => by cases q⟩
  | region id ops draw =>
   refine ⟨?_, fun b q => by cases q⟩; cases draw with
   | true => exact plain hv
   | false =>
    simp only [vrunA] at hv; refine All.region rfl (AllO.mono (vopsA_any hC hCA _ hv h hb) ?_)
    rintro e a1 m1 ⟨env1, vs1, g1, g2, g3, rfl, g5⟩
    exact ⟨env1, vs1, g1, g2, g3, g5⟩
  | seq x y =>
   refine ⟨?_, fun b q => by cases q⟩; simp only [vrunA] at hv; refine All.seq (ih (fun b hb => hL b (List.mem_append_left _ hb)) hv h hb hN).1 ?_ ?_
   ·rintro a1 m1 ⟨env1, vs1, g2, g3, g4, g5⟩
    refine All.mono (ih (fun b hb => hL b (List.mem_append_right _ hb)) g5 g2 (g3.bars h.T.bar hb) (by rw [g4]; exact hN)).1 fun e a2 m2 hE => ?_
    rw [g4] at hE; exact EndA.step h.T.free g3 hE
   ·rintro e a1 m1 he ⟨env1, vs1, g2, g3, g4, g5⟩
    refine ⟨env1, vs1, g2, g3, g4, ?_⟩; cases e <;> first | exact absurd rfl he | exact g5
  | cond c x y =>
   refine ⟨?_, fun b q => by cases q⟩; simp only [vrunA] at hv; split at hv
   ·rename_i hok; split at hv
    ·rename_i b hcv; have hrc := ev_rep h c; rw [hcv] at hrc; have hev : (⟨tm, ds⟩ : Act).eval c = .bool b := hrc.1; have hset : Rel P S0 env m ⟨tm, ds⟩ (vs.setO c b) ∧ (vs.setO c b).cx S0 env m = vs.cx S0 env m := by
      cases c with
      | tmp t => exact ⟨h.setB hcv, rfl⟩
      | _ => exact ⟨h, rfl⟩
     obtain ⟨hset, hcxs⟩ := hset; refine All.cond hok hev ?_; cases b with
     | true =>
      refine All.mono (ih (fun b hb => hL b (List.mem_append_left _ hb)) hv hset (by rw [hcxs]; exact hb) hN).1 fun e a1 m1 hE => EndA.step h.T.free (by rw [hcxs]; exact Stp.refl h.T.free) hE
     | false =>
      refine All.mono (ih (fun b hb => hL b (List.mem_append_right _ hb)) hv hset (by rw [hcxs]; exact hb) hN).1 fun e a1 m1 hE => EndA.step h.T.free (by rw [hcxs]; exact Stp.refl h.T.free) hE
    ·cases hv
   ·cases hv
  | block id b =>
   refine ⟨?_, fun b q => by cases q⟩; simp only [vrunA] at hv; refine All.block (ih (c := b) hL hv h hb hN).1 ?_ ?_
   ·rintro a1 m1 ⟨env1, vs1, g2, g3, g4, g5⟩
    dsimp only at g5; rw [Nat.beq_refl] at g5; exact ⟨env1, vs1, g2, g3, g4, g5⟩
   ·rintro e a1 m1 he ⟨env1, vs1, g2, g3, g4, g5⟩
    refine ⟨env1, vs1, g2, g3, g4, ?_⟩; cases e with
    | exit id' =>
     dsimp only at g5; cases hq : Nat.beq id' id with
     | true => exact absurd (by rw [Nat.eq_of_beq_eq_true hq]) he
     | false => rw [hq] at g5; exact g5
    | _ => exact g5
  | loop b =>
   simp only [vrunA] at hv; cases hlo : lookC LO (headReg b) with
   | some con =>
    rw [hlo] at hv; exact ⟨plain hv, fun b' q hq => by cases q; rw [hlo] at hq; cases hq⟩
   | none =>
    rw [hlo] at hv; cases hu : unrollOf C b with
    | false => rw [hu] at hv; cases hv
    | true =>
     rw [hu] at hv; simp only [cond_true] at hv; have hR : Ev.AllR P b (n + 1) ⟨tm, ds⟩ m (EndA P S0 env m vs tm.size fun e vs1 => K e vs1 = some r) := by
      refine All.round (ih (LO := []) (c := b) (fun _ _ _ q => by cases q) hv h hb hN).1 ?_ ?_
      ·rintro a1 m1 ⟨env1, vs1, g2, g3, g4, g5⟩
       refine AllR.mono ((ih (LO := LO) (c := .loop b) hL g5 g2 (g3.bars h.T.bar hb) (by rw [g4]; exact hN)).2 b rfl hlo) fun e a2 m2 hE => ?_
       rw [g4] at hE; exact EndA.step h.T.free g3 hE
      ·rintro e a1 m1 he ⟨env1, vs1, g2, g3, g4, g5⟩
       refine ⟨env1, vs1, g2, g3, g4, ?_⟩; cases e <;> first | exact absurd rfl he | exact g5
     exact ⟨All.loop hR, fun b' q hq => by cases q; exact hR⟩
  | _ => exact ⟨plain hv, fun b q => by cases q⟩
theorem fn_okA [Orc P] (hC : TabOK P C) (hCA : TabOKA P CA) {k : FuncId} {fn : Func} {c : Code} (hf : P.funcs[k]? = some fn) (hb : fn.body = some c) (hL : ∀ b' ∈ loopsOf c, ∀ con, lookC LO (headReg b') = some con → con.LOK P fn.ntmps b') (ins : Tm) (out : OT) : Con.OKA P k ⟨ins, out, vfnA P C CA LO fn c ins out⟩ := by
 intro x y hF S0 env m args hT hB hsl _; have hRel : Rel P S0 env m (frame fn args) (ins.inst fn.ntmps x) := ⟨hT, frame_size fn args, fun i => by rw [frame_get]; exact accL_rep hsl i, trivial⟩
 have hnb : (ins.cx x S0 env m).nb = ins.bx.length := bxI_len; refine CalAll.body hf hb (vrunA_any hC hCA 100 hL hF hRel hB (frame_size fn args)).1 ?_
 rintro e ⟨tm1, ds1⟩ m2 ⟨env2, vs2, k2, hst, _, g5⟩
 have hE0 : (e = .normal ∨ e = .ret) ∧ vs2.df = [] ∧ vleafE P fn ins.bx.length out .ret vs2 = some y := by
  unfold vleafA at g5; cases e with
  | exit id => cases g5
  | pnc v => cases g5
  | normal =>
   dsimp only at g5; split at g5
   ·rename_i hd; exact ⟨.inl rfl, hd, g5⟩
   ·cases g5
  | ret =>
   dsimp only at g5; split at g5
   ·rename_i hd; exact ⟨.inr rfl, hd, g5⟩
   ·cases g5
 obtain ⟨he, hdf, k4⟩ := hE0; have hds : ds1 = [] := by
  have := k2.df
  rw [hdf] at this; cases ds1 with
  | nil => rfl
  | cons => exact this.elim
 subst hds; refine ⟨he, rfl, ?_⟩; unfold vleafE at k4; dsimp only at k4; obtain ⟨env2', r1, r2⟩ := rehome_sound (o := out) (n := ins.bx.length) k2 rfl; have hst := hst.trans hT.free r2; clear r2; generalize rehome out ins.bx.length vs2 = vs3 at *; obtain ⟨hkeys, k4⟩ := cond_some k4; simp only [Option.bind_eq_some_iff] at k4; obtain ⟨l, hl, hm⟩ := k4; obtain ⟨hlen, ws, hws, hrep0⟩ := vresL_sound r1 hl
 have hwl : ws.length = fn.results.size := by
  have h5 : ∀ {l : List S1} {ws : List Value}, repSs P (vs3.cx S0 env2' m2) l ws → l.length = ws.length := by
   intro l; induction l with
   | nil => intro ws h; cases ws with
    | nil => rfl
    | cons => exact h.elim
   | cons c l ih => intro ws h; cases ws with
    | nil => exact h.elim
    | cons w ws => simp [ih h.2]
  rw [← h5 hrep0, hlen]; simp
 split at hm
 case h_2 => cases hm
 rename_i rt hrt; obtain ⟨env3, g2', g3', hrep⟩ := prep_sound (pl := rt.sl) (bf := rt.bf) r1 hrep0 rfl; have hst := hst.trans hT.free g3'; clear g3'; obtain ⟨h1, ⟨q, hq⟩, _, h4⟩ := OT.mat_some hm; have h4 := h4 rfl _ hkeys; obtain ⟨hE, hs2⟩ := Ended.of_mat hst g2'.T hnb (av := fun i => ws.toArray.getD i undef) (fun p _ => accS_rep hrep p.1) hq; have hsll : (out.out y).2.1.sl.length = ws.length := by rw [hwl, ← List.length_map (f := (·.1)), h4, List.length_range]
 have hss := slots_list (ws := ws) (n := 0) (l := (out.out y).2.1.sl) (x := (out.out y).2.2.1) (fun i hi => by
  rw [← List.getElem?_map, h4, List.getElem?_range (by rw [← hwl, ← hsll]; exact hi), Nat.zero_add]) (by rw [hsll]; omega) (fun i => by rw [Array.getD_eq_getD_getElem?]; simp) hs2
 rw [List.drop_zero] at hss; have hres : ∃ v, iresults P fn tm1 m2 = some v ∧ repV P ((out.out y).2.1.cx (out.out y).2.2 S0 (env3.sub q True) m2) (resSl (slI id id (out.out y).2.1.sl (out.out y).2.2.1)) v := by
  unfold iresults; rw [hws]; have hsl2 : (slI id id (out.out y).2.1.sl (out.out y).2.2.1).length = ws.length := by
   rw [← hsll]; have : ∀ {l : List (Nat × Pt)} {x : SlE l}, (slI id id l x).length = l.length := by
    intro l; induction l with
    | nil => intro x; rfl
    | cons p l ih => intro x; show (_ :: _).length = _; simp [ih]
   exact this
  generalize slI id id (out.out y).2.1.sl (out.out y).2.2.1 = L at hss hsl2; cases L with
  | nil => cases ws with
   | nil => exact ⟨_, rfl, #[], rfl, trivial⟩
   | cons => simp at hsl2
  | cons p L =>
   cases ws with
   | nil => simp at hsl2
   | cons w ws =>
    cases L with
    | nil => cases ws with
     | nil => exact ⟨w, rfl, hss.1⟩
     | cons => simp at hsl2
    | cons p2 L => cases ws with
     | nil => simp at hsl2
     | cons w2 ws => exact ⟨_, rfl, _, rfl, hss⟩
 obtain ⟨v, hv1, hv2⟩ := hres; refine ⟨v, hv1, env3.sub q True, hE, ?_⟩; show EndsC P _ (out.out y).1 _ _; rw [h1]; exact ⟨v, rfl, hv2⟩
def _root_.Go.IM.LawA (P : Program) [Orc P] (f : FuncId) (fn : Func) (depth : Nat) : Prop :=
 ∀ (m : M) (vs : List Value), RoMem m → OkArgs P m maxLen depth fn.params.toList vs → Cal.All P f vs.toArray m fun out m1 => out = .ret (.bool true)
theorem law_ofA [Orc P] {k : FuncId} {fn : Func} {depth n : Nat} {tys : List Ty} (ht : optL (fn.params.toList.map (tyOf P n)) = some tys) {F : (lawTm tys).E → Option lawOut.E} (hok : Con.OKA P k ⟨lawTm tys, lawOut, F⟩)
  (law : ∀ x : SlE (argP 0 tys), okArgsL maxLen 0 tys x → F (x, (), ()) = some ((true, ()), (), ())) : LawA P k fn depth := by
 intro m vs hr hargs; obtain ⟨x, h1, h2⟩ := args_rep hr (pre := []) rfl hargs ht; have hSf : ∀ i, ¬ ((lawTm tys).inst 0 (x, (), ())).S (fun _ => False) env0 i := by
  intro i w; rcases w with w | ⟨j, hj, _⟩ | w
  ·exact w
  ·exact absurd hj (Nat.not_lt_zero _)
  ·exact w
 have hle : CxLe (cx0 m) ((lawTm tys).cx (x, (), ()) (fun _ => False) env0 m) :=
  ⟨fun i r hr hn => ⟨hr, hSf i⟩, Nat.le_refl _, fun _ _ => rfl, fun j b hb => by simp [cx0] at hb, fun j hj => absurd hj (Nat.not_lt_zero _), fun j L hj => absurd hj (Nat.not_lt_zero _), fun i w => w, fun i w => w, Nat.le_refl _, fun _ _ q => q⟩
 have hsl : ∀ {l : List (Nat × S1)} {av : Nat → Value}, repSlots P (cx0 m) av l → repSlots P ((lawTm tys).cx (x, (), ()) (fun _ => False) env0 m) av l := by
  intro l av; induction l with
  | nil => intro _; trivial
  | cons p l ih => intro h; exact ⟨h.1.le hle, ih h.2⟩
 refine CalAll.mono (hok (x, (), ()) _ (law x h2) (fun _ => False) env0 m vs.toArray
  ⟨hr.free, by show m.bar ≤ m.nxt; rw [hr.bar]; exact Nat.zero_le _, rfl, rfl, rfl, fun j hj => absurd hj (Nat.not_lt_zero _), fun i w => absurd w (hSf i), fun j b hb => (by cases hb), fun j j' b b' i h1 => (by cases h1), fun j cs hcs => (by cases hcs), fun j j' hj => absurd hj (Nat.not_lt_zero _), fun i w => w.elim, fun j hj => absurd hj (Nat.not_lt_zero _), roMem_roots hr, roMem_uniq hr⟩ (by
  intro i w; rcases w with ⟨j, hj, _⟩ | w
  ·exact absurd hj (Nat.not_lt_zero _)
  ·exact w.elim) (hsl h1) (by
   show vs.length = (argP 0 tys).length; rw [argP_len, ← okArgs_len hargs, ← opt_len ht]; simp)) ?_
 rintro c m1 ⟨env1, hend, hret⟩
 obtain ⟨v, rfl, hv⟩ := hret; have hv' : v = .bool true := hv.1
 rw [hv']
end Go.IM.V
namespace Go.IM
open Go Go.RowKit Go.ChangeShapes Go.WideShapes Go.ChangeAt
variable {P : Program} {W : World} {H : Type} {enc : TypeId × Value → H}
theorem liftedA {C : Checked} [orc : Orc C.prog] {os : Os} {f depth : Nat} {fn : Func} {s : ChangeSpec} {tb : TypeId} (own : ownKnob C.prog.godebug = none) (started : os.Started) (noInit : C.prog.inits.idxOf? f = none) (hfn : C.prog.funcs[f]? = some fn)
  (hl : laidOutB C.prog = true) (hvars : s.vars = []) (hs : ∀ (ds : List (DataW H)), ds.length = fn.params.size → s.fn H ds = { results := [.lit (.bool true)], args := ds })
  (hpure : (fn.params.toList.all fun t => pureT C.prog depth t && C.prog.readableRec t && decide (t < C.prog.types.size)) = true)
  (hres : fn.resultTypes = #[tb]) (htb : C.prog.underlying tb = some .bool)
  (witness : ∃ (w : World) (tape : Tape) (i : Input), w.os = os ∧ (w.forCall tape i).Shaped C.prog ∧ i.vars = [] ∧ Input.okWide C.prog (w.forCall tape i) .any w.heap.size f i ∧
   s.pre6 enc C.prog fn [] false (w.forCall tape i).memory i.args ∧ ({} : Assume).holds C.prog (lone (Frame.enter C.prog f i.args .normal) [] (w.forCall tape i)))
  (law : LawA C.prog f fn depth) : ReturnsInHanded {} C os f .any (s.pre6 enc C.prog fn [] false) (s.post enc C.prog fn false true false false) := by
 refine returnsInHanded_of_change own started noInit hfn witness ?_; intro W base args ds gs before hval hW hcnd _; have hW' := hW
 obtain ⟨p, q, hA, hV, rfl, hfz, hnd⟩ := hW; rw [hvars] at hV; obtain ⟨rfl, rfl⟩ := trodVars_none hV; simp only [List.all_eq_true, Bool.and_eq_true, decide_eq_true_eq] at hpure; obtain ⟨ρ, m, vs0, h1, h2, h3, h4, h5⟩ := opens_args (L := maxLen) (B := none) (f := depth) (base := base) hA (fun j t v ht hv => hval j t v (by simpa using ht) (by simpa using hv)) (fun t ht => (hpure t ht).1.1) (fun _ _ => rfl) (fun _ => none) ⟨.leaf, 0, 0⟩ Ini.nil
 have hcall := law m vs0 h3.ro h5; have hlen : ds.length = fn.params.size := by
  have : ∀ {ts : List TypeId} {vs : List Value} {ds : List (DataW H)} {ps : List MemPlace}, DataW.TrodAll enc C.prog W 0 (fun _ => true) true ts vs ds ps → ds.length = ts.length := by
   intro ts; induction ts with
   | nil => intro vs ds ps h; cases vs <;> cases ds <;> first | rfl | exact h.elim
   | cons t ts ih =>
    intro vs ds ps h; cases vs <;> cases ds <;> first | exact h.elim | skip
    obtain ⟨p, q, _, h, _⟩ := h; simp [ih h]
  rw [this hA]; simp
 have hvs : VsRel ρ vs0.toArray args := by have := h4.vs; simpa using this
 refine (hcall _ _ ρ W args h3.inv h3.ro.wf hvs).mono ?_
 rintro e W' ⟨out, m1, rfl, _, ρ', hle, hI', he⟩
 cases he with
 | ret hv =>
  cases hv; have hb := hI'.below; refine ⟨.bool true, rfl, ds, [], p ++ [], [], p, [], hW', ?_, ?_, ?_, ?_, fun hq => (by cases hq)⟩
  ·rw [List.append_nil, hs ds hlen, hres]; exact trodAll_mk1 (shut_bool htb true)
  ·rw [List.append_nil, hs ds hlen]; exact trodAll_below hl hb hA (fun t ht => ⟨(hpure t ht).1.2, (hpure t ht).2⟩) hA.lt
  ·rw [List.append_nil, hs ds hlen, hvars]; rfl
  ·exact hb.frame _
end Go.IM
namespace Go.IM.V
open Go Go.IM Go.Proofs
abbrev DS3 : Type := ((Unit × (Int × (Int × (Int × (Int × (Bool × Unit)))))) × ((Unit × Unit) × ((Unit × (Int × Unit)) × ((Unit × (Int × Unit)) × Unit))))
abbrev DS4 : Type := ((Unit × (Int × (Int × (Int × (Int × (Bool × Unit)))))) × ((Unit × Unit) × (((List Int) × (Int × Unit)) × (((List Int) × (Int × Unit)) × Unit))))
abbrev pO0 : List Pt := [.o 0, .v (.i .i64)]
abbrev pO1 : List Pt := [.o 1, .v (.i .i64)]
abbrev pL0 : List Pt := [.v (.l (.i .u8)), .v (.i .i64)]
noncomputable def topL (a1 v1 : Int) (q0 : List Int) : Int := (if ((IntKind.wrap .i64 (v1 + (if (0 : Int) > (if (((q0.length : Nat) : Int) : Int) < a1 then ((q0.length : Nat) : Int) else a1) then 0 else (if (((q0.length : Nat) : Int) : Int) < a1 then ((q0.length : Nat) : Int) else a1)))) : Int) < ((q0.length : Nat) : Int) then (IntKind.wrap .i64 (v1 + (if (0 : Int) > (if (((q0.length : Nat) : Int) : Int) < a1 then ((q0.length : Nat) : Int) else a1) then 0 else (if (((q0.length : Nat) : Int) : Int) < a1 then ((q0.length : Nat) : Int) else a1)))) else ((q0.length : Nat) : Int))
noncomputable def b22m : Code := b22n
theorem body22m : Try.f22.body = some b22m := by kernel_rfl
noncomputable def C22m : Tab := []
theorem C22m_ok : TabOK TP C22m := trivial
noncomputable def LO22m : Tab := []
noncomputable def i22m : Tm := { sl := [(0, .p 0 0), (1, .v (.i .i64)), (2, .v (.i .i64))], bx := [pD, [.mx 2 [(bNM, 1, 2)]], pO0], bf := [(.i .u8)] }
noncomputable def o22m : OT := (.ret { sl := [], bx := [pD, [.mx 2 [(bNM, 1, 2)]], pO0], bf := [(.i .u8)] })
noncomputable def F22m (a1 : Int) (a2 : Int) (u1 u2 u3 u4 : Int) (u5 : Bool) (v1 : Int) (q0 : (List Int)) : Option (Unit × DS1 × ((List Int) × Unit)) :=
 (some ((), (((), u1, a1, (if (0 : Int) > a2 then 0 else a2), u4, u5, ()), ((), ()), ((), v1, ()), ()), (q0, ())))
noncomputable def c22m : Con := ⟨i22m, o22m, fun x => F22m x.1.2.1 x.1.2.2.1 x.2.1.1.2.1 x.2.1.1.2.2.1 x.2.1.1.2.2.2.1 x.2.1.1.2.2.2.2.1 x.2.1.1.2.2.2.2.2.1 x.2.1.2.2.1.2.1 x.2.2.1⟩
theorem e22m (x : i22m.E) : vfn TP C22m LO22m Try.f22 b22m i22m o22m x = c22m.F x := by kernel_rfl
theorem c22m_ok : Con.OK TP 22 c22m := (fn_ok C22m_ok (fun _ => rfl) Try.func22 body22m (noL (by kernel_rfl)) i22m o22m).congr fun x => (e22m x).symm
noncomputable def l42m_5 : Code := (.seq (.region 5 (regOf Try.f42 5) false) (.seq (.cond (.tmp 15) .skip (.exit 0)) (.block 1 (.seq (.region 6 (regOf Try.f42 6) false) (.region 7 (regOf Try.f42 7) false)))))
noncomputable def b42m : Code := (.seq (.region 0 (regOf Try.f42 0) false) (.seq (.seq (.region 1 (regOf Try.f42 1) false) (.cond (.tmp 8) (.seq (.region 2 (regOf Try.f42 2) false) .ret) .skip)) (.seq (.region 3 (regOf Try.f42 3) false) (.seq (.seq (.region 4 (regOf Try.f42 4) false) (.block 0 (.loop l42m_5))) (.seq (.region 8 (regOf Try.f42 8) false) .ret)))))
theorem body42m : Try.f42.body = some b42m := by kernel_rfl
noncomputable def C42m : Tab := [(700005, cHot)]
theorem C42m_ok : TabOK TP C42m := ⟨cHot_ok, trivial⟩
noncomputable def LO42m : Tab := []
noncomputable def i42m : Tm := { sl := [(0, .p 0 0)], bx := [pD, [.mx 2 [(bNM, 1, 2)]], pO0], bf := [(.i .u8)] }
noncomputable def o42m : OT := (.ret { sl := [(0, .v (.i .i64)), (1, .v (.i .i64))], bx := [pD, [.mx 2 [(bNM, 1, 2)]], pO0], bf := [(.i .u8)] })
noncomputable def F42m (u1 u2 u3 u4 : Int) (u5 : Bool) (v1 : Int) (q0 : (List Int)) : Option ((Int × (Int × Unit)) × DS1 × ((List Int) × Unit)) :=
 (some ((u1, (IntKind.wrap .i64 (0 + ((q0.length : Nat) : Int))), ()), (((), u1, u2, u3, u4, u5, ()), ((), ()), ((), v1, ()), ()), (q0, ())))
noncomputable def c42m : Con := ⟨i42m, o42m, fun x => F42m x.2.1.1.2.1 x.2.1.1.2.2.1 x.2.1.1.2.2.2.1 x.2.1.1.2.2.2.2.1 x.2.1.1.2.2.2.2.2.1 x.2.1.2.2.1.2.1 x.2.2.1⟩
theorem e42m (x : i42m.E) : vfn TP C42m LO42m Try.f42 b42m i42m o42m x = c42m.F x := by kernel_rfl
theorem c42m_ok : Con.OK TP 42 c42m := (fn_ok C42m_ok (fun _ => rfl) Try.func42 body42m (show ∀ b' ∈ loopsOf b42m, ∀ con, lookC LO42m (headReg b') = some con → con.LOK TP Try.f42.ntmps b' from fun _ _ _ h => absurd (show (none : Option Con) = some _ from h) (fun h => by cases h)) i42m o42m).congr fun x => (e42m x).symm
noncomputable def b43m : Code := b430
theorem body43m : Try.f43.body = some b43m := by kernel_rfl
noncomputable def C43m : Tab := []
theorem C43m_ok : TabOK TP C43m := trivial
noncomputable def LO43m : Tab := []
noncomputable def i43m : Tm := { sl := [(0, .p 0 0)], bx := [pD, [.mx 2 [(bNM, 1, 2)]], pO0], bf := [(.i .u8)] }
noncomputable def o43m : OT := (.ret { sl := [(0, .v .b)], bx := [pD, [.mx 2 [(bNM, 1, 2)]], pO0], bf := [(.i .u8)] })
noncomputable def F43m (u1 u2 u3 u4 : Int) (u5 : Bool) (v1 : Int) (q0 : (List Int)) : Option ((Bool × Unit) × DS1 × ((List Int) × Unit)) :=
 (some (((!u5), ()), (((), u1, u2, u3, u4, u5, ()), ((), ()), ((), v1, ()), ()), (q0, ())))
noncomputable def c43m : Con := ⟨i43m, o43m, fun x => F43m x.2.1.1.2.1 x.2.1.1.2.2.1 x.2.1.1.2.2.2.1 x.2.1.1.2.2.2.2.1 x.2.1.1.2.2.2.2.2.1 x.2.1.2.2.1.2.1 x.2.2.1⟩
theorem e43m (x : i43m.E) : vfn TP C43m LO43m Try.f43 b43m i43m o43m x = c43m.F x := by kernel_rfl
theorem c43m_ok : Con.OK TP 43 c43m := (fn_ok C43m_ok (fun _ => rfl) Try.func43 body43m (noL (by kernel_rfl)) i43m o43m).congr fun x => (e43m x).symm
noncomputable def b43u : Code := b430
theorem body43u : Try.f43.body = some b43u := by kernel_rfl
noncomputable def C43u : Tab := []
theorem C43u_ok : TabOK TP C43u := trivial
noncomputable def LO43u : Tab := []
noncomputable def i43u : Tm := { sl := [(0, .p 0 0)], bx := [pD, [.mx 3 [(bNM, 1, 2)]], pL0], bf := [] }
noncomputable def o43u : OT := (.ret { sl := [(0, .v .b)], bx := [pD, [.mx 3 [(bNM, 1, 2)]], pL0], bf := [] })
noncomputable def F43u (u1 u2 u3 u4 : Int) (u5 : Bool) (v0 : (List Int)) (v1 : Int) : Option ((Bool × Unit) × DS2 × Unit) :=
 (some (((!u5), ()), (((), u1, u2, u3, u4, u5, ()), ((), ()), (v0, v1, ()), ()), ()))
noncomputable def c43u : Con := ⟨i43u, o43u, fun x => F43u x.2.1.1.2.1 x.2.1.1.2.2.1 x.2.1.1.2.2.2.1 x.2.1.1.2.2.2.2.1 x.2.1.1.2.2.2.2.2.1 x.2.1.2.2.1.1 x.2.1.2.2.1.2.1⟩
theorem e43u (x : i43u.E) : vfn TP C43u LO43u Try.f43 b43u i43u o43u x = c43u.F x := by kernel_rfl
theorem c43u_ok : Con.OK TP 43 c43u := (fn_ok C43u_ok (fun _ => rfl) Try.func43 body43u (noL (by kernel_rfl)) i43u o43u).congr fun x => (e43u x).symm
noncomputable def b43v : Code := b430
theorem body43v : Try.f43.body = some b43v := by kernel_rfl
noncomputable def C43v : Tab := []
theorem C43v_ok : TabOK TP C43v := trivial
noncomputable def LO43v : Tab := []
noncomputable def i43v : Tm := { sl := [(0, .p 0 0)], bx := [pD, [.mx 3 [(bNM, 1, 2), (bNN, 2, 3)]], pL0, pL0], bf := [] }
noncomputable def o43v : OT := (.ret { sl := [(0, .v .b)], bx := [pD, [.mx 3 [(bNM, 1, 2), (bNN, 2, 3)]], pL0, pL0], bf := [] })
noncomputable def F43v (u1 u2 u3 u4 : Int) (u5 : Bool) (v0 : (List Int)) (v1 : Int) (w0 : (List Int)) (w1 : Int) : Option ((Bool × Unit) × DS4 × Unit) :=
 (some (((!u5), ()), (((), u1, u2, u3, u4, u5, ()), ((), ()), (v0, v1, ()), (w0, w1, ()), ()), ()))
noncomputable def c43v : Con := ⟨i43v, o43v, fun x => F43v x.2.1.1.2.1 x.2.1.1.2.2.1 x.2.1.1.2.2.2.1 x.2.1.1.2.2.2.2.1 x.2.1.1.2.2.2.2.2.1 x.2.1.2.2.1.1 x.2.1.2.2.1.2.1 x.2.1.2.2.2.1.1 x.2.1.2.2.2.1.2.1⟩
theorem e43v (x : i43v.E) : vfn TP C43v LO43v Try.f43 b43v i43v o43v x = c43v.F x := by kernel_rfl
theorem c43v_ok : Con.OK TP 43 c43v := (fn_ok C43v_ok (fun _ => rfl) Try.func43 body43v (noL (by kernel_rfl)) i43v o43v).congr fun x => (e43v x).symm
noncomputable def b44m : Code := b440
theorem body44m : Try.f44.body = some b44m := by kernel_rfl
noncomputable def C44m : Tab := []
theorem C44m_ok : TabOK TP C44m := trivial
noncomputable def LO44m : Tab := []
noncomputable def i44m : Tm := { sl := [(0, .p 0 0)], bx := [pD, [.mx 2 [(bNM, 1, 2)]], pO0], bf := [(.i .u8)] }
noncomputable def o44m : OT := (.ret { sl := [(0, .v (.i .i64))], bx := [pD, [.mx 2 [(bNM, 1, 2)]], pO0], bf := [(.i .u8)] })
noncomputable def F44m (u1 u2 u3 u4 : Int) (u5 : Bool) (v1 : Int) (q0 : (List Int)) : Option ((Int × Unit) × DS1 × ((List Int) × Unit)) :=
 (bif u5 then (some ((7, ()), (((), u1, u2, u3, u4, u5, ()), ((), ()), ((), v1, ()), ()), (q0, ()))) else (bif (u2 == 0) then (some ((7, ()), (((), u1, u2, u3, (IntKind.wrap .i64 (u4 + 1)), true, ()), ((), ()), ((), v1, ()), ()), (q0, ()))) else (bif (decide (u2 > 0)) then (some ((0, ()), (((), u1, (IntKind.wrap .i64 (u2 - 1)), u3, (IntKind.wrap .i64 (u4 + 1)), u5, ()), ((), ()), ((), v1, ()), ()), (q0, ()))) else (some ((0, ()), (((), u1, u2, u3, (IntKind.wrap .i64 (u4 + 1)), u5, ()), ((), ()), ((), v1, ()), ()), (q0, ()))))))
noncomputable def c44m : Con := ⟨i44m, o44m, fun x => F44m x.2.1.1.2.1 x.2.1.1.2.2.1 x.2.1.1.2.2.2.1 x.2.1.1.2.2.2.2.1 x.2.1.1.2.2.2.2.2.1 x.2.1.2.2.1.2.1 x.2.2.1⟩
theorem e44m (x : i44m.E) : vfn TP C44m LO44m Try.f44 b44m i44m o44m x = c44m.F x := by kernel_rfl
theorem c44m_ok : Con.OK TP 44 c44m := (fn_ok C44m_ok (fun _ => rfl) Try.func44 body44m (noL (by kernel_rfl)) i44m o44m).congr fun x => (e44m x).symm
noncomputable def b44s : Code := b440
theorem body44s : Try.f44.body = some b44s := by kernel_rfl
noncomputable def C44s : Tab := []
theorem C44s_ok : TabOK TP C44s := trivial
noncomputable def LO44s : Tab := []
noncomputable def i44s : Tm := { sl := [(0, .p 0 0)], bx := [pD, [.mx 3 [(bNM, 1, 2), (bNN, 2, 3)]], pO0, pO1], bf := [(.i .u8), (.i .u8)] }
noncomputable def o44s : OT := (.ret { sl := [(0, .v (.i .i64))], bx := [pD, [.mx 3 [(bNM, 1, 2), (bNN, 2, 3)]], pO0, pO1], bf := [(.i .u8), (.i .u8)] })
noncomputable def F44s (u1 u2 u3 u4 : Int) (u5 : Bool) (v1 : Int) (w1 : Int) (q0 : (List Int)) (q1 : (List Int)) : Option ((Int × Unit) × DS3 × ((List Int) × ((List Int) × Unit))) :=
 (bif u5 then (some ((7, ()), (((), u1, u2, u3, u4, u5, ()), ((), ()), ((), v1, ()), ((), w1, ()), ()), (q0, q1, ()))) else (bif (u2 == 0) then (some ((7, ()), (((), u1, u2, u3, (IntKind.wrap .i64 (u4 + 1)), true, ()), ((), ()), ((), v1, ()), ((), w1, ()), ()), (q0, q1, ()))) else (bif (decide (u2 > 0)) then (some ((0, ()), (((), u1, (IntKind.wrap .i64 (u2 - 1)), u3, (IntKind.wrap .i64 (u4 + 1)), u5, ()), ((), ()), ((), v1, ()), ((), w1, ()), ()), (q0, q1, ()))) else (some ((0, ()), (((), u1, u2, u3, (IntKind.wrap .i64 (u4 + 1)), u5, ()), ((), ()), ((), v1, ()), ((), w1, ()), ()), (q0, q1, ()))))))
noncomputable def c44s : Con := ⟨i44s, o44s, fun x => F44s x.2.1.1.2.1 x.2.1.1.2.2.1 x.2.1.1.2.2.2.1 x.2.1.1.2.2.2.2.1 x.2.1.1.2.2.2.2.2.1 x.2.1.2.2.1.2.1 x.2.1.2.2.2.1.2.1 x.2.2.1 x.2.2.2.1⟩
theorem e44s (x : i44s.E) : vfn TP C44s LO44s Try.f44 b44s i44s o44s x = c44s.F x := by kernel_rfl
theorem c44s_ok : Con.OK TP 44 c44s := (fn_ok C44s_ok (fun _ => rfl) Try.func44 body44s (noL (by kernel_rfl)) i44s o44s).congr fun x => (e44s x).symm
noncomputable def b47m : Code := b470
theorem body47m : Try.f47.body = some b47m := by kernel_rfl
noncomputable def C47m : Tab := [(44, c44m)]
theorem C47m_ok : TabOK TP C47m := ⟨c44m_ok, trivial⟩
noncomputable def LO47m : Tab := []
noncomputable def i47m : Tm := { sl := [(0, .p 0 0), (1, .kt bNN)], bx := [pD, [.mx 2 [(bNM, 1, 2)]], pO0], bf := [(.i .u8)] }
noncomputable def o47m : OT := (.ret { sl := [(0, .v (.i .i64))], bx := [pD, [.mx 2 [(bNM, 1, 2)]], pO0], bf := [(.i .u8)] })
noncomputable def F47m (u1 u2 u3 u4 : Int) (u5 : Bool) (v1 : Int) (q0 : (List Int)) : Option ((Int × Unit) × DS1 × ((List Int) × Unit)) :=
 ((F44m u1 u2 u3 u4 u5 v1 q0).bind fun y0 => (bif (y0.1.1 != 0) then (some y0) else (some ((2, ()), y0.2.1, y0.2.2))))
noncomputable def c47m : Con := ⟨i47m, o47m, fun x => F47m x.2.1.1.2.1 x.2.1.1.2.2.1 x.2.1.1.2.2.2.1 x.2.1.1.2.2.2.2.1 x.2.1.1.2.2.2.2.2.1 x.2.1.2.2.1.2.1 x.2.2.1⟩
theorem e47m (x : i47m.E) : vfn TP C47m LO47m Try.f47 b47m i47m o47m x = c47m.F x := by kernel_rfl
theorem c47m_ok : Con.OK TP 47 c47m := (fn_ok C47m_ok (fun _ => rfl) Try.func47 body47m (noL (by kernel_rfl)) i47m o47m).congr fun x => (e47m x).symm
noncomputable def b45ms : Code := b450a
theorem body45ms : Try.f45.body = some b45ms := by kernel_rfl
noncomputable def C45ms : Tab := []
theorem C45ms_ok : TabOK TP C45ms := trivial
noncomputable def LO45ms : Tab := []
noncomputable def i45ms : Tm := { sl := [(0, .p 0 0), (1, .kt bNN), (2, .v (.l (.i .u8)))], bx := [pD, [.mx 2 [(bNM, 1, 2)]], pO0], bf := [(.i .u8)] }
noncomputable def o45ms : OT := (.ret { sl := [], bx := [pD, [.mx 3 [(bNM, 1, 2), (bNN, 2, 3)]], pO0, pO1], bf := [(.i .u8), (.i .u8)] })
noncomputable def F45ms (a2 : (List Int)) (u1 u2 u3 u4 : Int) (u5 : Bool) (v1 : Int) (q0 : (List Int)) : Option (Unit × DS3 × ((List Int) × ((List Int) × Unit))) :=
 (bif (decide (a2.length < lim)) then (some ((), (((), u1, u2, u3, u4, u5, ()), ((), ()), ((), v1, ()), ((), 0, ()), ()), (q0, a2, ()))) else none)
noncomputable def c45ms : Con := ⟨i45ms, o45ms, fun x => F45ms x.1.2.2.1 x.2.1.1.2.1 x.2.1.1.2.2.1 x.2.1.1.2.2.2.1 x.2.1.1.2.2.2.2.1 x.2.1.1.2.2.2.2.2.1 x.2.1.2.2.1.2.1 x.2.2.1⟩
theorem e45ms (x : i45ms.E) : vfn TP C45ms LO45ms Try.f45 b45ms i45ms o45ms x = c45ms.F x := by kernel_rfl
theorem c45ms_ok : Con.OK TP 45 c45ms := (fn_ok C45ms_ok (fun _ => rfl) Try.func45 body45ms (noL (by kernel_rfl)) i45ms o45ms).congr fun x => (e45ms x).symm
noncomputable def b18mT : Code := b180a
theorem body18mT : Try.f18.body = some b18mT := by kernel_rfl
noncomputable def C18mT : Tab := [(16, c16), (42, c42m), (43, c43m), (44, c44m), (45, c45ms)]
theorem C18mT_ok : TabOK TP C18mT := ⟨c16_ok, c42m_ok, c43m_ok, c44m_ok, c45ms_ok, trivial⟩
noncomputable def LO18mT : Tab := []
noncomputable def i18mT : Tm := { sl := [(0, .p 0 0), (1, .kt bNN), (2, .v (.l (.i .u8)))], bx := [pD, [.mx 2 [(bNM, 1, 2)]], pO0], bf := [(.i .u8)] }
noncomputable def o18mT : OT := (.two (.ret { sl := [(0, .v (.i .i64))], bx := [pD, [.mx 2 [(bNM, 1, 2)]], pO0], bf := [(.i .u8)] }) (.ret { sl := [(0, .v (.i .i64))], bx := [pD, [.mx 3 [(bNM, 1, 2), (bNN, 2, 3)]], pO0, pO1], bf := [(.i .u8), (.i .u8)] }))
noncomputable def F18mT (a2 : (List Int)) (u1 u2 u3 u4 : Int) (u5 : Bool) (v1 : Int) (q0 : (List Int)) : Option (((Int × Unit) × DS1 × ((List Int) × Unit)) ⊕ ((Int × Unit) × DS3 × ((List Int) × ((List Int) × Unit)))) :=
 ((F16 bNN).bind fun y0 => (bif (!y0.1.1) then (some (.inl ((1, ()), (((), u1, u2, u3, u4, u5, ()), ((), ()), ((), v1, ()), ()), (q0, ())))) else ((F42m u1 u2 u3 u4 u5 v1 q0).bind fun y1 => ((F43m y1.2.1.1.2.1 y1.2.1.1.2.2.1 y1.2.1.1.2.2.2.1 y1.2.1.1.2.2.2.2.1 y1.2.1.1.2.2.2.2.2.1 y1.2.1.2.2.1.2.1 y1.2.2.1).bind fun y2 => ((F44m y2.2.1.1.2.1 y2.2.1.1.2.2.1 y2.2.1.1.2.2.2.1 y2.2.1.1.2.2.2.2.1 y2.2.1.1.2.2.2.2.2.1 y2.2.1.2.2.1.2.1 y2.2.2.1).bind fun y3 => (bif (y3.1.1 != 0) then (bif y2.1.1 then (bif (decide (y3.2.1.1.2.2.2.1 > 0)) then (bif (decide (((IntKind.wrap .i64 (y1.1.2.1 + (if ((a2.length : Nat) : Int) < y3.2.1.1.2.2.2.1 then ((a2.length : Nat) : Int) else y3.2.1.1.2.2.2.1))) : Int) ≤ y1.1.1)) then (bif (decide (0 ≤ ((if ((a2.length : Nat) : Int) < y3.2.1.1.2.2.2.1 then ((a2.length : Nat) : Int) else y3.2.1.1.2.2.2.1) : Int) ∧ ((if ((a2.length : Nat) : Int) < y3.2.1.1.2.2.2.1 then ((a2.length : Nat) : Int) else y3.2.1.1.2.2.2.1) : Int) ≤ ((a2.length : Nat) : Int))) then ((F45ms ((a2).take ((if ((a2.length : Nat) : Int) < y3.2.1.1.2.2.2.1 then ((a2.length : Nat) : Int) else y3.2.1.1.2.2.2.1) : Int).toNat) y3.2.1.1.2.1 y3.2.1.1.2.2.1 y3.2.1.1.2.2.2.1 y3.2.1.1.2.2.2.2.1 y3.2.1.1.2.2.2.2.2.1 y3.2.1.2.2.1.2.1 y3.2.2.1).bind fun y4 => (some (.inr ((y3.1.1, ()), y4.2.1, y4.2.2)))) else none) else (some (.inl y3))) else (some (.inl y3))) else (some (.inl y3))) else (bif (decide (((a2.length : Nat) : Int) > (IntKind.wrap .i64 (y1.1.1 - y1.1.2.1)))) then (some (.inl ((3, ()), y3.2.1, y3.2.2))) else ((F45ms a2 y3.2.1.1.2.1 y3.2.1.1.2.2.1 y3.2.1.1.2.2.2.1 y3.2.1.1.2.2.2.2.1 y3.2.1.1.2.2.2.2.2.1 y3.2.1.2.2.1.2.1 y3.2.2.1).bind fun y5 => (some (.inr ((0, ()), y5.2.1, y5.2.2)))))))))))
noncomputable def c18mT : Con := ⟨i18mT, o18mT, fun x => F18mT x.1.2.2.1 x.2.1.1.2.1 x.2.1.1.2.2.1 x.2.1.1.2.2.2.1 x.2.1.1.2.2.2.2.1 x.2.1.1.2.2.2.2.2.1 x.2.1.2.2.1.2.1 x.2.2.1⟩
theorem e18mT (x : i18mT.E) : vfn TP C18mT LO18mT Try.f18 b18mT i18mT o18mT x = c18mT.F x := by kernel_rfl
theorem c18mT_ok : Con.OK TP 18 c18mT := (fn_ok C18mT_ok (fun _ => rfl) Try.func18 body18mT (noL (by kernel_rfl)) i18mT o18mT).congr fun x => (e18mT x).symm
noncomputable def b23s : Code := b23a
theorem body23s : Try.f23.body = some b23s := by kernel_rfl
noncomputable def C23s : Tab := [(44, c44s)]
theorem C23s_ok : TabOK TP C23s := ⟨c44s_ok, trivial⟩
noncomputable def LO23s : Tab := []
noncomputable def i23s : Tm := { sl := [(0, .p 0 0), (1, .kt bNN)], bx := [pD, [.mx 3 [(bNM, 1, 2), (bNN, 2, 3)]], pO0, pO1], bf := [(.i .u8), (.i .u8)] }
noncomputable def o23s : OT := (.ret { sl := [(0, .v (.i .i64))], bx := [pD, [.mx 3 [(bNM, 1, 2), (bNN, 2, 3)]], pO0, pO1], bf := [(.i .u8), (.i .u8)] })
noncomputable def F23s (u1 u2 u3 u4 : Int) (u5 : Bool) (v1 : Int) (w1 : Int) (q0 : (List Int)) (q1 : (List Int)) : Option ((Int × Unit) × DS3 × ((List Int) × ((List Int) × Unit))) :=
 ((F44s u1 u2 u3 u4 u5 v1 w1 q0 q1).bind fun y0 => (bif (y0.1.1 != 0) then (some y0) else (some ((0, ()), (y0.2.1.1, ((), ()), y0.2.1.2.2.1, ((), ((y0.2.2.2.1.length : Nat) : Int), ()), ()), y0.2.2))))
noncomputable def c23s : Con := ⟨i23s, o23s, fun x => F23s x.2.1.1.2.1 x.2.1.1.2.2.1 x.2.1.1.2.2.2.1 x.2.1.1.2.2.2.2.1 x.2.1.1.2.2.2.2.2.1 x.2.1.2.2.1.2.1 x.2.1.2.2.2.1.2.1 x.2.2.1 x.2.2.2.1⟩
theorem e23s (x : i23s.E) : vfn TP C23s LO23s Try.f23 b23s i23s o23s x = c23s.F x := by kernel_rfl
theorem c23s_ok : Con.OK TP 23 c23s := (fn_ok C23s_ok (fun _ => rfl) Try.func23 body23s (noL (by kernel_rfl)) i23s o23s).congr fun x => (e23s x).symm
noncomputable def b50sT : Code := b50am
theorem body50sT : Try.f50.body = some b50sT := by kernel_rfl
noncomputable def C50sT : Tab := [(16, c16), (44, c44s)]
theorem C50sT_ok : TabOK TP C50sT := ⟨c16_ok, c44s_ok, trivial⟩
noncomputable def LO50sT : Tab := []
noncomputable def i50sT : Tm := { sl := [(0, .p 0 0), (1, .kt bNN), (2, .kt bNM)], bx := [pD, [.mx 3 [(bNM, 1, 2), (bNN, 2, 3)]], pO0, pO1], bf := [(.i .u8), (.i .u8)] }
noncomputable def o50sT : OT := (.two (.ret { sl := [(0, .v (.i .i64))], bx := [pD, [.mx 3 [(bNM, 1, 2), (bNN, 2, 3)]], pO0, pO1], bf := [(.i .u8), (.i .u8)] }) (.ret { sl := [(0, .v (.i .i64))], bx := [pD, [.mx 3 [(bNM, 1, 3)]], pO0, pO1], bf := [(.i .u8), (.i .u8)] }))
noncomputable def F50sT (u1 u2 u3 u4 : Int) (u5 : Bool) (v1 : Int) (w1 : Int) (q0 : (List Int)) (q1 : (List Int)) : Option (((Int × Unit) × DS3 × ((List Int) × ((List Int) × Unit))) ⊕ ((Int × Unit) × DS3 × ((List Int) × ((List Int) × Unit)))) :=
 ((F16 bNM).bind fun y0 => (bif (!y0.1.1) then (some (.inl ((1, ()), (((), u1, u2, u3, u4, u5, ()), ((), ()), ((), v1, ()), ((), w1, ()), ()), (q0, q1, ())))) else ((F44s u1 u2 u3 u4 u5 v1 w1 q0 q1).bind fun y1 => (bif (y1.1.1 != 0) then (some (.inl y1)) else (some (.inr ((0, ()), y1.2.1, y1.2.2)))))))
noncomputable def c50sT : Con := ⟨i50sT, o50sT, fun x => F50sT x.2.1.1.2.1 x.2.1.1.2.2.1 x.2.1.1.2.2.2.1 x.2.1.1.2.2.2.2.1 x.2.1.1.2.2.2.2.2.1 x.2.1.2.2.1.2.1 x.2.1.2.2.2.1.2.1 x.2.2.1 x.2.2.2.1⟩
theorem e50sT (x : i50sT.E) : vfn TP C50sT LO50sT Try.f50 b50sT i50sT o50sT x = c50sT.F x := by kernel_rfl
theorem c50sT_ok : Con.OK TP 50 c50sT := (fn_ok C50sT_ok (fun _ => rfl) Try.func50 body50sT (noL (by kernel_rfl)) i50sT o50sT).congr fun x => (e50sT x).symm
noncomputable def l20mT_7 : Code := (.seq (.region 7 (regOf Try.f20 7) false) (.seq (.cond (.tmp 33) .skip (.exit 0)) (.seq (.block 1 (.seq (.region 8 (regOf Try.f20 8) false) (.seq (.seq (.region 9 (regOf Try.f20 9) false) (.cond (.tmp 38) (.seq (.region 10 (regOf Try.f20 10) false) .ret) .skip)) (.region 11 (regOf Try.f20 11) false)))) (.region 12 (regOf Try.f20 12) false))))
noncomputable def b20mT : Code := (.seq (.region 0 (regOf Try.f20 0) false) (.seq (.region 1 (regOf Try.f20 1) false) (.seq (.seq (.region 2 (regOf Try.f20 2) false) (.seq (.region 3 (regOf Try.f20 3) false) (.cond (.tmp 26) (.seq (.region 4 (regOf Try.f20 4) false) .ret) .skip))) (.seq (.region 5 (regOf Try.f20 5) false) (.seq (.seq (.region 6 (regOf Try.f20 6) false) (.block 0 (.loop l20mT_7))) (.seq (.seq (.region 13 (regOf Try.f20 13) false) (.seq (.region 14 (regOf Try.f20 14) false) (.cond (.tmp 49) (.seq (.region 15 (regOf Try.f20 15) false) .ret) .skip))) (.seq (.seq (.region 16 (regOf Try.f20 16) false) (.seq (.region 17 (regOf Try.f20 17) false) (.cond (.tmp 55) (.seq (.region 18 (regOf Try.f20 18) false) .ret) .skip))) (.seq (.region 19 (regOf Try.f20 19) false) .ret))))))))
theorem body20mT : Try.f20.body = some b20mT := by kernel_rfl
noncomputable def C20mT_7 : Tab := [(49, c49)]
theorem C20mT_7_ok : TabOK TP C20mT_7 := ⟨c49_ok, trivial⟩
noncomputable def LO20mT_7 : Tab := []
noncomputable def i20mT_7 : Tm := { sl := [(11, .o 0), (30, .v (.l (.l (.i .u8)))), (31, .v (.i .i64)), (32, .v (.i .i64))], bx := [], bf := [(.i .u8)] }
noncomputable def o20mT_7 : OT := (.two (.ret { sl := [(8, .v (.i .i64))], bx := [], bf := [] }) (.exit 0 { sl := [(11, .o 0)], bx := [], bf := [(.i .u8)] }))
noncomputable def T20mT_7 (a30 : (List (List Int))) (a31 : Int) (a32 : Int) (q0 : (List Int)) : Option (((Unit × ((List (List Int)) × (Int × (Int × Unit)))) × Unit × ((List Int) × Unit)) ⊕ (((Int × Unit) × Unit × Unit) ⊕ ((Unit × Unit) × Unit × ((List Int) × Unit)))) :=
 (bif (decide (a32 < a31)) then (bif (decide (0 ≤ a32 ∧ a32 < ((a30.length : Nat) : Int))) then (bif (decide (((((((a30).getD a32.toNat [])).length : Nat) : Int) : Int) > 2097152)) then (some (.inr (.inl ((6, ()), (), ())))) else ((F49 ((a30).getD a32.toNat [])).bind fun y0 => (bif (decide (q0.length + y0.2.2.1.length < lim)) then (some (.inl (((), a30, a31, (IntKind.wrap .i64 (a32 + 1)), ()), (), ((q0 ++ y0.2.2.1), ())))) else none))) else none) else (some (.inr (.inr (((), ()), (), (q0, ()))))))
noncomputable def L20mT_7 (a30 : (List (List Int))) (a31 : Int) (a32 : Int) (q0 : (List Int)) : Option (((Int × Unit) × Unit × Unit) ⊕ ((Unit × Unit) × Unit × ((List Int) × Unit))) := loopF (fun x : ((Unit × ((List (List Int)) × (Int × (Int × Unit)))) × Unit × ((List Int) × Unit)) => T20mT_7 x.1.2.1 x.1.2.2.1 x.1.2.2.2.1 x.2.2.1) (((), a30, a31, a32, ()), (), (q0, ()))
theorem L20mT_7_eq (a30 : (List (List Int))) (a31 : Int) (a32 : Int) (q0 : (List Int)) : L20mT_7 a30 a31 a32 q0 = (T20mT_7 a30 a31 a32 q0).bind (Sum.elim (fun x => L20mT_7 x.1.2.1 x.1.2.2.1 x.1.2.2.2.1 x.2.2.1) some) := loopF_eq _ _
noncomputable def k20mT_7 : Con := ⟨i20mT_7, o20mT_7, fun x => L20mT_7 x.1.2.1 x.1.2.2.1 x.1.2.2.2.1 x.2.2.1⟩
theorem e20mT_7 (x : i20mT_7.E) : vround TP C20mT_7 LO20mT_7 Try.f20.ntmps l20mT_7 i20mT_7 o20mT_7 x = T20mT_7 x.1.2.1 x.1.2.2.1 x.1.2.2.2.1 x.2.2.1 := by kernel_rfl
theorem k20mT_7_ok : Con.LOK TP Try.f20.ntmps l20mT_7 k20mT_7 := (loop_ok C20mT_7_ok (noL (by kernel_rfl)) i20mT_7 o20mT_7).congr fun x => (congrArg (fun T => loopF T x) (funext e20mT_7)).symm
noncomputable def C20mT : Tab := [(18, c18mT), (23, c23s), (47, c47m), (48, c48), (49, c49), (50, c50sT)]
theorem C20mT_ok : TabOK TP C20mT := ⟨c18mT_ok, c23s_ok, c47m_ok, c48_ok, c49_ok, c50sT_ok, trivial⟩
noncomputable def LO20mT : Tab := [(7, k20mT_7)]
noncomputable def i20mT : Tm := { sl := [(0, .p 0 0), (1, .kt bNM), (2, .v (.p (.i .u8) (.p (.i .u64) (.p (.i .u64) .u)))), (3, .v (.l (.l (.i .u8))))], bx := [pD, [.mx 2 [(bNM, 1, 2)]], pO0], bf := [(.i .u8)] }
noncomputable def o20mT : OT := (.two (.ret { sl := [(0, .v (.i .i64))], bx := [pD, [.mx 2 [(bNM, 1, 2)]], pO0], bf := [(.i .u8)] }) (.two (.ret { sl := [(0, .v (.i .i64))], bx := [pD, [.mx 3 [(bNM, 1, 2), (bNN, 2, 3)]], pO0, pO1], bf := [(.i .u8), (.i .u8)] }) (.ret { sl := [(0, .v (.i .i64))], bx := [pD, [.mx 3 [(bNM, 1, 3)]], pO0, pO1], bf := [(.i .u8), (.i .u8)] })))
noncomputable def F20mT (a2 : (Int × (Int × (Int × Unit)))) (a3 : (List (List Int))) (u1 u2 u3 u4 : Int) (u5 : Bool) (v1 : Int) (q0 : (List Int)) : Option (((Int × Unit) × DS1 × ((List Int) × Unit)) ⊕ (((Int × Unit) × DS3 × ((List Int) × ((List Int) × Unit))) ⊕ ((Int × Unit) × DS3 × ((List Int) × ((List Int) × Unit))))) :=
 ((F47m u1 u2 u3 u4 u5 v1 q0).bind fun y0 => (bif (y0.1.1 != 0) then (bif (y0.1.1 != 2) then (some (.inl y0)) else ((F48 (a2.1, (a2.2.1, (a2.2.2.1, ())))).bind fun y1 => ((L20mT_7 a3 ((a3.length : Nat) : Int) 0 y1.2.2.1).bind fun y2 => (Sum.elim (fun y3 => (some (.inl ((y3.1.1, ()), y0.2.1, y0.2.2)))) (fun y3 => ((F18mT y3.2.2.1 y0.2.1.1.2.1 y0.2.1.1.2.2.1 y0.2.1.1.2.2.2.1 y0.2.1.1.2.2.2.2.1 y0.2.1.1.2.2.2.2.2.1 y0.2.1.2.2.1.2.1 y0.2.2.1).bind fun y4 => (Sum.elim (fun y5 => (bif (y5.1.1 != 0) then (some (.inl y5)) else none)) (fun y5 => (bif (y5.1.1 != 0) then (some (.inr (.inl y5))) else ((F23s y5.2.1.1.2.1 y5.2.1.1.2.2.1 y5.2.1.1.2.2.2.1 y5.2.1.1.2.2.2.2.1 y5.2.1.1.2.2.2.2.2.1 y5.2.1.2.2.1.2.1 y5.2.1.2.2.2.1.2.1 y5.2.2.1 y5.2.2.2.1).bind fun y6 => (bif (y6.1.1 != 0) then (some (.inr (.inl y6))) else ((F50sT y6.2.1.1.2.1 y6.2.1.1.2.2.1 y6.2.1.1.2.2.2.1 y6.2.1.1.2.2.2.2.1 y6.2.1.1.2.2.2.2.2.1 y6.2.1.2.2.1.2.1 y6.2.1.2.2.2.1.2.1 y6.2.2.1 y6.2.2.2.1).bind fun y7 => (Sum.elim (fun y8 => (some (.inr (.inl y8)))) (fun y8 => (some (.inr (.inr y8)))) y7)))))) y4))) y2)))) else ((F48 (a2.1, (a2.2.1, (a2.2.2.1, ())))).bind fun y9 => ((L20mT_7 a3 ((a3.length : Nat) : Int) 0 y9.2.2.1).bind fun y10 => (Sum.elim (fun y11 => (some (.inl ((y11.1.1, ()), y0.2.1, y0.2.2)))) (fun y11 => ((F18mT y11.2.2.1 y0.2.1.1.2.1 y0.2.1.1.2.2.1 y0.2.1.1.2.2.2.1 y0.2.1.1.2.2.2.2.1 y0.2.1.1.2.2.2.2.2.1 y0.2.1.2.2.1.2.1 y0.2.2.1).bind fun y12 => (Sum.elim (fun y13 => (bif (y13.1.1 != 0) then (some (.inl y13)) else none)) (fun y13 => (bif (y13.1.1 != 0) then (some (.inr (.inl y13))) else ((F23s y13.2.1.1.2.1 y13.2.1.1.2.2.1 y13.2.1.1.2.2.2.1 y13.2.1.1.2.2.2.2.1 y13.2.1.1.2.2.2.2.2.1 y13.2.1.2.2.1.2.1 y13.2.1.2.2.2.1.2.1 y13.2.2.1 y13.2.2.2.1).bind fun y14 => (bif (y14.1.1 != 0) then (some (.inr (.inl y14))) else ((F50sT y14.2.1.1.2.1 y14.2.1.1.2.2.1 y14.2.1.1.2.2.2.1 y14.2.1.1.2.2.2.2.1 y14.2.1.1.2.2.2.2.2.1 y14.2.1.2.2.1.2.1 y14.2.1.2.2.2.1.2.1 y14.2.2.1 y14.2.2.2.1).bind fun y15 => (Sum.elim (fun y16 => (some (.inr (.inl y16)))) (fun y16 => (some (.inr (.inr y16)))) y15)))))) y12))) y10)))))
noncomputable def c20mT : Con := ⟨i20mT, o20mT, fun x => F20mT x.1.2.2.1 x.1.2.2.2.1 x.2.1.1.2.1 x.2.1.1.2.2.1 x.2.1.1.2.2.2.1 x.2.1.1.2.2.2.2.1 x.2.1.1.2.2.2.2.2.1 x.2.1.2.2.1.2.1 x.2.2.1⟩
theorem e20mT (x : i20mT.E) : vfn TP C20mT LO20mT Try.f20 b20mT i20mT o20mT x = c20mT.F x := by kernel_rfl
theorem c20mT_ok : Con.OK TP 20 c20mT := (fn_ok C20mT_ok (fun _ => rfl) Try.func20 body20mT (loops_of (l := [l20mT_7]) (by kernel_rfl) (show LoopsOK TP Try.f20.ntmps [l20mT_7] LO20mT from ⟨k20mT_7_ok, trivial⟩)) i20mT o20mT).congr fun x => (e20mT x).symm
noncomputable def b17mT : Code := b17w
theorem body17mT : Try.f17.body = some b17mT := by kernel_rfl
noncomputable def C17mT : Tab := [(16, c16), (20, c20mT), (21, c21)]
theorem C17mT_ok : TabOK TP C17mT := ⟨c16_ok, c20mT_ok, c21_ok, trivial⟩
noncomputable def LO17mT : Tab := []
noncomputable def i17mT : Tm := { sl := [(0, .p 0 0), (1, .v tDMf)], bx := [pD, [.mx 2 [(bNM, 1, 2)]], pO0], bf := [(.i .u8)] }
noncomputable def o17mT : OT := (.two (.ret { sl := [(0, .v (.i .i64))], bx := [pD, [.mx 2 [(bNM, 1, 2)]], pO0], bf := [(.i .u8)] }) (.two (.ret { sl := [(0, .v (.i .i64))], bx := [pD, [.mx 3 [(bNM, 1, 2), (bNN, 2, 3)]], pO0, pO1], bf := [(.i .u8), (.i .u8)] }) (.ret { sl := [(0, .v (.i .i64))], bx := [pD, [.mx 3 [(bNM, 1, 3)]], pO0, pO1], bf := [(.i .u8), (.i .u8)] })))
noncomputable def F17mT (a1 : DMf) (u1 u2 u3 u4 : Int) (u5 : Bool) (v1 : Int) (q0 : (List Int)) : Option (((Int × Unit) × DS1 × ((List Int) × Unit)) ⊕ (((Int × Unit) × DS3 × ((List Int) × ((List Int) × Unit))) ⊕ ((Int × Unit) × DS3 × ((List Int) × ((List Int) × Unit))))) :=
 (bif (decide ((a1.1 : Int) < 0)) then (some (.inl ((1, ()), (((), u1, u2, u3, u4, u5, ()), ((), ()), ((), v1, ()), ()), (q0, ())))) else (bif (decide ((a1.1 : Int) ≥ 64)) then (some (.inl ((1, ()), (((), u1, u2, u3, u4, u5, ()), ((), ()), ((), v1, ()), ()), (q0, ())))) else (bif (!((a1.2.2.2.2.1 : ByteArray).toList == ((⟨#[]⟩ : ByteArray) : ByteArray).toList)) then ((F16 a1.2.2.2.2.1).bind fun y0 => (bif (!y0.1.1) then (some (.inl ((1, ()), (((), u1, u2, u3, u4, u5, ()), ((), ()), ((), v1, ()), ()), (q0, ())))) else ((F21 a1).bind fun y1 => ((F20mT (109, ((IntKind.wrap .u64 a1.1), (a1.2.1, ()))) [y1.2.2.1] u1 u2 u3 u4 u5 v1 q0).bind fun y2 => (Sum.elim (fun y3 => (some (.inl y3))) (fun y3 => (Sum.elim (fun y4 => (some (.inr (.inl y4)))) (fun y4 => (some (.inr (.inr y4)))) y3)) y2))))) else ((F21 a1).bind fun y5 => ((F20mT (109, ((IntKind.wrap .u64 a1.1), (a1.2.1, ()))) [y5.2.2.1] u1 u2 u3 u4 u5 v1 q0).bind fun y6 => (Sum.elim (fun y7 => (some (.inl y7))) (fun y7 => (Sum.elim (fun y8 => (some (.inr (.inl y8)))) (fun y8 => (some (.inr (.inr y8)))) y7)) y6))))))
noncomputable def c17mT : Con := ⟨i17mT, o17mT, fun x => F17mT x.1.2.1 x.2.1.1.2.1 x.2.1.1.2.2.1 x.2.1.1.2.2.2.1 x.2.1.1.2.2.2.2.1 x.2.1.1.2.2.2.2.2.1 x.2.1.2.2.1.2.1 x.2.2.1⟩
theorem e17mT (x : i17mT.E) : vfn TP C17mT LO17mT Try.f17 b17mT i17mT o17mT x = c17mT.F x := by kernel_rfl
theorem c17mT_ok : Con.OK TP 17 c17mT := (fn_ok C17mT_ok (fun _ => rfl) Try.func17 body17mT (noL (by kernel_rfl)) i17mT o17mT).congr fun x => (e17mT x).symm
noncomputable def l31mn_2 : Code := (.seq (.region 2 (regOf Try.f31 2) false) (.seq (.cond (.tmp 15) .skip (.exit 0)) (.block 1 (.seq (.region 3 (regOf Try.f31 3) false) (.seq (.region 4 (regOf Try.f31 4) true) (.region 5 (regOf Try.f31 5) false))))))
noncomputable def b31mn : Code := (.seq (.seq (.region 0 (regOf Try.f31 0) false) (.cond (.tmp 8) .ret .skip)) (.seq (.seq (.region 1 (regOf Try.f31 1) false) (.block 0 (.loop l31mn_2))) (.region 6 (regOf Try.f31 6) false)))
theorem body31mn : Try.f31.body = some b31mn := by kernel_rfl
noncomputable def C31mn : Tab := [(700002, cHot)]
theorem C31mn_ok : TabOK TP C31mn := ⟨cHot_ok, trivial⟩
noncomputable def LO31mn : Tab := []
noncomputable def i31mn : Tm := { sl := [(0, .p 0 0), (1, .v (.i .i64))], bx := [pD, [.mx 2 [(bNM, 1, 2)]], pO0], bf := [(.i .u8)] }
noncomputable def o31mn : OT := (.ret { sl := [], bx := [pD, [.mx 2 [(bNM, 1, 2)]], pL0], bf := [] })
noncomputable def F31mn (a1 : Int) (u1 u2 u3 u4 : Int) (u5 : Bool) (v1 : Int) (q0 : (List Int)) : Option (Unit × DS2 × Unit) :=
 (bif ((decide (0 ≤ ((topL a1 v1 q0) : Int) ∧ ((topL a1 v1 q0) : Int) ≤ ((q0.length : Nat) : Int))) && (decide (((topL a1 v1 q0) : Int) = (topL a1 v1 q0)))) then (some ((), (((), u1, (-1), 0, u4, false, ()), ((), ()), (((q0).take ((topL a1 v1 q0) : Int).toNat), (topL a1 v1 q0), ()), ()), ())) else none)
noncomputable def c31mn : Con := ⟨i31mn, o31mn, fun x => F31mn x.1.2.1 x.2.1.1.2.1 x.2.1.1.2.2.1 x.2.1.1.2.2.2.1 x.2.1.1.2.2.2.2.1 x.2.1.1.2.2.2.2.2.1 x.2.1.2.2.1.2.1 x.2.2.1⟩
theorem e31mn (x : i31mn.E) : vfn TP C31mn LO31mn Try.f31 b31mn i31mn o31mn x = c31mn.F x := by kernel_rfl
theorem c31mn_ok : Con.OK TP 31 c31mn := (fn_ok C31mn_ok (fun _ => rfl) Try.func31 body31mn (show ∀ b' ∈ loopsOf b31mn, ∀ con, lookC LO31mn (headReg b') = some con → con.LOK TP Try.f31.ntmps b' from fun _ _ _ h => absurd (show (none : Option Con) = some _ from h) (fun h => by cases h)) i31mn o31mn).congr fun x => (e31mn x).symm
noncomputable def l31qu_2 : Code := (.seq (.region 2 (regOf Try.f31 2) false) (.seq (.cond (.tmp 15) .skip (.exit 0)) (.block 1 (.seq (.region 3 (regOf Try.f31 3) false) (.seq (.region 4 (regOf Try.f31 4) true) (.region 5 (regOf Try.f31 5) false))))))
noncomputable def b31qu : Code := (.seq (.seq (.region 0 (regOf Try.f31 0) false) (.cond (.tmp 8) .ret .skip)) (.seq (.seq (.region 1 (regOf Try.f31 1) false) (.block 0 (.loop l31qu_2))) (.region 6 (regOf Try.f31 6) false)))
theorem body31qu : Try.f31.body = some b31qu := by kernel_rfl
noncomputable def C31qu : Tab := [(700002, cHot)]
theorem C31qu_ok : TabOK TP C31qu := ⟨cHot_ok, trivial⟩
noncomputable def LO31qu : Tab := []
noncomputable def i31qu : Tm := { sl := [(0, .p 0 0), (1, .v (.i .i64))], bx := [pD, [.mx 3 [(bNM, 1, 2)]], pO0], bf := [(.i .u8)] }
noncomputable def o31qu : OT := (.ret { sl := [], bx := [pD, [.mx 3 [(bNM, 1, 2)]], pL0], bf := [] })
noncomputable def F31qu (a1 : Int) (u1 u2 u3 u4 : Int) (u5 : Bool) (v1 : Int) (q0 : (List Int)) : Option (Unit × DS2 × Unit) :=
 (bif ((decide (0 ≤ ((topL a1 v1 q0) : Int) ∧ ((topL a1 v1 q0) : Int) ≤ ((q0.length : Nat) : Int))) && (decide (((topL a1 v1 q0) : Int) = (topL a1 v1 q0)))) then (some ((), (((), u1, (-1), 0, u4, false, ()), ((), ()), (((q0).take ((topL a1 v1 q0) : Int).toNat), (topL a1 v1 q0), ()), ()), ())) else none)
noncomputable def c31qu : Con := ⟨i31qu, o31qu, fun x => F31qu x.1.2.1 x.2.1.1.2.1 x.2.1.1.2.2.1 x.2.1.1.2.2.2.1 x.2.1.1.2.2.2.2.1 x.2.1.1.2.2.2.2.2.1 x.2.1.2.2.1.2.1 x.2.2.1⟩
theorem e31qu (x : i31qu.E) : vfn TP C31qu LO31qu Try.f31 b31qu i31qu o31qu x = c31qu.F x := by kernel_rfl
theorem c31qu_ok : Con.OK TP 31 c31qu := (fn_ok C31qu_ok (fun _ => rfl) Try.func31 body31qu (show ∀ b' ∈ loopsOf b31qu, ∀ con, lookC LO31qu (headReg b') = some con → con.LOK TP Try.f31.ntmps b' from fun _ _ _ h => absurd (show (none : Option Con) = some _ from h) (fun h => by cases h)) i31qu o31qu).congr fun x => (e31qu x).symm
noncomputable def l31sv_2 : Code := (.seq (.region 2 (regOf Try.f31 2) false) (.seq (.cond (.tmp 15) .skip (.exit 0)) (.block 1 (.seq (.region 3 (regOf Try.f31 3) false) (.seq (.region 4 (regOf Try.f31 4) true) (.region 5 (regOf Try.f31 5) false))))))
noncomputable def b31sv : Code := (.seq (.seq (.region 0 (regOf Try.f31 0) false) (.cond (.tmp 8) .ret .skip)) (.seq (.seq (.region 1 (regOf Try.f31 1) false) (.block 0 (.loop l31sv_2))) (.region 6 (regOf Try.f31 6) false)))
theorem body31sv : Try.f31.body = some b31sv := by kernel_rfl
noncomputable def C31sv : Tab := [(700002, cHot)]
theorem C31sv_ok : TabOK TP C31sv := ⟨cHot_ok, trivial⟩
noncomputable def LO31sv : Tab := []
noncomputable def CA31sv : Tab := []
theorem CA31sv_ok : TabOKA TP CA31sv := trivial
noncomputable def i31sv : Tm := { sl := [(0, .p 0 0), (1, .v (.i .i64))], bx := [pD, [.mx 3 [(bNM, 1, 2), (bNN, 2, 3)]], pO0, pO1], bf := [(.i .u8), (.i .u8)] }
noncomputable def o31sv : OT := (.ret { sl := [], bx := [pD, [.mx 3 [(bNM, 1, 2), (bNN, 2, 3)]], pL0, pL0], bf := [] })
noncomputable def F31sv (a1 : Int) (u1 u2 u3 u4 : Int) (u5 : Bool) (v1 : Int) (w1 : Int) (q0 : (List Int)) (q1 : (List Int)) : Option (Unit × DS4 × Unit) :=
 (both (bif ((decide (0 ≤ ((topL a1 v1 q0) : Int) ∧ ((topL a1 v1 q0) : Int) ≤ ((q0.length : Nat) : Int))) && (decide (((topL a1 v1 q0) : Int) = (topL a1 v1 q0)))) then (bif ((decide (0 ≤ ((topL a1 w1 q1) : Int) ∧ ((topL a1 w1 q1) : Int) ≤ ((q1.length : Nat) : Int))) && (decide (((topL a1 w1 q1) : Int) = (topL a1 w1 q1)))) then (some ((), (((), u1, (-1), 0, u4, false, ()), ((), ()), (((q0).take ((topL a1 v1 q0) : Int).toNat), (topL a1 v1 q0), ()), (((q1).take ((topL a1 w1 q1) : Int).toNat), (topL a1 w1 q1), ()), ()), ())) else none) else none) (bif ((decide (0 ≤ ((topL a1 w1 q1) : Int) ∧ ((topL a1 w1 q1) : Int) ≤ ((q1.length : Nat) : Int))) && (decide (((topL a1 w1 q1) : Int) = (topL a1 w1 q1)))) then (bif ((decide (0 ≤ ((topL a1 v1 q0) : Int) ∧ ((topL a1 v1 q0) : Int) ≤ ((q0.length : Nat) : Int))) && (decide (((topL a1 v1 q0) : Int) = (topL a1 v1 q0)))) then (some ((), (((), u1, (-1), 0, u4, false, ()), ((), ()), (((q0).take ((topL a1 v1 q0) : Int).toNat), (topL a1 v1 q0), ()), (((q1).take ((topL a1 w1 q1) : Int).toNat), (topL a1 w1 q1), ()), ()), ())) else none) else none))
noncomputable def c31sv : Con := ⟨i31sv, o31sv, fun x => F31sv x.1.2.1 x.2.1.1.2.1 x.2.1.1.2.2.1 x.2.1.1.2.2.2.1 x.2.1.1.2.2.2.2.1 x.2.1.1.2.2.2.2.2.1 x.2.1.2.2.1.2.1 x.2.1.2.2.2.1.2.1 x.2.2.1 x.2.2.2.1⟩
theorem e31sv (x : i31sv.E) : vfnA TP C31sv CA31sv LO31sv Try.f31 b31sv i31sv o31sv x = c31sv.F x := by kernel_rfl
theorem c31sv_ok : Con.OKA TP 31 c31sv := (fn_okA C31sv_ok CA31sv_ok Try.func31 body31sv (show ∀ b' ∈ loopsOf b31sv, ∀ con, lookC LO31sv (headReg b') = some con → con.LOK TP Try.f31.ntmps b' from fun _ _ _ h => absurd (show (none : Option Con) = some _ from h) (fun h => by cases h)) i31sv o31sv).congr fun x => (e31sv x).symm
noncomputable def b77u : Code := b77d
theorem body77u : Try.f77.body = some b77u := by kernel_rfl
noncomputable def C77u : Tab := [(43, c43u), (92, c92)]
theorem C77u_ok : TabOK TP C77u := ⟨c43u_ok, c92_ok, trivial⟩
noncomputable def LO77u : Tab := []
noncomputable def i77u : Tm := { sl := [(0, .p 0 0), (1, .kt bNM)], bx := [pD, [.mx 3 [(bNM, 1, 2)]], pL0], bf := [] }
noncomputable def o77u : OT := (.ret { sl := [(0, .v (.l (.i .u8))), (1, .v (.i .i64))], bx := [pD, [.mx 3 [(bNM, 1, 2)]], pL0], bf := [] })
noncomputable def F77u (u1 u2 u3 u4 : Int) (u5 : Bool) (v0 : (List Int)) (v1 : Int) : Option (((List Int) × (Int × Unit)) × DS2 × Unit) :=
 ((F43u u1 u2 u3 u4 u5 v0 v1).bind fun y0 => (bif (!y0.1.1) then (some ((([] : List Int), 7, ()), y0.2.1, ())) else ((F92 y0.2.1.2.2.1.1).bind fun y1 => (some ((y1.1.1, 0, ()), y0.2.1, ())))))
noncomputable def c77u : Con := ⟨i77u, o77u, fun x => F77u x.2.1.1.2.1 x.2.1.1.2.2.1 x.2.1.1.2.2.2.1 x.2.1.1.2.2.2.2.1 x.2.1.1.2.2.2.2.2.1 x.2.1.2.2.1.1 x.2.1.2.2.1.2.1⟩
theorem e77u (x : i77u.E) : vfn TP C77u LO77u Try.f77 b77u i77u o77u x = c77u.F x := by kernel_rfl
theorem c77u_ok : Con.OK TP 77 c77u := (fn_ok C77u_ok (fun _ => rfl) Try.func77 body77u (noL (by kernel_rfl)) i77u o77u).congr fun x => (e77u x).symm
noncomputable def b77v : Code := b77d
theorem body77v : Try.f77.body = some b77v := by kernel_rfl
noncomputable def C77v : Tab := [(43, c43v), (92, c92)]
theorem C77v_ok : TabOK TP C77v := ⟨c43v_ok, c92_ok, trivial⟩
noncomputable def LO77v : Tab := []
noncomputable def i77v : Tm := { sl := [(0, .p 0 0), (1, .kt bNM)], bx := [pD, [.mx 3 [(bNM, 1, 2), (bNN, 2, 3)]], pL0, pL0], bf := [] }
noncomputable def o77v : OT := (.ret { sl := [(0, .v (.l (.i .u8))), (1, .v (.i .i64))], bx := [pD, [.mx 3 [(bNM, 1, 2), (bNN, 2, 3)]], pL0, pL0], bf := [] })
noncomputable def F77v (u1 u2 u3 u4 : Int) (u5 : Bool) (v0 : (List Int)) (v1 : Int) (w0 : (List Int)) (w1 : Int) : Option (((List Int) × (Int × Unit)) × DS4 × Unit) :=
 ((F43v u1 u2 u3 u4 u5 v0 v1 w0 w1).bind fun y0 => (bif (!y0.1.1) then (some ((([] : List Int), 7, ()), y0.2.1, ())) else ((F92 y0.2.1.2.2.1.1).bind fun y1 => (some ((y1.1.1, 0, ()), y0.2.1, ())))))
noncomputable def c77v : Con := ⟨i77v, o77v, fun x => F77v x.2.1.1.2.1 x.2.1.1.2.2.1 x.2.1.1.2.2.2.1 x.2.1.1.2.2.2.2.1 x.2.1.1.2.2.2.2.2.1 x.2.1.2.2.1.1 x.2.1.2.2.1.2.1 x.2.1.2.2.2.1.1 x.2.1.2.2.2.1.2.1⟩
theorem e77v (x : i77v.E) : vfn TP C77v LO77v Try.f77 b77v i77v o77v x = c77v.F x := by kernel_rfl
theorem c77v_ok : Con.OK TP 77 c77v := (fn_ok C77v_ok (fun _ => rfl) Try.func77 body77v (noL (by kernel_rfl)) i77v o77v).congr fun x => (e77v x).symm
noncomputable def b46u : Code := b46d
theorem body46u : Try.f46.body = some b46u := by kernel_rfl
noncomputable def C46u : Tab := [(77, c77u), (78, c78)]
theorem C46u_ok : TabOK TP C46u := ⟨c77u_ok, c78_ok, trivial⟩
noncomputable def LO46u : Tab := []
noncomputable def i46u : Tm := { sl := [(0, .p 0 0), (1, .kt bNM)], bx := [pD, [.mx 3 [(bNM, 1, 2)]], pL0], bf := [] }
noncomputable def o46u : OT := (.ret { sl := [(0, .v tDSh), (1, .v (.i .i64))], bx := [pD, [.mx 3 [(bNM, 1, 2)]], pL0], bf := [] })
noncomputable def F46u (u1 u2 u3 u4 : Int) (u5 : Bool) (v0 : (List Int)) (v1 : Int) : Option ((DSh × (Int × Unit)) × DS2 × Unit) :=
 ((F77u u1 u2 u3 u4 u5 v0 v1).bind fun y0 => (bif (y0.1.2.1 != 0) then (some ((((0, (0, (0, ()))), (([] : List (List Int)), (0, (0, ())))), y0.1.2.1, ()), y0.2.1, ())) else ((F78 y0.1.1).bind fun y1 => (some ((((y1.1.1.1.1, (y1.1.1.1.2.1, (y1.1.1.1.2.2.1, ()))), (y1.1.1.2.1, (y1.1.1.2.2.1, (y1.1.1.2.2.2.1, ())))), y1.1.2.1, ()), y0.2.1, ())))))
noncomputable def c46u : Con := ⟨i46u, o46u, fun x => F46u x.2.1.1.2.1 x.2.1.1.2.2.1 x.2.1.1.2.2.2.1 x.2.1.1.2.2.2.2.1 x.2.1.1.2.2.2.2.2.1 x.2.1.2.2.1.1 x.2.1.2.2.1.2.1⟩
theorem e46u (x : i46u.E) : vfn TP C46u LO46u Try.f46 b46u i46u o46u x = c46u.F x := by kernel_rfl
theorem c46u_ok : Con.OK TP 46 c46u := (fn_ok C46u_ok (fun _ => rfl) Try.func46 body46u (noL (by kernel_rfl)) i46u o46u).congr fun x => (e46u x).symm
noncomputable def b46v : Code := b46d
theorem body46v : Try.f46.body = some b46v := by kernel_rfl
noncomputable def C46v : Tab := [(77, c77v), (78, c78)]
theorem C46v_ok : TabOK TP C46v := ⟨c77v_ok, c78_ok, trivial⟩
noncomputable def LO46v : Tab := []
noncomputable def i46v : Tm := { sl := [(0, .p 0 0), (1, .kt bNM)], bx := [pD, [.mx 3 [(bNM, 1, 2), (bNN, 2, 3)]], pL0, pL0], bf := [] }
noncomputable def o46v : OT := (.ret { sl := [(0, .v tDSh), (1, .v (.i .i64))], bx := [pD, [.mx 3 [(bNM, 1, 2), (bNN, 2, 3)]], pL0, pL0], bf := [] })
noncomputable def F46v (u1 u2 u3 u4 : Int) (u5 : Bool) (v0 : (List Int)) (v1 : Int) (w0 : (List Int)) (w1 : Int) : Option ((DSh × (Int × Unit)) × DS4 × Unit) :=
 ((F77v u1 u2 u3 u4 u5 v0 v1 w0 w1).bind fun y0 => (bif (y0.1.2.1 != 0) then (some ((((0, (0, (0, ()))), (([] : List (List Int)), (0, (0, ())))), y0.1.2.1, ()), y0.2.1, ())) else ((F78 y0.1.1).bind fun y1 => (some ((((y1.1.1.1.1, (y1.1.1.1.2.1, (y1.1.1.1.2.2.1, ()))), (y1.1.1.2.1, (y1.1.1.2.2.1, (y1.1.1.2.2.2.1, ())))), y1.1.2.1, ()), y0.2.1, ())))))
noncomputable def c46v : Con := ⟨i46v, o46v, fun x => F46v x.2.1.1.2.1 x.2.1.1.2.2.1 x.2.1.1.2.2.2.1 x.2.1.1.2.2.2.2.1 x.2.1.1.2.2.2.2.2.1 x.2.1.2.2.1.1 x.2.1.2.2.1.2.1 x.2.1.2.2.2.1.1 x.2.1.2.2.2.1.2.1⟩
theorem e46v (x : i46v.E) : vfn TP C46v LO46v Try.f46 b46v i46v o46v x = c46v.F x := by kernel_rfl
theorem c46v_ok : Con.OK TP 46 c46v := (fn_ok C46v_ok (fun _ => rfl) Try.func46 body46v (noL (by kernel_rfl)) i46v o46v).congr fun x => (e46v x).symm
noncomputable def b19u : Code := b19d
theorem body19u : Try.f19.body = some b19u := by kernel_rfl
noncomputable def C19u : Tab := [(29, c29), (46, c46u)]
theorem C19u_ok : TabOK TP C19u := ⟨c29_ok, c46u_ok, trivial⟩
noncomputable def LO19u : Tab := []
noncomputable def i19u : Tm := { sl := [(0, .p 0 0)], bx := [pD, [.mx 3 [(bNM, 1, 2)]], pL0], bf := [] }
noncomputable def o19u : OT := (.ret { sl := [(0, .v tDMf), (1, .v (.i .i64))], bx := [pD, [.mx 3 [(bNM, 1, 2)]], pL0], bf := [] })
noncomputable def F19u (u1 u2 u3 u4 : Int) (u5 : Bool) (v0 : (List Int)) (v1 : Int) : Option ((DMf × (Int × Unit)) × DS2 × Unit) :=
 ((F46u u1 u2 u3 u4 u5 v0 v1).bind fun y0 => (bif (y0.1.2.1 == 2) then (some (((0, (0, (([] : List Int), (0, (ByteArray.empty, ()))))), y0.1.2.1, ()), y0.2.1, ())) else (bif (y0.1.2.1 == 7) then (some (((0, (0, (([] : List Int), (0, (ByteArray.empty, ()))))), y0.1.2.1, ()), y0.2.1, ())) else (bif (y0.1.2.1 != 0) then (some (((0, (0, (([] : List Int), (0, (ByteArray.empty, ()))))), 4, ()), y0.2.1, ())) else (bif (y0.1.1.2.2.2.1 != 0) then (some (((0, (0, (([] : List Int), (0, (ByteArray.empty, ()))))), 4, ()), y0.2.1, ())) else (bif (y0.1.1.1.1 != 109) then (some (((0, (0, (([] : List Int), (0, (ByteArray.empty, ()))))), 4, ()), y0.2.1, ())) else (bif (((y0.1.1.2.1.length : Nat) : Int) != 1) then (some (((0, (0, (([] : List Int), (0, (ByteArray.empty, ()))))), 4, ()), y0.2.1, ())) else (bif (decide (0 ≤ (0 : Int) ∧ (0 : Int) < ((y0.1.1.2.1.length : Nat) : Int))) then ((F29 ((y0.1.1.2.1).getD (0 : Int).toNat [])).bind fun y1 => (bif (y1.1.2.1 != 0) then (some (((0, (0, (([] : List Int), (0, (ByteArray.empty, ()))))), 4, ()), y0.2.1, ())) else (bif (((IntKind.wrap .u64 y1.1.1.1) : Int) != y0.1.1.1.2.1) then (some (((0, (0, (([] : List Int), (0, (ByteArray.empty, ()))))), 4, ()), y0.2.1, ())) else (bif (y1.1.1.2.1 != y0.1.1.1.2.2.1) then (some (((0, (0, (([] : List Int), (0, (ByteArray.empty, ()))))), 4, ()), y0.2.1, ())) else (some ((y1.1.1, 0, ()), y0.2.1, ())))))) else none))))))))
noncomputable def c19u : Con := ⟨i19u, o19u, fun x => F19u x.2.1.1.2.1 x.2.1.1.2.2.1 x.2.1.1.2.2.2.1 x.2.1.1.2.2.2.2.1 x.2.1.1.2.2.2.2.2.1 x.2.1.2.2.1.1 x.2.1.2.2.1.2.1⟩
theorem e19u (x : i19u.E) : vfn TP C19u LO19u Try.f19 b19u i19u o19u x = c19u.F x := by kernel_rfl
theorem c19u_ok : Con.OK TP 19 c19u := (fn_ok C19u_ok (fun _ => rfl) Try.func19 body19u (noL (by kernel_rfl)) i19u o19u).congr fun x => (e19u x).symm
noncomputable def b19v : Code := b19d
theorem body19v : Try.f19.body = some b19v := by kernel_rfl
noncomputable def C19v : Tab := [(29, c29), (46, c46v)]
theorem C19v_ok : TabOK TP C19v := ⟨c29_ok, c46v_ok, trivial⟩
noncomputable def LO19v : Tab := []
noncomputable def i19v : Tm := { sl := [(0, .p 0 0)], bx := [pD, [.mx 3 [(bNM, 1, 2), (bNN, 2, 3)]], pL0, pL0], bf := [] }
noncomputable def o19v : OT := (.ret { sl := [(0, .v tDMf), (1, .v (.i .i64))], bx := [pD, [.mx 3 [(bNM, 1, 2), (bNN, 2, 3)]], pL0, pL0], bf := [] })
noncomputable def F19v (u1 u2 u3 u4 : Int) (u5 : Bool) (v0 : (List Int)) (v1 : Int) (w0 : (List Int)) (w1 : Int) : Option ((DMf × (Int × Unit)) × DS4 × Unit) :=
 ((F46v u1 u2 u3 u4 u5 v0 v1 w0 w1).bind fun y0 => (bif (y0.1.2.1 == 2) then (some (((0, (0, (([] : List Int), (0, (ByteArray.empty, ()))))), y0.1.2.1, ()), y0.2.1, ())) else (bif (y0.1.2.1 == 7) then (some (((0, (0, (([] : List Int), (0, (ByteArray.empty, ()))))), y0.1.2.1, ()), y0.2.1, ())) else (bif (y0.1.2.1 != 0) then (some (((0, (0, (([] : List Int), (0, (ByteArray.empty, ()))))), 4, ()), y0.2.1, ())) else (bif (y0.1.1.2.2.2.1 != 0) then (some (((0, (0, (([] : List Int), (0, (ByteArray.empty, ()))))), 4, ()), y0.2.1, ())) else (bif (y0.1.1.1.1 != 109) then (some (((0, (0, (([] : List Int), (0, (ByteArray.empty, ()))))), 4, ()), y0.2.1, ())) else (bif (((y0.1.1.2.1.length : Nat) : Int) != 1) then (some (((0, (0, (([] : List Int), (0, (ByteArray.empty, ()))))), 4, ()), y0.2.1, ())) else (bif (decide (0 ≤ (0 : Int) ∧ (0 : Int) < ((y0.1.1.2.1.length : Nat) : Int))) then ((F29 ((y0.1.1.2.1).getD (0 : Int).toNat [])).bind fun y1 => (bif (y1.1.2.1 != 0) then (some (((0, (0, (([] : List Int), (0, (ByteArray.empty, ()))))), 4, ()), y0.2.1, ())) else (bif (((IntKind.wrap .u64 y1.1.1.1) : Int) != y0.1.1.1.2.1) then (some (((0, (0, (([] : List Int), (0, (ByteArray.empty, ()))))), 4, ()), y0.2.1, ())) else (bif (y1.1.1.2.1 != y0.1.1.1.2.2.1) then (some (((0, (0, (([] : List Int), (0, (ByteArray.empty, ()))))), 4, ()), y0.2.1, ())) else (some ((y1.1.1, 0, ()), y0.2.1, ())))))) else none))))))))
noncomputable def c19v : Con := ⟨i19v, o19v, fun x => F19v x.2.1.1.2.1 x.2.1.1.2.2.1 x.2.1.1.2.2.2.1 x.2.1.1.2.2.2.2.1 x.2.1.1.2.2.2.2.2.1 x.2.1.2.2.1.1 x.2.1.2.2.1.2.1 x.2.1.2.2.2.1.1 x.2.1.2.2.2.1.2.1⟩
theorem e19v (x : i19v.E) : vfn TP C19v LO19v Try.f19 b19v i19v o19v x = c19v.F x := by kernel_rfl
theorem c19v_ok : Con.OK TP 19 c19v := (fn_ok C19v_ok (fun _ => rfl) Try.func19 body19v (noL (by kernel_rfl)) i19v o19v).congr fun x => (e19v x).symm
noncomputable def b7 : Code := (.seq (.region 0 (regOf Try.f7 0) false) (.seq (.seq (.region 1 (regOf Try.f7 1) false) (.cond (.tmp 40) (.seq (.region 2 (regOf Try.f7 2) false) .ret) .skip)) (.seq (.region 3 (regOf Try.f7 3) false) (.seq (.region 4 (regOf Try.f7 4) false) (.seq (.region 5 (regOf Try.f7 5) false) (.seq (.seq (.region 6 (regOf Try.f7 6) false) (.cond (.tmp 50) (.seq (.region 7 (regOf Try.f7 7) false) .ret) .skip)) (.seq (.region 8 (regOf Try.f7 8) false) (.seq (.region 9 (regOf Try.f7 9) false) (.seq (.region 10 (regOf Try.f7 10) false) (.seq (.region 11 (regOf Try.f7 11) false) (.seq (.region 12 (regOf Try.f7 12) false) .ret)))))))))))
theorem body7 : Try.f7.body = some b7 := by kernel_rfl
noncomputable def C7 : Tab := [(14, c14), (15, c15), (17, c17mT), (17, c17w), (19, c19n), (19, c19u), (19, c19v), (22, c22m), (22, c22n), (24, c24), (30, c30)]
theorem C7_ok : TabOK TP C7 := ⟨c14_ok, c15_ok, c17mT_ok, c17w_ok, c19n_ok, c19u_ok, c19v_ok, c22m_ok, c22n_ok, c24_ok, c30_ok, trivial⟩
noncomputable def LO7 : Tab := []
noncomputable def CA7 : Tab := [(31, c31mn), (31, c31qu), (31, c31sv)]
theorem CA7_ok : TabOKA TP CA7 := ⟨Con.OK.any c31mn_ok, Con.OK.any c31qu_ok, c31sv_ok, trivial⟩
noncomputable def i7 : Tm := { sl := [(0, .v tDMf), (1, .v tDMf), (2, .v (.i .u8)), (3, .v (.i .u8)), (4, .v (.i .u8))], bx := [], bf := [] }
noncomputable def o7 : OT := (.ret { sl := [(0, .v .b)], bx := [], bf := [] })
noncomputable def F7 (a0 : DMf) (a1 : DMf) (a2 : Int) (a3 : Int) (a4 : Int) : Option ((Bool × Unit) × Unit × Unit) :=
 (F14.bind fun y0 => (bif (!y0.1.1) then (F14.bind fun y1 => (some ((y1.1.1, ()), (), ()))) else (bif (decide (((a0.2.2.1.length : Nat) : Int) > 64)) then (F14.bind fun y2 => (some ((y2.1.1, ()), (), ()))) else (bif (decide (((a1.2.2.1.length : Nat) : Int) > 64)) then (F14.bind fun y3 => (some ((y3.1.1, ()), (), ()))) else (bif (decide (((a0.2.2.2.2.1.size : Nat) : Int) > 60)) then (F14.bind fun y4 => (some ((y4.1.1, ()), (), ()))) else (bif (decide (((a1.2.2.2.2.1.size : Nat) : Int) > 60)) then (F14.bind fun y5 => (some ((y5.1.1, ()), (), ()))) else ((F24 a0 255).bind fun y6 => ((F24 a1 255).bind fun y7 => ((F15 65536).bind fun y8 => ((F17w y6.1.1 y8.2.1.1.2.1 y8.2.1.1.2.2.1 y8.2.1.1.2.2.2.1 y8.2.1.1.2.2.2.2.1 y8.2.1.1.2.2.2.2.2.1).bind fun y9 => (Sum.elim (fun y10 => (bif (y10.1.1 != 0) then (some ((false, ()), (), ())) else ((F22m ((IntKind.wrap .i64 a2).tmod 6) (IntKind.wrap .i64 a3) y10.2.1.1.2.1 y10.2.1.1.2.2.1 y10.2.1.1.2.2.2.1 y10.2.1.1.2.2.2.2.1 y10.2.1.1.2.2.2.2.2.1 y10.2.1.2.2.1.2.1 y10.2.2.1).bind fun y11 => ((F17mT y7.1.1 y11.2.1.1.2.1 y11.2.1.1.2.2.1 y11.2.1.1.2.2.2.1 y11.2.1.1.2.2.2.2.1 y11.2.1.1.2.2.2.2.2.1 y11.2.1.2.2.1.2.1 y11.2.2.1).bind fun y12 => (Sum.elim (fun y13 => ((F31mn (IntKind.wrap .i64 a4) y13.2.1.1.2.1 y13.2.1.1.2.2.1 y13.2.1.1.2.2.2.1 y13.2.1.1.2.2.2.2.1 y13.2.1.1.2.2.2.2.2.1 y13.2.1.2.2.1.2.1 y13.2.2.1).bind fun y14 => ((F19n y14.2.1.1.2.1 y14.2.1.1.2.2.1 y14.2.1.1.2.2.2.1 y14.2.1.1.2.2.2.2.1 y14.2.1.1.2.2.2.2.2.1 y14.2.1.2.2.1.1 y14.2.1.2.2.1.2.1).bind fun y15 => (bif (y15.1.2.1 == 0) then (bif (y13.1.1 == 0) then ((F30 y15.1.1 y7.1.1).bind fun y16 => (bif y16.1.1 then (some ((true, ()), (), ())) else (bif (y13.1.1 == 7) then ((F30 y15.1.1 y6.1.1).bind fun y17 => (bif y17.1.1 then (some ((true, ()), (), ())) else ((F30 y15.1.1 y7.1.1).bind fun y18 => (some ((y18.1.1, ()), (), ()))))) else (some ((false, ()), (), ()))))) else (bif (y13.1.1 == 7) then ((F30 y15.1.1 y6.1.1).bind fun y19 => (bif y19.1.1 then (some ((true, ()), (), ())) else ((F30 y15.1.1 y7.1.1).bind fun y20 => (some ((y20.1.1, ()), (), ()))))) else (some ((false, ()), (), ())))) else (some ((false, ()), (), ())))))) (fun y13 => (Sum.elim (fun y21 => ((F31sv (IntKind.wrap .i64 a4) y21.2.1.1.2.1 y21.2.1.1.2.2.1 y21.2.1.1.2.2.2.1 y21.2.1.1.2.2.2.2.1 y21.2.1.1.2.2.2.2.2.1 y21.2.1.2.2.1.2.1 y21.2.1.2.2.2.1.2.1 y21.2.2.1 y21.2.2.2.1).bind fun y22 => ((F19v y22.2.1.1.2.1 y22.2.1.1.2.2.1 y22.2.1.1.2.2.2.1 y22.2.1.1.2.2.2.2.1 y22.2.1.1.2.2.2.2.2.1 y22.2.1.2.2.1.1 y22.2.1.2.2.1.2.1 y22.2.1.2.2.2.1.1 y22.2.1.2.2.2.1.2.1).bind fun y23 => (bif (y23.1.2.1 == 0) then (bif (y21.1.1 == 0) then ((F30 y23.1.1 y7.1.1).bind fun y24 => (bif y24.1.1 then (some ((true, ()), (), ())) else (bif (y21.1.1 == 7) then ((F30 y23.1.1 y6.1.1).bind fun y25 => (bif y25.1.1 then (some ((true, ()), (), ())) else ((F30 y23.1.1 y7.1.1).bind fun y26 => (some ((y26.1.1, ()), (), ()))))) else (some ((false, ()), (), ()))))) else (bif (y21.1.1 == 7) then ((F30 y23.1.1 y6.1.1).bind fun y27 => (bif y27.1.1 then (some ((true, ()), (), ())) else ((F30 y23.1.1 y7.1.1).bind fun y28 => (some ((y28.1.1, ()), (), ()))))) else (some ((false, ()), (), ())))) else (some ((false, ()), (), ())))))) (fun y21 => ((F31qu (IntKind.wrap .i64 a4) y21.2.1.1.2.1 y21.2.1.1.2.2.1 y21.2.1.1.2.2.2.1 y21.2.1.1.2.2.2.2.1 y21.2.1.1.2.2.2.2.2.1 y21.2.1.2.2.2.1.2.1 y21.2.2.2.1).bind fun y29 => ((F19u y29.2.1.1.2.1 y29.2.1.1.2.2.1 y29.2.1.1.2.2.2.1 y29.2.1.1.2.2.2.2.1 y29.2.1.1.2.2.2.2.2.1 y29.2.1.2.2.1.1 y29.2.1.2.2.1.2.1).bind fun y30 => (bif (y30.1.2.1 == 0) then (bif (y21.1.1 == 0) then ((F30 y30.1.1 y7.1.1).bind fun y31 => (bif y31.1.1 then (some ((true, ()), (), ())) else (bif (y21.1.1 == 7) then ((F30 y30.1.1 y6.1.1).bind fun y32 => (bif y32.1.1 then (some ((true, ()), (), ())) else ((F30 y30.1.1 y7.1.1).bind fun y33 => (some ((y33.1.1, ()), (), ()))))) else (some ((false, ()), (), ()))))) else (bif (y21.1.1 == 7) then ((F30 y30.1.1 y6.1.1).bind fun y34 => (bif y34.1.1 then (some ((true, ()), (), ())) else ((F30 y30.1.1 y7.1.1).bind fun y35 => (some ((y35.1.1, ()), (), ()))))) else (some ((false, ()), (), ())))) else (some ((false, ()), (), ())))))) y13)) y12))))) (fun y10 => (bif (y10.1.1 != 0) then (some ((false, ()), (), ())) else none)) y9)))))))))))
noncomputable def c7 : Con := ⟨i7, o7, fun x => F7 x.1.1 x.1.2.1 x.1.2.2.1 x.1.2.2.2.1 x.1.2.2.2.2.1⟩
theorem e7 (x : i7.E) : vfnA TP C7 CA7 LO7 Try.f7 b7 i7 o7 x = c7.F x := by kernel_rfl
theorem c7_ok : Con.OKA TP 7 c7 := (fn_okA C7_ok CA7_ok Try.func7 body7 (noL (by kernel_rfl)) i7 o7).congr fun x => (e7 x).symm
end Go.IM.V
namespace Go.IM.V
open Go Go.IM Go.Proofs
abbrev sD (fu to ac : Int) (off : Bool) : Unit × Int × Int × Int × Int × Bool × Unit := ((), 65536, fu, to, ac, off, ())
abbrev s1 (fu to ac : Int) (off : Bool) (s : Int) := (sD fu to ac off, (((), ()) : Unit × Unit), (((), s, ()) : Unit × Int × Unit), ())
abbrev s2 (fu to ac : Int) (off : Bool) (s t : Int) := (sD fu to ac off, (((), ()) : Unit × Unit), (((), s, ()) : Unit × Int × Unit), (((), t, ()) : Unit × Int × Unit), ())
abbrev a1 (ac : Int) : Int := IntKind.wrap .i64 (ac + 1)
abbrev f1 (fu : Int) : Int := IntKind.wrap .i64 (fu - 1)
theorem actm0 (to ac s : Int) (q : List Int) : F44m 65536 0 to ac false s q = some ((7, ()), s1 0 to (a1 ac) true s, (q, ())) := rfl
theorem actmS (fu to ac s : Int) (q : List Int) (h : 0 < fu) : F44m 65536 fu to ac false s q = some ((0, ()), s1 (f1 fu) to (a1 ac) false s, (q, ())) := by
 unfold F44m; rw [show ((fu : Int) == 0) = false by rw [beq_eq_false_iff_ne]; omega, decide_eq_true (show fu > 0 by omega)]; rfl
theorem actsS (fu to ac s t : Int) (q p : List Int) (h : 0 < fu) : F44s 65536 fu to ac false s t q p = some ((0, ()), s2 (f1 fu) to (a1 ac) false s t, (q, p, ())) := by
 unfold F44s; rw [show ((fu : Int) == 0) = false by rw [beq_eq_false_iff_ne]; omega, decide_eq_true (show fu > 0 by omega)]; rfl
theorem remM0 (to ac s : Int) (q : List Int) : F47m 65536 0 to ac false s q = some ((7, ()), s1 0 to (a1 ac) true s, (q, ())) := rfl
theorem remMS (fu to ac s : Int) (q : List Int) (h : 0 < fu) : F47m 65536 fu to ac false s q = some ((2, ()), s1 (f1 fu) to (a1 ac) false s, (q, ())) := by
 unfold F47m; rw [actmS _ _ _ _ _ h]; rfl
theorem writeM (fu to ac s : Int) (off : Bool) (q p : List Int) (h : p.length ≤ 65536) : F45ms p 65536 fu to ac off s q = some ((), s2 fu to ac off s 0, (q, p, ())) := by
 unfold F45ms; rw [decide_eq_true (by unfold lim; omega)]; rfl
theorem roomM (fu to ac s : Int) (off : Bool) (q : List Int) (h : q.length ≤ 2000) : F42m 65536 fu to ac off s q = some ((65536, ((q.length : Nat) : Int), ()), s1 fu to ac off s, (q, ())) := by
 unfold F42m; rw [w64 (by omega) (by omega), Int.zero_add]
theorem appM0 (to ac s : Int) (q p : List Int) (hq : q.length ≤ 2000) (hp : p.length ≤ 2000) (ht : 0 ≤ to) :
  (F18mT p 65536 0 to ac false s q = some (.inl ((7, ()), s1 0 to (a1 ac) true s, (q, ())))) ∨ ∃ p', p'.length ≤ 2000 ∧ F18mT p 65536 0 to ac false s q = some (.inr ((7, ()), s2 0 to (a1 ac) true s 0, (q, p', ()))) := by
 unfold F18mT; rw [nn_ok]; simp only [Option.bind_some, Bool.not_true, cond_false]; rw [roomM _ _ _ _ _ _ hq]; simp only [Option.bind_some]; rw [show F43m 65536 0 to ac false s q = some ((true, ()), s1 0 to ac false s, (q, ())) from rfl]; simp only [Option.bind_some]; rw [actm0]; simp only [Option.bind_some, show ((7 : Int) != 0) = true from rfl, cond_true]; by_cases h0 : to > 0
 ·rw [decide_eq_true h0]; simp only [cond_true]; have hm : (if (((p.length : Nat) : Int) : Int) < to then ((p.length : Nat) : Int) else to) = min to p.length := by split <;> omega
  rw [hm, w64 (n := ((q.length : Nat) : Int) + min to p.length) (by omega) (by omega), decide_eq_true (by omega), decide_eq_true (by omega)]; simp only [cond_true]; refine .inr ⟨p.take (min to p.length).toNat, by rw [List.length_take]; omega, ?_⟩
  rw [writeM _ _ _ _ _ _ _ (by rw [List.length_take]; omega)]
  rfl
 ·rw [decide_eq_false h0]; exact .inl rfl
theorem appMS (fu to ac s : Int) (q p : List Int) (hq : q.length ≤ 2000) (hp : p.length ≤ 2000) (h : 0 < fu) : F18mT p 65536 fu to ac false s q = some (.inr ((0, ()), s2 (f1 fu) to (a1 ac) false s 0, (q, p, ()))) := by
 unfold F18mT; rw [nn_ok]; simp only [Option.bind_some, Bool.not_true, cond_false]; rw [roomM _ _ _ _ _ _ hq]; simp only [Option.bind_some]; rw [show F43m 65536 fu to ac false s q = some ((true, ()), s1 fu to ac false s, (q, ())) from rfl]; simp only [Option.bind_some]; rw [actmS _ _ _ _ _ h]; simp only [Option.bind_some, bne_self_eq_false, cond_false]; rw [w64 (n := 65536 - ((q.length : Nat) : Int)) (by omega) (by omega), decide_eq_false (by omega)]
 simp only [cond_false]; rw [writeM _ _ _ _ _ _ _ (by omega)]; rfl
theorem syncS0 (to ac s t : Int) (q p : List Int) : F23s 65536 0 to ac false s t q p = some ((7, ()), s2 0 to (a1 ac) true s t, (q, p, ())) := rfl
theorem syncSS (fu to ac s t : Int) (q p : List Int) (h : 0 < fu) : F23s 65536 fu to ac false s t q p = some ((0, ()), s2 (f1 fu) to (a1 ac) false s ((p.length : Nat) : Int), (q, p, ())) := by
 unfold F23s; rw [actsS _ _ _ _ _ _ _ h]; rfl
theorem moveS0 (to ac s t : Int) (q p : List Int) : F50sT 65536 0 to ac false s t q p = some (.inl ((7, ()), s2 0 to (a1 ac) true s t, (q, p, ()))) := by
 unfold F50sT; rw [nm_ok]; rfl
theorem moveSS (fu to ac s t : Int) (q p : List Int) (h : 0 < fu) : F50sT 65536 fu to ac false s t q p = some (.inr ((0, ()), s2 (f1 fu) to (a1 ac) false s t, (q, p, ()))) := by
 unfold F50sT; rw [nm_ok]; simp only [Option.bind_some, Bool.not_true, cond_false]; rw [actsS _ _ _ _ _ _ _ h]; rfl
theorem L20m_one {x q : List Int} (hx : Bys x) (hl : x.length ≤ 2000) (hq : q.length ≤ 2000) : L20mT_7 [x] ((([x].length : Nat)) : Int) 0 q = some (.inr (((), ()), (), (q ++ rcd x, ()))) := by
 have hr := rcd_le x; have e1 : L20mT_7 [x] ((([x].length : Nat)) : Int) 1 (q ++ rcd x) = some (.inr (((), ()), (), (q ++ rcd x, ()))) := by
  rw [L20mT_7_eq]; unfold T20mT_7; rw [decide_eq_false (by simp)]; rfl
 rw [L20mT_7_eq]; unfold T20mT_7; rw [decide_eq_true (show (0 : Int) < (([x].length : Nat) : Int) by simp), decide_eq_true (show 0 ≤ (0 : Int) ∧ (0 : Int) < (([x].length : Nat) : Int) by simp)]; have e0 : [x].getD (0 : Int).toNat [] = x := rfl; rw [e0, decide_eq_false (by omega), F49_eq x hx (by omega)]; simp only [cond_true, cond_false, Option.bind_some]; rw [decide_eq_true (lt_lim (by omega)), show IntKind.wrap .i64 (0 + 1) = 1 from by decide +kernel]
 simp only [cond_true, Option.bind_some, Sum.elim_inl]; exact e1
theorem swap2 {t : Int × Int × Int × Unit} (h : TOK t) {x : List Int} (hx : Bys x) (hl : x.length ≤ 1000) {k to ac s : Int} {q : List Int} (hq : q.length ≤ 2000) (hk : 0 ≤ k) (hk5 : k ≤ 5) (ht : 0 ≤ to) :
  (∃ fu ac' off, F20mT t [x] 65536 k to ac false s q = some (.inl ((7, ()), s1 fu to ac' off s, (q, ())))) ∨
  (∃ fu ac' off s' p, 0 ≤ s' ∧ s' ≤ p.length ∧ p.length ≤ 2000 ∧ F20mT t [x] 65536 k to ac false s q = some (.inr (.inl ((7, ()), s2 fu to ac' off s s', (q, p, ()))))) ∨
  (∃ fu ac' off, F20mT t [x] 65536 k to ac false s q = some (.inr (.inr ((0, ()), s2 fu to ac' off s (((rcd (hdB t) ++ rcd x).length : Nat) : Int), (q, rcd (hdB t) ++ rcd x, ()))))) := by
 have h1 := rcd_le (hdB t); have h2 := rcd_le x; have h3 := hdB_len t; have hpl : (rcd (hdB t) ++ rcd x).length ≤ 2000 := by rw [List.length_append]; omega
 have eh : F48 (t.1, (t.2.1, (t.2.2.1, ()))) = some (ro (rcd (hdB t))) := F48_eq h; have eL := L20m_one (q := rcd (hdB t)) hx (by omega) (by omega); unfold F20mT; by_cases h0 : k = 0
 ·subst h0; rw [remM0]; exact .inl ⟨_, _, _, rfl⟩
 rw [remMS _ _ _ _ _ (by omega)]; simp only [Option.bind_some, show ((2 : Int) != 0) = true from rfl, cond_true, bne_self_eq_false, cond_false]; rw [eh]; simp only [Option.bind_some]; rw [eL]; simp only [Option.bind_some, Sum.elim_inr]; have hf : f1 k = k - 1 := w64 (by omega) (by omega); rw [hf]; by_cases hk1 : k = 1
 ·subst hk1; rw [show (1 : Int) - 1 = 0 from rfl]; rcases appM0 to (a1 ac) s q (rcd (hdB t) ++ rcd x) hq hpl ht with e | ⟨p', hp', e⟩
  ·rw [e]; exact .inl ⟨_, _, _, rfl⟩
  ·rw [e]; exact .inr (.inl ⟨_, _, _, 0, p', by omega, by omega, hp', rfl⟩)
 rw [appMS _ _ _ _ _ _ hq hpl (by omega)]; simp only [Option.bind_some, Sum.elim_inr, bne_self_eq_false, cond_false]; have hf2 : f1 (k - 1) = k - 2 := by rw [show f1 (k - 1) = k - 1 - 1 from w64 (by omega) (by omega)]; omega
 rw [hf2]; by_cases hk2 : k = 2
 ·subst hk2; rw [show (2 : Int) - 2 = 0 from rfl, syncS0]; exact .inr (.inl ⟨_, _, _, 0, _, by omega, by omega, hpl, rfl⟩)
 rw [syncSS _ _ _ _ _ _ _ (by omega)]; simp only [Option.bind_some, bne_self_eq_false, cond_false]; have hf3 : f1 (k - 2) = k - 3 := by rw [show f1 (k - 2) = k - 2 - 1 from w64 (by omega) (by omega)]; omega
 rw [hf3]; by_cases hk3 : k = 3
 ·subst hk3; rw [show (3 : Int) - 3 = 0 from rfl, moveS0]; exact .inr (.inl ⟨_, _, _, (((rcd (hdB t) ++ rcd x).length : Nat) : Int), rcd (hdB t) ++ rcd x, by omega, by omega, hpl, rfl⟩)
 rw [moveSS _ _ _ _ _ _ _ (by omega)]; exact .inr (.inr ⟨_, _, _, rfl⟩)
end Go.IM.V
namespace Go.IM.V
open Go Go.IM Go.Proofs
theorem L24_sml (n s t : Int) (fd : ByteArray) (n' s' t' : Int) (v' : List Int) (fd' : ByteArray) : ∀ (d k : Nat) (v : List Int), k + d = 65 → v.length ≤ 64 → Vok v → (∀ i, i < k → gv v i ≤ 9223372036854775807) →
  ∃ w, L24_6 (k : Nat) n s v t fd n' s' v' t' fd' = some ((), ((n, s, w, t, fd, ()), ((n', s', v', t', fd', ()), ())), ()) ∧ w.length ≤ 64 ∧ Sml w := by
 have fin : ∀ (k : Nat) (v : List Int), Vok v → v.length ≤ k → (∀ i, i < k → gv v i ≤ 9223372036854775807) → Sml v := by
  intro k v hv hk hs x hx; obtain ⟨i, hi, rfl⟩ := List.getElem_of_mem hx; have h1 := hs i (by omega); have h2 : gv v i = v[i] := by show v.getD i 0 = _; rw [List.getD_eq_getElem?_getD, List.getElem?_eq_getElem hi]; rfl
  rw [h2] at h1; exact ⟨(hv _ hx).1, h1⟩
 intro d; induction d with
 | zero =>
  intro k v hk hl hv hs; rw [L24_6_eq]; unfold T24_6; rw [decide_eq_false (show ¬ (k : Int) < ((v.length : Nat) : Int) by omega)]; exact ⟨v, rfl, hl, fin k v hv (by omega) hs⟩
 | succ d ih =>
  intro k v hk hl hv hs; rw [L24_6_eq]; unfold T24_6; by_cases h : (k : Int) < ((v.length : Nat) : Int)
  ·rw [decide_eq_true h, F55_nat]; simp only [cond_true, Option.bind_some]; rw [F54_eq v k _ (by omega) hl]; simp only [Option.bind_some, Sum.elim_inl]; rw [show IntKind.wrap .i64 ((k : Int) + 1) = ((k + 1 : Nat) : Int) by rw [w64 (by omega) (by omega)]; omega]
   have hg := hv.gv k; have hm : 0 ≤ (gv v k).tmod 4611686018427387904 ∧ (gv v k).tmod 4611686018427387904 < 4611686018427387904 := by
    rw [Int.tmod_eq_emod_of_nonneg hg.1]; omega
   refine ih (k + 1) _ (by omega) ?_ ((hv.set ⟨hm.1, by omega⟩ k).trim) (fun i hi => ?_)
   ·have := trim_le (v.set k ((gv v k).tmod 4611686018427387904))
    rw [List.length_set] at this; omega
   ·rw [gv_trim]; show (v.set k _).getD i 0 ≤ _; rw [List.getD_eq_getElem?_getD, List.getElem?_set]; by_cases hik : k = i
    ·subst hik; rw [if_pos rfl, if_pos (by omega)]; show (gv v k).tmod 4611686018427387904 ≤ _; omega
    ·rw [if_neg hik]; have := hs i (by omega)
     rw [← List.getD_eq_getElem?_getD]; exact this
  ·rw [decide_eq_false h]; exact ⟨v, rfl, hl, fin k v hv (by omega) hs⟩
theorem near_ok (m : DMf) (h : MTy m) : ∃ m', F24 (m.1, (m.2.1, (m.2.2.1, (m.2.2.2.1, (m.2.2.2.2.1, ()))))) 255 = some (r1 m') ∧ MOK m' := by
 show ∃ m', F24 m 255 = some (r1 m') ∧ MOK m'; unfold F24; rw [decide_eq_true (by decide)]; obtain ⟨w, h1, h2, h3⟩ := L24_sml (IntKind.wrap .i64 ((IntKind.wrap .u64 m.1).tmod 64)) (m.2.1.tmod 4611686018427387904) (m.2.2.2.1.tmod 4611686018427387904) m.2.2.2.2.1 0 0 0 ([] : List Int) ByteArray.empty 65 0 m.2.2.1 (by omega) h.fl h.f (fun i hi => absurd hi (Nat.not_lt_zero _)); rw [show ((0 : Nat) : Int) = 0 from rfl] at h1
 simp only [cond_true]; rw [h1]; simp only [Option.bind_some]; rw [F16_eq]; have hs : 0 ≤ m.2.1.tmod 4611686018427387904 ∧ m.2.1.tmod 4611686018427387904 ≤ 9223372036854775807 := by
  rw [Int.tmod_eq_emod_of_nonneg h.s0]; omega
 have ht : 0 ≤ m.2.2.2.1.tmod 4611686018427387904 ∧ m.2.2.2.1.tmod 4611686018427387904 ≤ 9223372036854775807 := by
  rw [Int.tmod_eq_emod_of_nonneg h.t0]; omega
 have hn : 0 ≤ IntKind.wrap .i64 ((IntKind.wrap .u64 m.1).tmod 64) ∧ IntKind.wrap .i64 ((IntKind.wrap .u64 m.1).tmod 64) ≤ 63 := by
  rw [wu64_mod, Int.tmod_eq_emod_of_nonneg (by omega), w64 (by omega) (by omega)]; omega
 cases hd : nmd m.2.2.2.2.1 with
 | true => exact ⟨_, rfl, ⟨hn.1, hn.2, hs.1, hs.2, h3, h2, ht.1, ht.2, .inr hd⟩⟩
 | false => exact ⟨_, rfl, ⟨hn.1, hn.2, hs.1, hs.2, h3, h2, ht.1, ht.2, .inl (by show isEmp (⟨#[]⟩ : ByteArray) = true; decide +kernel)⟩⟩
abbrev tA (A : DMf) : Int × Int × Int × Unit := (109, (A.1, (A.2.1, ())))
noncomputable def fileM (A : DMf) : List Int := rcd (hdB (tA A)) ++ rcd (encM A)
abbrev trM (A : DMf) : DMf := (A.1, A.2.1, trim A.2.2.1, A.2.2.2.1, A.2.2.2.2.1, ())
theorem tA_ok {A : DMf} (h : MOK A) : TOK (tA A) := by
 have := h.n0; have := h.n1; have := h.s0; have := h.s1
 exact ⟨by show (0 : Int) ≤ 109; decide, by show (109 : Int) < 256; decide, h.n0, by show A.1 < _; omega, h.s0, by show A.2.1 < _; omega⟩
theorem fileM_len {A : DMf} (h : MOK A) : (fileM A).length ≤ 2000 := by
 have hd := h.dl; have hl : (encM A).length ≤ 800 := encM_len A h (by omega); have h1 := rcd_le (hdB (tA A)); have h2 := rcd_le (encM A); have h3 := hdB_len (tA A); unfold fileM; rw [List.length_append]; omega
theorem write_one {A : DMf} (h : MOK A) : F17w (A.1, (A.2.1, (A.2.2.1, (A.2.2.2.1, (A.2.2.2.2.1, ()))))) 65536 (-1) 0 0 false = some (.inl ((0, ()), s1 (-1) 0 4 false (((fileM A).length : Nat) : Int), (fileM A, ()))) := by
 show F17w A 65536 (-1) 0 0 false = _; have hd := h.dl; have hsw : F200m (109, (A.1, (A.2.1, ()))) [encM A] 65536 (-1) 0 0 false = _ := swap_eq (tA_ok h) (encM_byte A h) (by have := encM_len A h (by omega); omega)
 have h21 : F21 (A.1, (A.2.1, (A.2.2.1, (A.2.2.2.1, (A.2.2.2.2.1, ()))))) = some (ro (encM A)) := F21_eq A h (by omega); have hn0 := h.n0; have hn1 := h.n1; unfold F17w; rw [decide_eq_false (by omega), decide_eq_false (by omega), wu64 hn0 (by omega)]; cases he : isEmp A.2.2.2.2.1 with
 | true =>
  have e : (A.2.2.2.2.1.toList == (⟨#[]⟩ : ByteArray).toList) = true := he; rw [e, h21]; simp only [Bool.not_true, cond_false, Option.bind_some, hsw]; rfl
 | false =>
  have e : (A.2.2.2.2.1.toList == (⟨#[]⟩ : ByteArray).toList) = false := he; have hn : nmd A.2.2.2.2.1 = true := by
   rcases h.d with h | h
   ·rw [he] at h; cases h
   ·exact h
  rw [e, F16_eq, hn, h21]; simp only [Bool.not_true, Bool.not_false, cond_false, cond_true, Option.bind_some, hsw]; rfl
theorem write_two {A : DMf} (h : MOK A) {k to ac s : Int} {q : List Int} (hq : q.length ≤ 2000) (hk : 0 ≤ k) (hk5 : k ≤ 5) (ht : 0 ≤ to) :
  (∃ fu ac' off, F17mT A 65536 k to ac false s q = some (.inl ((7, ()), s1 fu to ac' off s, (q, ())))) ∨
  (∃ fu ac' off s' p, 0 ≤ s' ∧ s' ≤ p.length ∧ p.length ≤ 2000 ∧ F17mT A 65536 k to ac false s q = some (.inr (.inl ((7, ()), s2 fu to ac' off s s', (q, p, ()))))) ∨
  (∃ fu ac' off, F17mT A 65536 k to ac false s q = some (.inr (.inr ((0, ()), s2 fu to ac' off s (((fileM A).length : Nat) : Int), (q, fileM A, ()))))) := by
 have hd := h.dl; have hsw := swap2 (tA_ok h) (encM_byte A h) (by have := encM_len A h (by omega); omega) (ac := ac) (s := s) hq hk hk5 ht
 have h21 : F21 (A.1, (A.2.1, (A.2.2.1, (A.2.2.2.1, (A.2.2.2.2.1, ()))))) = some (ro (encM A)) := F21_eq A h (by omega); have hn0 := h.n0; have hn1 := h.n1; have key : F17mT A 65536 k to ac false s q = (F20mT (109, (A.1, (A.2.1, ()))) [encM A] 65536 k to ac false s q).bind fun y => some y := by
  unfold F17mT; rw [decide_eq_false (by omega), decide_eq_false (by omega), wu64 hn0 (by omega)]; have e9 : ∀ (o : Option (o20mT).E), (o.bind fun y741 => (Sum.elim (fun y742 => (some (.inl ((y742.1.1, ()), (((), y742.2.1.1.2.1, y742.2.1.1.2.2.1, y742.2.1.1.2.2.2.1, y742.2.1.1.2.2.2.2.1, y742.2.1.1.2.2.2.2.2.1, ()), ((), ()), ((), y742.2.1.2.2.1.2.1, ()), ()), (y742.2.2.1, ()))))) (fun y742 => (Sum.elim (fun y743 => (some (.inr (.inl ((y743.1.1, ()), (((), y743.2.1.1.2.1, y743.2.1.1.2.2.1, y743.2.1.1.2.2.2.1, y743.2.1.1.2.2.2.2.1, y743.2.1.1.2.2.2.2.2.1, ()), ((), ()), ((), y743.2.1.2.2.1.2.1, ()), ((), y743.2.1.2.2.2.1.2.1, ()), ()), (y743.2.2.1, y743.2.2.2.1, ())))))) (fun y743 => (some (.inr (.inr ((y743.1.1, ()), (((), y743.2.1.1.2.1, y743.2.1.1.2.2.1, y743.2.1.1.2.2.2.1, y743.2.1.1.2.2.2.2.1, y743.2.1.1.2.2.2.2.2.1, ()), ((), ()), ((), y743.2.1.2.2.1.2.1, ()), ((), y743.2.1.2.2.2.1.2.1, ()), ()), (y743.2.2.1, y743.2.2.2.1, ())))))) y742)) y741)) = o.bind fun y => some y := by
   intro o; cases o with
   | none => rfl
   | some y => rcases y with y | y | y <;> rfl
  cases he : isEmp A.2.2.2.2.1 with
  | true =>
   have e : (A.2.2.2.2.1.toList == (⟨#[]⟩ : ByteArray).toList) = true := he; rw [e, h21]; simp only [Bool.not_true, cond_false, Option.bind_some]; exact e9 _
  | false =>
   have e : (A.2.2.2.2.1.toList == (⟨#[]⟩ : ByteArray).toList) = false := he; have hn : nmd A.2.2.2.2.1 = true := by
    rcases h.d with h | h
    ·rw [he] at h; cases h
    ·exact h
   rw [e, F16_eq, hn, h21]; simp only [Bool.not_true, Bool.not_false, cond_false, cond_true, Option.bind_some]; exact e9 _
 rw [key]; rcases hsw with ⟨fu, ac', off, e⟩ | ⟨fu, ac', off, s', p, h1, h2, h3, e⟩ | ⟨fu, ac', off, e⟩
 ·rw [show F20mT (109, (A.1, (A.2.1, ()))) [encM A] 65536 k to ac false s q = _ from e]; exact .inl ⟨fu, ac', off, rfl⟩
 ·rw [show F20mT (109, (A.1, (A.2.1, ()))) [encM A] 65536 k to ac false s q = _ from e]; exact .inr (.inl ⟨fu, ac', off, s', p, h1, h2, h3, rfl⟩)
 ·rw [show F20mT (109, (A.1, (A.2.1, ()))) [encM A] 65536 k to ac false s q = _ from e]; exact .inr (.inr ⟨fu, ac', off, rfl⟩)
theorem minK (keep : Int) (q : List Int) : (if (0 : Int) > (if ((((q).length : Nat) : Int) : Int) < keep then (((q).length : Nat) : Int) else keep) then 0 else (if ((((q).length : Nat) : Int) : Int) < keep then (((q).length : Nat) : Int) else keep)) = max (min keep q.length) 0 := by
 by_cases h1 : ((q.length : Nat) : Int) < keep
 ·rw [if_pos h1, if_neg (by omega)]; omega
 ·rw [if_neg h1]; split <;> omega
theorem topK (keep : Int) (q : List Int) : (if (((q.length : Nat) : Int) + max (min keep q.length) 0 : Int) < (((q).length : Nat) : Int) then ((q.length : Nat) : Int) + max (min keep q.length) 0 else (((q).length : Nat) : Int)) = ((q.length : Nat) : Int) := by
 split <;> omega
theorem crash_mn {keep r fu to ac s : Int} {off : Bool} {q : List Int} (hs : s = q.length) (hq : q.length ≤ 2000) :
  F31mn keep r fu to ac off s q = some ((), (((), r, (-1), 0, ac, false, ()), ((), ()), (q, ((q.length : Nat) : Int), ()), ()), ()) := by
 subst hs; have hm := minK keep q; have hn := topK keep q; unfold F31mn topL; rw [hm, w64 (n := ((q.length : Nat) : Int) + max (min keep q.length) 0) (by omega) (by omega)]; rw [hn, decide_eq_true (show 0 ≤ ((q.length : Nat) : Int) ∧ ((q.length : Nat) : Int) ≤ ((q.length : Nat) : Int) by omega), decide_eq_true (rfl : ((q.length : Nat) : Int) = ((q.length : Nat) : Int))]; simp
theorem crash_qu {keep r fu to ac s : Int} {off : Bool} {q : List Int} (hs : s = q.length) (hq : q.length ≤ 2000) :
  F31qu keep r fu to ac off s q = some ((), (((), r, (-1), 0, ac, false, ()), ((), ()), (q, ((q.length : Nat) : Int), ()), ()), ()) := by
 subst hs; have hm := minK keep q; have hn := topK keep q; unfold F31qu topL; rw [hm, w64 (n := ((q.length : Nat) : Int) + max (min keep q.length) 0) (by omega) (by omega)]; rw [hn, decide_eq_true (show 0 ≤ ((q.length : Nat) : Int) ∧ ((q.length : Nat) : Int) ≤ ((q.length : Nat) : Int) by omega), decide_eq_true (rfl : ((q.length : Nat) : Int) = ((q.length : Nat) : Int))]; simp
theorem both_self {ρ : Type} (a : Option ρ) : both a a = a := by unfold both; rw [if_pos rfl]
theorem crash_sv {keep r fu to ac s t : Int} {off : Bool} {q p : List Int} (hs : s = q.length) (hq : q.length ≤ 2000) (ht0 : 0 ≤ t) (ht : t ≤ p.length) (hp : p.length ≤ 2000) :
  ∃ p' t', F31sv keep r fu to ac off s t q p = some ((), (((), r, (-1), 0, ac, false, ()), ((), ()), (q, ((q.length : Nat) : Int), ()), (p', t', ()), ()), ()) := by
 subst hs; have hm := minK keep q; have hn := topK keep q; have hm2 := minK keep p; unfold F31sv topL; rw [hm, hm2, w64 (n := ((q.length : Nat) : Int) + max (min keep q.length) 0) (by omega) (by omega), w64 (n := t + max (min keep p.length) 0) (by omega) (by omega), hn]; have hT : 0 ≤ (if (t + max (min keep p.length) 0 : Int) < (((p).length : Nat) : Int) then t + max (min keep p.length) 0 else (((p).length : Nat) : Int)) ∧ (if (t + max (min keep p.length) 0 : Int) < (((p).length : Nat) : Int) then t + max (min keep p.length) 0 else (((p).length : Nat) : Int)) ≤ ((p.length : Nat) : Int) := by
  split <;> omega
 generalize (if (t + max (min keep p.length) 0 : Int) < (((p).length : Nat) : Int) then t + max (min keep p.length) 0 else (((p).length : Nat) : Int)) = T at hT ⊢; rw [decide_eq_true (show 0 ≤ ((q.length : Nat) : Int) ∧ ((q.length : Nat) : Int) ≤ ((q.length : Nat) : Int) by omega), decide_eq_true (rfl : ((q.length : Nat) : Int) = ((q.length : Nat) : Int)), decide_eq_true hT, decide_eq_true (rfl : T = T)]
 simp only [Bool.and_self, cond_true, both_self]; exact ⟨p.take T.toNat, T, by simp⟩
theorem read_u {r fu to ac s : Int} {q : List Int} (hq : q.length ≤ 100000) : F77u r fu to ac false q s = some ((q, (0, ())), (((), r, fu, to, ac, false, ()), ((), ()), (q, s, ()), ()), ()) := by
 unfold F77u F43u; simp only [Option.bind_some, Bool.not_false, Bool.not_true, cond_false, clone_all hq]
theorem read_v {r fu to ac s t : Int} {q p : List Int} (hq : q.length ≤ 100000) : F77v r fu to ac false q s p t = some ((q, (0, ())), (((), r, fu, to, ac, false, ()), ((), ()), (q, s, ()), (p, t, ()), ()), ()) := by
 unfold F77v F43v; simp only [Option.bind_some, Bool.not_false, Bool.not_true, cond_false, clone_all hq]
theorem F19n_ok {A : DMf} (h : MOK A) {r fu to ac s : Int} : F19n r fu to ac false (fileM A) s = some ((trM A, (0, ())), (((), r, fu, to, ac, false, ()), ((), ()), (fileM A, s, ()), ()), ()) := by
 have hb := encM_byte A h; have hd := h.dl; have hl : (encM A).length ≤ 800 := encM_len A h (by omega); have hT := tA_ok h; have h1 := rcd_le (hdB (tA A)); have h2 := rcd_le (encM A); have h3 := hdB_len (tA A); obtain ⟨n, h78⟩ := F78_hd hT hb (by omega); have hq : (fileM A).length ≤ 100000 := by unfold fileM; rw [List.length_append]; omega
 have h46 : F46n r fu to ac false (fileM A) s = some (((tA A, ([encM A], (n, (0, ())))), (0, ())), (((), r, fu, to, ac, false, ()), ((), ()), (fileM A, s, ()), ()), ()) := by
  have h78' : F78 (fileM A) = _ := h78
  unfold F46n; rw [read_n hq]; simp only [Option.bind_some, bne_self_eq_false, cond_false, h78']
 unfold F19n; rw [h46]; simp only [Option.bind_some]; rw [show ((0 : Int) == 2) = false from rfl, show ((0 : Int) == 7) = false from rfl, show ((0 : Int) != 0) = false from rfl]; simp only [cond_false]; rw [show ((((tA A).1 : Int)) != 109) = false from rfl, show ((([encM A].length : Nat) : Int) != 1) = false from rfl, decide_eq_true (show 0 ≤ (0 : Int) ∧ (0 : Int) < (([encM A].length : Nat) : Int) by simp), show [encM A].getD (0 : Int).toNat [] = encM A from rfl, F29_eq _ hb (by omega), decM_app A h]
 simp only [cond_true, cond_false, Option.bind_some, bne_self_eq_false]; rw [wu64 h.n0 (by have := h.n1; omega)]
 rw [show ((A.1 : Int) != (tA A).2.1) = false by show (A.1 != A.1) = false; simp]
 rfl
theorem F19u_ok {A : DMf} (h : MOK A) {r fu to ac s : Int} : F19u r fu to ac false (fileM A) s = some ((trM A, (0, ())), (((), r, fu, to, ac, false, ()), ((), ()), (fileM A, s, ()), ()), ()) := by
 have hb := encM_byte A h; have hd := h.dl; have hl : (encM A).length ≤ 800 := encM_len A h (by omega); have hT := tA_ok h; have h1 := rcd_le (hdB (tA A)); have h2 := rcd_le (encM A); have h3 := hdB_len (tA A); obtain ⟨n, h78⟩ := F78_hd hT hb (by omega); have hq : (fileM A).length ≤ 100000 := by unfold fileM; rw [List.length_append]; omega
 have h46 : F46u r fu to ac false (fileM A) s = some (((tA A, ([encM A], (n, (0, ())))), (0, ())), (((), r, fu, to, ac, false, ()), ((), ()), (fileM A, s, ()), ()), ()) := by
  have h78' : F78 (fileM A) = _ := h78
  unfold F46u; rw [read_u hq]; simp only [Option.bind_some, bne_self_eq_false, cond_false, h78']
 unfold F19u; rw [h46]; simp only [Option.bind_some]; rw [show ((0 : Int) == 2) = false from rfl, show ((0 : Int) == 7) = false from rfl, show ((0 : Int) != 0) = false from rfl]; simp only [cond_false]; rw [show ((((tA A).1 : Int)) != 109) = false from rfl, show ((([encM A].length : Nat) : Int) != 1) = false from rfl, decide_eq_true (show 0 ≤ (0 : Int) ∧ (0 : Int) < (([encM A].length : Nat) : Int) by simp), show [encM A].getD (0 : Int).toNat [] = encM A from rfl, F29_eq _ hb (by omega), decM_app A h]
 simp only [cond_true, cond_false, Option.bind_some, bne_self_eq_false]; rw [wu64 h.n0 (by have := h.n1; omega)]
 rw [show ((A.1 : Int) != (tA A).2.1) = false by show (A.1 != A.1) = false; simp]
 rfl
theorem F19v_ok {A : DMf} (h : MOK A) {r fu to ac s t : Int} {p : List Int} : F19v r fu to ac false (fileM A) s p t = some ((trM A, (0, ())), (((), r, fu, to, ac, false, ()), ((), ()), (fileM A, s, ()), (p, t, ()), ()), ()) := by
 have hb := encM_byte A h; have hd := h.dl; have hl : (encM A).length ≤ 800 := encM_len A h (by omega); have hT := tA_ok h; have h1 := rcd_le (hdB (tA A)); have h2 := rcd_le (encM A); have h3 := hdB_len (tA A); obtain ⟨n, h78⟩ := F78_hd hT hb (by omega); have hq : (fileM A).length ≤ 100000 := by unfold fileM; rw [List.length_append]; omega
 have h46 : F46v r fu to ac false (fileM A) s p t = some (((tA A, ([encM A], (n, (0, ())))), (0, ())), (((), r, fu, to, ac, false, ()), ((), ()), (fileM A, s, ()), (p, t, ()), ()), ()) := by
  have h78' : F78 (fileM A) = _ := h78
  unfold F46v; rw [read_v hq]; simp only [Option.bind_some, bne_self_eq_false, cond_false, h78']
 unfold F19v; rw [h46]; simp only [Option.bind_some]; rw [show ((0 : Int) == 2) = false from rfl, show ((0 : Int) == 7) = false from rfl, show ((0 : Int) != 0) = false from rfl]; simp only [cond_false]; rw [show ((((tA A).1 : Int)) != 109) = false from rfl, show ((([encM A].length : Nat) : Int) != 1) = false from rfl, decide_eq_true (show 0 ≤ (0 : Int) ∧ (0 : Int) < (([encM A].length : Nat) : Int) by simp), show [encM A].getD (0 : Int).toNat [] = encM A from rfl, F29_eq _ hb (by omega), decM_app A h]
 simp only [cond_true, cond_false, Option.bind_some, bne_self_eq_false]; rw [wu64 h.n0 (by have := h.n1; omega)]
 rw [show ((A.1 : Int) != (tA A).2.1) = false by show (A.1 != A.1) = false; simp]
 rfl
theorem arm_m {k to s : Int} {q : List Int} (ht : 0 ≤ to) : F22m k to 65536 (-1) 0 4 false s q = some ((), s1 k to 4 false s, (q, ())) := by
 unfold F22m; rw [if_neg (by omega)]
theorem manifestSwaps_pure (a0 a1 : DMf) (h0 : 0 ≤ a0.2.1 ∧ a0.2.1 < 18446744073709551616) (h0f : Vok a0.2.2.1) (h0t : 0 ≤ a0.2.2.2.1 ∧ a0.2.2.2.1 < 18446744073709551616) (h1 : 0 ≤ a1.2.1 ∧ a1.2.1 < 18446744073709551616) (h1f : Vok a1.2.2.1) (h1t : 0 ≤ a1.2.2.2.1 ∧ a1.2.2.2.1 < 18446744073709551616)
  (a2 a3 a4 : Int) (h2 : 0 ≤ a2 ∧ a2 < 256) (h3 : 0 ≤ a3 ∧ a3 < 256) : F7 a0 a1 a2 a3 a4 = some (r1 true) := by
 unfold F7 F14; simp only [Option.bind_some, Bool.not_true, cond_false]; by_cases g1 : ((a0.2.2.1.length : Nat) : Int) > 64
 ·rw [decide_eq_true g1]; rfl
 rw [decide_eq_false g1]; by_cases g2 : ((a1.2.2.1.length : Nat) : Int) > 64
 ·rw [decide_eq_true g2]; rfl
 rw [decide_eq_false g2]; by_cases g3 : ((a0.2.2.2.2.1.size : Nat) : Int) > 60
 ·rw [decide_eq_true g3]; rfl
 rw [decide_eq_false g3]; by_cases g4 : ((a1.2.2.2.2.1.size : Nat) : Int) > 60
 ·rw [decide_eq_true g4]; rfl
 rw [decide_eq_false g4]; simp only [cond_false]; obtain ⟨A, eA, hA⟩ := near_ok a0 ⟨h0.1, h0.2, h0f, by omega, h0t.1, h0t.2⟩; obtain ⟨C, eC, hC⟩ := near_ok a1 ⟨h1.1, h1.2, h1f, by omega, h1t.1, h1t.2⟩; rw [eA, eC]; simp only [Option.bind_some]; rw [dnew]; simp only [Option.bind_some]; rw [write_one hA]; simp only [Option.bind_some, Sum.elim_inl, bne_self_eq_false, cond_false]; have hl := fileM_len hA
 have hk : 0 ≤ (IntKind.wrap .i64 a2).tmod 6 ∧ (IntKind.wrap .i64 a2).tmod 6 ≤ 5 := by
  rw [w64 (by omega) (by omega), Int.tmod_eq_emod_of_nonneg h2.1]; omega
 have ht : 0 ≤ IntKind.wrap .i64 a3 := by rw [w64 (by omega) (by omega)]; omega
 rw [arm_m ht]; simp only [Option.bind_some]; have hw := write_two hC (k := (IntKind.wrap .i64 a2).tmod 6) (to := IntKind.wrap .i64 a3) (ac := 4) (s := (((fileM A).length : Nat) : Int)) hl hk.1 hk.2 ht; rcases hw with ⟨fu, ac', off, e⟩ | ⟨fu, ac', off, s', p, k1, k2, k3, e⟩ | ⟨fu, ac', off, e⟩
 ·rw [show F17mT (C.1, (C.2.1, (C.2.2.1, (C.2.2.2.1, (C.2.2.2.2.1, ()))))) 65536 _ _ 4 false _ _ = _ from e]; simp only [Option.bind_some, Sum.elim_inl]; rw [crash_mn rfl hl]; simp only [Option.bind_some]; rw [F19n_ok hA]; simp only [Option.bind_some, beq_self_eq_true, cond_true, show ((7 : Int) == 0) = false from rfl, cond_false]; have h30 : F30 ((trM A).1, ((trM A).2.1, ((trM A).2.2.1, ((trM A).2.2.2.1, ((trM A).2.2.2.2.1, ()))))) (A.1, (A.2.1, (A.2.2.1, (A.2.2.2.1, (A.2.2.2.2.1, ()))))) = some (r1 true) := F30_eq A hA
  rw [h30]; rfl
 ·rw [show F17mT (C.1, (C.2.1, (C.2.2.1, (C.2.2.2.1, (C.2.2.2.2.1, ()))))) 65536 _ _ 4 false _ _ = _ from e]; simp only [Option.bind_some, Sum.elim_inr, Sum.elim_inl]; obtain ⟨p', t', ec⟩ := crash_sv (keep := IntKind.wrap .i64 a4) (r := 65536) (fu := fu) (to := IntKind.wrap .i64 a3) (ac := ac') (off := off) (s := (((fileM A).length : Nat) : Int)) rfl hl k1 k2 k3; rw [ec]; simp only [Option.bind_some]
  rw [F19v_ok hA]; simp only [Option.bind_some, beq_self_eq_true, cond_true, show ((7 : Int) == 0) = false from rfl, cond_false]; have h30 : F30 ((trM A).1, ((trM A).2.1, ((trM A).2.2.1, ((trM A).2.2.2.1, ((trM A).2.2.2.2.1, ()))))) (A.1, (A.2.1, (A.2.2.1, (A.2.2.2.1, (A.2.2.2.2.1, ()))))) = some (r1 true) := F30_eq A hA; rw [h30]; rfl
 ·rw [show F17mT (C.1, (C.2.1, (C.2.2.1, (C.2.2.2.1, (C.2.2.2.2.1, ()))))) 65536 _ _ 4 false _ _ = _ from e]; simp only [Option.bind_some, Sum.elim_inr]; rw [crash_qu rfl (fileM_len hC)]; simp only [Option.bind_some]; rw [F19u_ok hC]; simp only [Option.bind_some, beq_self_eq_true, cond_true]; have h30 : F30 ((trM C).1, ((trM C).2.1, ((trM C).2.2.1, ((trM C).2.2.2.1, ((trM C).2.2.2.2.1, ()))))) (C.1, (C.2.1, (C.2.2.1, (C.2.2.2.1, (C.2.2.2.2.1, ()))))) = some (r1 true) := F30_eq C hC
  rw [h30]; rfl
end Go.IM.V