/- What the code of a law comes to, and what that tells: part 1. Lemmas alone; no conditions. -/
import Derived.Test.YtnhjgbjhpnekdaaProg
import Derived.KernelRfl
import Derived.Test.YtnhjgbjhpnekdaaImM5
/- The value machine, part x: contracts made of others: cells become a list; a buffer becomes a run; a run is lent. -/
set_option linter.unusedVariables false
set_option linter.unusedSimpArgs false
set_option linter.constructorNameAsVariable false
namespace Go.IM.V
open Go Go.IM

variable {P : Program} {m m1 : M} {S0 : Nat → Prop} {env env1 : Env} {X Y : Cx}

theorem repC_φ {p : Nat → Prop} {S1 : Nat → Prop} {c : Cl} {w : Value} (h : repC P X c w) : repC P { X with env := { X.env with φ := p }, S0 := S1 } c w := by cases c <;> exact h
theorem repCs_φ {p : Nat → Prop} {S1 : Nat → Prop} : ∀ {cs : List Cl} {ws : List Value}, repCs P X cs ws → repCs P { X with env := { X.env with φ := p }, S0 := S1 } cs ws := by
  intro cs
  induction cs with
  | nil => intro ws h; cases ws <;> exact h
  | cons c cs ih => intro ws h; cases ws with
    | nil => exact h
    | cons w ws => exact ⟨repC_φ h.1, ih h.2⟩
theorem repS_φ {p : Nat → Prop} {S1 : Nat → Prop} {s : V.S1} {w : Value} (h : repS P X s w) : repS P { X with env := { X.env with φ := p }, S0 := S1 } s w := by
  cases s with
  | x => trivial
  | s c => exact repC_φ (c := c) h
  | a cs => obtain ⟨b, h1, h2⟩ := h; exact ⟨b, h1, repCs_φ h2⟩
theorem repSlots_φ {p : Nat → Prop} {S1 : Nat → Prop} {av : Nat → Value} : ∀ {l : List (Nat × V.S1)}, repSlots P X av l → repSlots P { X with env := { X.env with φ := p }, S0 := S1 } av l := by
  intro l
  induction l with
  | nil => intro h; trivial
  | cons q l ih => intro h; exact ⟨repS_φ h.1, ih h.2⟩
theorem repSlots_le {X Y : Cx} (hle : CxLe X Y) {av : Nat → Value} : ∀ {l : List (Nat × S1)}, repSlots P X av l → repSlots P Y av l := by
  intro l
  induction l with
  | nil => intro _; trivial
  | cons p l ih => intro h; exact ⟨h.1.le hle, ih h.2⟩
/-- Where no box is handed over: it is as if nothing might be changed but what is not told here. -/
theorem start_nobox {t : Tm} (ht : t.bx = []) {x : t.E} (hT : RelT P (t.cx x S0 env m) (t.inst 0 x).bx) {S1 : Nat → Prop} (hS : ∀ i, S1 i → S0 i ∨ env.φ i) :
    RelT P (t.cx x S1 { env with φ := fun _ => False } m) (t.inst 0 x).bx ∧ (∀ i, ¬ Wb (t.cx x S1 { env with φ := fun _ => False } m) i) ∧
      ∀ {av : Nat → Value} {l : List (Nat × V.S1)}, repSlots P (t.cx x S0 env m) av l → repSlots P (t.cx x S1 { env with φ := fun _ => False } m) av l := by
  have hbx : (t.inst 0 x).bx = [] := by
    have h : (bxI id id t.bx x.2.1).length = 0 := by rw [bxI_len, ht]; rfl
    exact List.eq_nil_of_length_eq_zero h
  have hSle : ∀ i, (t.inst 0 x).S S1 { env with φ := fun _ => False } i → (t.inst 0 x).S S0 env i := by
    intro i w
    rcases w with w | ⟨j, hj, _⟩ | w
    · rcases hS i w with w | w
      · exact .inl w
      · exact .inr (.inr w)
    · rw [hbx] at hj; exact absurd hj (Nat.not_lt_zero _)
    · exact w.elim
  have hmono : Mono ((t.inst 0 x).S S0 env) m ((t.inst 0 x).S S1 { env with φ := fun _ => False }) m := fun i r hr hn => ⟨hr, fun w => hn (hSle i w)⟩
  have hnj : ∀ j, ¬ j < (t.inst 0 x).bx.length := fun j hj => by rw [hbx] at hj; exact Nat.not_lt_zero _ hj
  refine ⟨⟨hT.free, hT.bar, rfl, rfl, rfl, fun j hj => absurd hj (hnj j), fun i w => hT.slt i (hSle i w), fun j b hb => ?_, hT.bfd, fun j cs hcs => ?_, fun j j' hj => absurd hj (hnj j), fun i w => w.elim, fun j hj => absurd hj (hnj j), hT.rts, hT.unq⟩, fun i w => ?_, ?_⟩
  · exact BufOK.le (Wb := fun _ => False) (Wl := fun _ => False) (X := t.cx x S0 env m) (Y := t.cx x S1 { env with φ := fun _ => False } m) (Fr2.refl hT.free) hmono (fun _ w => w.elim) rfl (hT.bf j b hb) (fun _ _ _ w => w)
  · rw [hbx] at hcs; cases hcs
  · rcases w with ⟨j, hj, _⟩ | w
    · exact hnj j hj
    · exact w
  · intro av l h
    have hle : CxLe (t.cx x S0 env m) { t.cx x S1 { env with φ := fun _ => False } m with env := env, S0 := fun _ => False } :=
      ⟨hmono, Nat.le_refl _, fun _ _ => rfl, fun j b hb => ⟨b.live, hb, rfl⟩, fun _ _ h => h, fun _ _ _ h => h, fun _ w => w.elim, fun _ w => w, Nat.le_refl _, fun _ _ h => h⟩
    exact repSlots_φ (p := fun _ => False) (S1 := S1) (repSlots_le hle h)

/-! ### Cells become a list -/
def thTm (e : Ty) (n : Nat) : Tm := { sl := [(0, .sb (.l e) n 0)], bx := [(List.range n).map .o], bf := List.replicate n e }
def liTm (e : Ty) : Tm := { sl := [(0, .v (.l (.l e)))] }
def bfL {e : Ty} : (n : Nat) → BfE (List.replicate n e) → List (List e.El)
  | 0, _ => []
  | n + 1, x => x.1 :: bfL n x.2
theorem bfL_len {e : Ty} : ∀ {n : Nat} {x : BfE (List.replicate n e)}, (bfL n x).length = n
  | 0, _ => rfl
  | n + 1, x => by show (_ :: _).length = _; rw [List.length_cons, bfL_len]
theorem bfI_bfL {e : Ty} : ∀ {n : Nat} {x : BfE (List.replicate n e)} {k : Nat} {xs : List e.El}, (bfL n x)[k]? = some xs → (bfI (List.replicate n e) x)[k]? = some ⟨e, xs, true, false⟩
  | 0, _, _, _, h => by cases h
  | n + 1, x, 0, xs, h => by cases h; rfl
  | n + 1, x, k + 1, xs, h => bfI_bfL (n := n) (x := x.2) (k := k) h

theorem thaw {k : FuncId} {ins : Tm} (hi : ins.bx = []) (hf : ins.bf = []) {e : Ty} {n : Nat} (hn : 0 < n) {F : ins.E → Option (OT.ret (thTm e n)).E} (h : Con.OK P k ⟨ins, .ret (thTm e n), F⟩) :
    Con.OK P k ⟨ins, .ret (liTm e), fun x => (F x).map fun y => ((bfL n y.2.2, ()), (), ())⟩ := by
  intro x y2 hF S0 env m args hT hB hsl
  simp only [Option.map_eq_some_iff] at hF
  obtain ⟨y, hy, rfl⟩ := hF
  obtain ⟨hT', hW', hsl'⟩ := start_nobox hi hT (S1 := fun i => S0 i ∨ env.φ i) (fun _ w => w)
  obtain ⟨c, m1, env1, hcal, hend, v, rfl, hv⟩ := h x y hy _ _ m args hT' (fun i w => absurd w (hW' i)) (hsl' hsl)
  have hfr := hend.fr
  have hwl' : ∀ i, ¬ Wl (ins.cx x (fun i => S0 i ∨ env.φ i) { env with φ := fun _ => False } m) i := by
    rintro i ⟨j, b, hb, _⟩
    have hb' : (bfI ins.bf x.2.2)[j]? = some b := hb
    have : ∀ {l : List Ty} {z : BfE l}, l = [] → bfI l z = [] := by intro l z hl; subst hl; rfl
    rw [this hf] at hb'; cases hb'
  have hnxt : m.nxt ≤ m1.nxt := hfr.nxt
  have hS0 : ∀ i, S0 i ∨ env.φ i → i < m.nxt := fun i w => hT.slt i (w.elim .inl (fun w => .inr (.inr w)))
  -- the box
  have hbx0 : ((thTm e n).inst 0 y).bx[0]? = some ((List.range n).map .o) := by
    show (bxI id id [(List.range n).map Pt.o] y.2.1)[0]? = _
    have : ∀ (l : List Nat) (z : CeE (l.map Pt.o)), ceI id id (l.map Pt.o) z = l.map Cl.o := by
      intro l
      induction l with
      | nil => intro z; rfl
      | cons a l ih => intro z; show _ :: _ = _ :: _; rw [ih]; rfl
    show some (ceI id id ((List.range n).map Pt.o) y.2.1.1) = _
    rw [this]
  have hrun : isRun ((List.range n).map Cl.o) = false := by
    cases n with
    | zero => rfl
    | succ n => cases n with
      | zero => rfl
      | succ n => rw [List.range_succ_eq_map, List.range_succ_eq_map]; rfl
  have hhas : hasOf ((thTm e n).inst 0 y).bx 0 = true := (hasOf_get hbx0).trans (has1_cel hrun)
  obtain ⟨kb, cc, eo, fr, b1, b2, b3, b4, b5, b6⟩ := (hend.T.bx 0 _ hbx0).cel hrun
  obtain ⟨_, ⟨v1, v2⟩, v3⟩ := hv
  obtain ⟨v4, eo', v5, v6⟩ := v3 hhas
  have hrow : m1.row (env1.β 0) = some (cc, eo) := row_of b1 b2
  have hty : eo' = eo := by
    have h5 : m1.typ (env1.β 0) = some eo' := v5
    unfold M.typ at h5
    have h7 : m1.get (env1.β 0) = some kb := alive_get b1
    rw [h7] at h5
    have h6 : otyp kb.obj = some eo' := h5
    rw [b2] at h6; cases h6; rfl
  subst hty
  have hβ : m.nxt ≤ env1.β 0 := by
    rcases hend.wb (env1.β 0) (.inl ⟨0, by show 0 < ((thTm e n).inst 0 y).bx.length; exact lt_of_get hbx0, hhas, rfl⟩) with w | w
    · exact absurd w (hW' _)
    · exact w
  have hS1 : ∀ i, S0 i ∨ env.φ i → ((thTm e n).inst 0 y).S (fun i => S0 i ∨ env.φ i) env1 i := fun i w => .inl w
  let env2 : Env := { τ := fun _ => none, β := fun _ => 0, φ := env.φ }
  let t2 : Tm := liTm e
  let y2 : t2.E := ((bfL n y.2.2, ()), (), ())
  have hS2 : ∀ i, (t2.inst 0 y2).S S0 env2 i → S0 i ∨ env.φ i := by
    intro i w
    rcases w with w | ⟨j, hj, _⟩ | w
    · exact .inl w
    · exact absurd hj (Nat.not_lt_zero _)
    · exact .inr w
  refine ⟨.ret v, m1, env2, hcal, ⟨hfr.mono (fun i w => absurd w (hW' i)) (fun i w => absurd w (hwl' i)), ⟨hend.T.free, hend.T.bar, rfl, rfl, rfl, fun j hj => absurd hj (Nat.not_lt_zero _), fun i w => Nat.lt_of_lt_of_le (hS0 i (hS2 i w)) hnxt, fun j b hb => (by cases hb), fun j j' b b' i hb => (by cases hb), fun j cs hcs => (by cases hcs), fun j j' hj => absurd hj (Nat.not_lt_zero _), fun i w => .inr (.inr w), fun j hj => absurd hj (Nat.not_lt_zero _), hend.T.rts, hend.T.unq⟩,
    fun j hj => ?_, fun i w => ?_, fun i w => ?_, fun j hj => ?_, fun j L hj => ?_, fun i w => w⟩, v, rfl, ?_⟩
  · have : (ins.inst 0 x).bx.length = 0 := by show (bxI id id ins.bx x.2.1).length = 0; rw [bxI_len, hi]; rfl
    exact absurd (show j < (ins.inst 0 x).bx.length from hj) (by omega)
  · rcases w with ⟨j, hj, _⟩ | w
    · exact absurd hj (Nat.not_lt_zero _)
    · exact .inl (.inr w)
  · obtain ⟨j, b, hb, _⟩ := w; cases hb
  · have : (ins.inst 0 x).bx.length = 0 := by show (bxI id id ins.bx x.2.1).length = 0; rw [bxI_len, hi]; rfl
    exact absurd (show j < (ins.inst 0 x).bx.length from hj) (by omega)
  · have : (ins.inst 0 x).bx.length = 0 := by show (bxI id id ins.bx x.2.1).length = 0; rw [bxI_len, hi]; rfl
    exact absurd (show j < (ins.inst 0 x).bx.length from hj) (by omega)
  · -- what comes back
    have hmono : Mono (((thTm e n).inst 0 y).S (fun i => S0 i ∨ env.φ i) env1) m1 ((t2.inst 0 y2).S S0 env2) m1 := fun i r hr hn => ⟨hr, fun w => hn (hS1 i (hS2 i w))⟩
    show repL P ((t2.inst 0 y2).S S0 env2) m1 (Ty.l e).n (repE P ((t2.inst 0 y2).S S0 env2) m1 (.l e)) (bfL n y.2.2) v
    have hlen : (bfL n y.2.2).length = n := bfL_len
    have hcc : cc.size = n := by
      have := repCs_len b6
      simp at this
      exact this.symm
    refine .inr ⟨env1.β 0, 0, none, n, ?_, Nat.le_of_eq hlen, .inr ⟨cc, eo', hrow, fun w => ?_, v6, ?_, fun q xs hq => ?_⟩⟩
    · exact v4.trans (congrArg (fun q => Value.slice (some ⟨env1.β 0, 0, none⟩) q n) hlen.symm)
    · have := hS0 _ (hS2 _ w); omega
    · exact Nat.le_trans (Nat.le_of_eq (by rw [Nat.zero_add]; exact (Nat.mul_one _).trans hlen)) (Nat.le_of_eq hcc.symm)
    · have hqn : q < n := Nat.lt_of_lt_of_eq (lt_of_get hq) hlen
      obtain ⟨w, hw, hwr⟩ := repCs_get b6 (k := q) (c := .o q) (by rw [List.getElem?_map, List.getElem?_range hqn]; rfl)
      have hex : (cc.extract (0 + q * (Ty.l e).n) (0 + q * (Ty.l e).n + (Ty.l e).n)).toList = [w] := by
        show (cc.extract (0 + q * 1) (0 + q * 1 + 1)).toList = [w]
        apply List.ext_getElem?
        intro r
        rw [Array.getElem?_toList, Array.getElem?_extract]
        rw [Array.getElem?_toList] at hw
        by_cases hr : r < 1
        · obtain rfl : r = 0 := by omega
          rw [if_pos (by omega)]
          simpa using hw
        · rw [if_neg (by omega), List.getElem?_eq_none (by simp; omega)]
      rw [hex]
      refine ⟨w, rfl, ?_⟩
      obtain ⟨b, hb, hbw⟩ := hwr
      have hb' : (bfI (List.replicate n e) y.2.2)[q]? = some b := hb
      rw [bfI_bfL hq] at hb'
      cases hb'
      have := buf_repL (hend.T.bf q _ hb) hbw
      exact repL.mono (P := P) (n := e.n) hmono (fun _ _ z => repE.mono hmono z) this

/-! ### A buffer becomes a run -/
def hoIn (k : IntKind) : Tm := { sl := [(0, .o 0)], bf := [.i k] }
def hoTm (k : IntKind) : Tm := { sl := [(0, .m (.i k) 0)], bx := [[.r (.i k)]] }
theorem BufOK.at {X : Cx} {j i : Nat} {b : Bf} (h : BufOK P X j b) (hi : X.env.τ j = some i) : 0 < b.e.n ∧ ¬ X.S i ∧ ∃ k c e fr, X.m.alive i = some k ∧ k.obj = .cells c e fr ∧ P.cellsOf e = b.e.n ∧ k.ro = false ∧ c.size = b.xs.length * b.e.n ∧
      (∀ (q : Nat) (x : b.e.El), b.xs[q]? = some x → repE P X.S X.m b.e x (c.extract (q * b.e.n) (q * b.e.n + b.e.n)).toList) ∧ (b.live = true → k.sup = false ∧ k.root ≤ X.m.nxt) := by
  obtain ⟨h1, h2⟩ := h
  rw [hi] at h2
  exact ⟨h1, h2⟩
theorem BufOK.nil {X : Cx} {j : Nat} {b : Bf} (h : BufOK P X j b) (hi : X.env.τ j = none) : b.cap = false → b.xs = [] := by
  obtain ⟨h1, h2⟩ := h
  rw [hi] at h2
  exact h2
theorem bufW_at {X : Cx} {b : Bf} {i : Nat} {w : Value} (h : bufW P X b (some i) w) : w = .slice (some ⟨i, 0, none⟩) b.xs.length b.xs.length := h
theorem heat {k : FuncId} {ins : Tm} (hi : ins.bx = []) (hf : ins.bf = []) {ik : IntKind} {F : ins.E → Option (OT.ret (hoIn ik)).E} (h : Con.OK P k ⟨ins, .ret (hoIn ik), F⟩) :
    Con.OK P k ⟨ins, .ret (hoTm ik), fun x => (F x).bind fun y => bif List.isEmpty (α := Int) y.2.2.1 then none else some (((), ()), (((y.2.2.1, ()), ()), ()))⟩ := by
  intro x y2 hF S0 env m args hT hB hsl
  simp only [Option.bind_eq_some_iff] at hF
  obtain ⟨y, hy, hF⟩ := hF
  cases hxe : List.isEmpty (α := Int) y.2.2.1 with
  | true => rw [hxe] at hF; cases hF
  | false =>
  rw [hxe] at hF
  simp only [cond_false, Option.some.injEq] at hF
  subst hF
  have hne : (y.2.2.1 : List Int) ≠ [] := fun q => by rw [show (y.2.2.1 : List Int) = [] from q] at hxe; cases hxe
  obtain ⟨hT', hW', hsl'⟩ := start_nobox hi hT (S1 := fun i => S0 i ∨ env.φ i) (fun _ w => w)
  obtain ⟨c, m1, env1, hcal, hend0, v, rfl, hv0⟩ := h x _ hy _ _ m args hT' (fun i w => absurd w (hW' i)) (hsl' hsl)
  have hend : Ended P (ins.cx x (fun i => S0 i ∨ env.φ i) { env with φ := fun _ => False } m) (fun i => S0 i ∨ env.φ i) env1 m1 (hoIn ik) y := hend0
  have hv : repC P ((hoIn ik).cx y (fun i => S0 i ∨ env.φ i) env1 m1) (.o 0) v := hv0
  clear hend0 hv0
  have hwl' : ∀ i, ¬ Wl (ins.cx x (fun i => S0 i ∨ env.φ i) { env with φ := fun _ => False } m) i := by
    rintro i ⟨j, b, hb, _⟩
    have hb' : (bfI ins.bf x.2.2)[j]? = some b := hb
    have : ∀ {l : List Ty} {z : BfE l}, l = [] → bfI l z = [] := by intro l z hl; subst hl; rfl
    rw [this hf] at hb'; cases hb'
  have hfr0 : Fr2 (fun _ => False) (fun _ => False) m m1 := hend.fr.mono (fun i w => hW' i w) (fun i w => absurd w (hwl' i))
  have hnxt : m.nxt ≤ m1.nxt := hfr0.nxt
  have hS0 : ∀ i, S0 i ∨ env.φ i → i < m.nxt := fun i w => hT.slt i (w.elim .inl (fun w => .inr (.inr w)))
  -- the buffer
  obtain ⟨b, hb, hbw⟩ := hv
  have hbe : b = ⟨.i ik, y.2.2.1, true, false⟩ := by
    have hb1 : (bfI [Ty.i ik] y.2.2)[0]? = some b := hb
    simp only [bfI, List.getElem?_cons_zero, Option.some.injEq] at hb1
    exact hb1.symm
  subst hbe
  have hB0 := hend.T.bf 0 _ hb
  cases hτ : env1.τ 0 with
  | none => exact absurd (hB0.nil hτ rfl) hne
  | some i =>
  obtain ⟨hpos, hSi, kb, cc, eo, fr, b1, b2, b3, b4, b5, b6, b7⟩ := hB0.at hτ
  obtain ⟨b8, b9⟩ := b7 rfl
  have hw : v = .slice (some ⟨i, 0, none⟩) (List.length (α := Int) y.2.2.1) (List.length (α := Int) y.2.2.1) := by
    have : bufW P ((hoIn ik).cx y (fun i => S0 i ∨ env.φ i) env1 m1) ⟨.i ik, y.2.2.1, true, false⟩ (some i) v := by rw [← hτ]; exact hbw
    exact this
  have hilt : i < m1.nxt := alive_lt hfr0.free b1
  have hin : m.nxt ≤ i := by
    rcases hend.wl i ⟨0, _, hb, rfl, hτ⟩ with w | w | w
    · exact absurd w (hwl' i)
    · exact absurd w (hW' i)
    · exact w
  have hgi : m1.get i = some kb := alive_get b1
  have hrn : m.nxt ≤ kb.root := by
    rcases hfr0.new i kb hgi hin with w | ⟨_, _, _, w, _⟩
    · exact w
    · exact w.elim id id |>.elim
  have hfam : ∀ j b, m1.get j = some b → b.root = kb.root → m.nxt ≤ j := by
    intro j b hj hr
    rcases Nat.lt_or_ge j m.nxt with q | q
    · obtain ⟨b0, g1, g2, _⟩ := hfr0.old j b hj q
      rcases g2 with g2 | ⟨_, _, g2⟩
      · have := hT.rts.lt hT.free g1
        have h3 : b0.root < m.nxt := this
        omega
      · exact g2.elim
    · exact q
  let eld : Nat → Prop := fun j => j ≠ i ∧ ∃ b, m1.get j = some b ∧ b.root = kb.root
  let env2 : Env := { τ := fun _ => none, β := fun _ => i, φ := fun j => env.φ j ∨ eld j }
  let t2 : Tm := hoTm ik
  let y2 : t2.E := (((), ()), (((y.2.2.1, ()), ()), ()))
  have hbx : (t2.inst 0 y2).bx = [[.r false (.i ik) y.2.2.1]] := rfl
  have hhas : ∀ j, j < 1 → hasOf (t2.inst 0 y2).bx j = true := by
    intro j hj
    obtain rfl : j = 0 := by omega
    exact (hasOf_get (bx := (t2.inst 0 y2).bx) (j := 0) rfl).trans (has1_run (e := .i ik) hne)
  have hS2 : ∀ q, (t2.inst 0 y2).S S0 env2 q → (S0 q ∨ env.φ q) ∨ q = i ∨ eld q := by
    intro q w
    rcases w with w | ⟨_, _, _, w⟩ | w | w
    · exact .inl (.inl w)
    · exact .inr (.inl w.symm)
    · exact .inl (.inr w)
    · exact .inr (.inr w)
  have hXnb : ∀ j, ¬ j < (ins.inst 0 x).bx.length := by
    intro j hj
    have : (ins.inst 0 x).bx.length = 0 := by show (bxI id id ins.bx x.2.1).length = 0; rw [bxI_len, hi]; rfl
    omega
  refine ⟨.ret v, m1, env2, hcal, ⟨hfr0.mono (fun _ w => w.elim) (fun _ w => w.elim), ⟨hfr0.free, hend.T.bar, rfl, rfl, rfl, fun j hj hh => .inr (.inl ⟨j, hj, hh, rfl⟩), fun q w => ?_, fun j b hb => (by cases hb), fun j j' b b' i hb => (by cases hb), fun j cs hcs => ?_, fun j j' hj hj' _ _ _ => ?_, fun q w => .inr (.inr w), fun j hj hh w => ?_, hend.T.rts, hend.T.unq⟩,
    fun j hj => absurd hj (hXnb j), fun q w => ?_, fun q w => ?_, fun j hj => absurd hj (hXnb j), fun j L hj => absurd hj (hXnb j), fun q w => .inl w⟩, v, rfl, ?_⟩
  · rcases hS2 q w with w | rfl | ⟨_, b, w, _⟩
    · exact Nat.lt_of_lt_of_le (hS0 q w) hnxt
    · exact hilt
    · exact get_lt hfr0.free w
  · have hj0 : j = 0 := by
      have : j < 1 := lt_of_get (l := (t2.inst 0 y2).bx) hcs
      omega
    subst hj0
    have hcs' : some [Cl.r false (.i ik) y.2.2.1] = some cs := hcs
    cases hcs'
    refine ⟨⟨hpos, fun _ => ⟨kb, cc, eo, fr, b1, b2, b4, b8, ⟨b9, fun q => by cases q⟩, fun _ => b3, b5, fun q z hz => ?_, ?_, fun j b hj hr => ?_⟩⟩, fun q => by cases q⟩
    · exact b6 q z hz
    · exact hend.T.rts i kb hgi
    · by_cases hji : j = i
      · exact .inl hji
      · refine .inr ⟨.inr ⟨hji, b, hj, hr⟩, ?_⟩
        cases hs : b.sup with
        | true => rfl
        | false => exact absurd (hend.T.unq.one j i b kb hj hgi hr hs b8) hji
  · have h1 : j < 1 := hj
    have h2 : j' < 1 := hj'
    omega
  · rcases w with w | ⟨w, _⟩
    · have h2 := hS0 i (.inr w)
      omega
    · exact w rfl
  · rcases w with ⟨j, hj, _, w⟩ | w | ⟨_, b, w, hr⟩
    · right
      have hw : i = q := w
      show m.nxt ≤ q
      omega
    · exact .inl (.inr w)
    · exact .inr (hfam q b w hr)
  · obtain ⟨j, b, hb, _⟩ := w; cases hb
  · refine ⟨Nat.zero_lt_one, ⟨by rw [hw]; rfl, by rw [hw]; exact .inr hilt⟩, fun L hL => ?_⟩
    have hL' : some (List.length (α := Int) y.2.2.1) = some L := hL
    cases hL'
    refine ⟨fun q => absurd (List.eq_nil_of_length_eq_zero q) hne, fun _ => hw⟩
end Go.IM.V

/- MatrixRises: what the code comes to. -/
set_option linter.unusedVariables false
set_option linter.constructorNameAsVariable false
namespace Go.IM.V
open Go Go.IM Go.Proofs

noncomputable def l11f_4 : Code := (.seq (.seq (.region 4 (regOf Try.f11 4) false) (.cond (.tmp 21) .skip (.exit 0))) (.seq (.block 1 (.seq (.region 6 (regOf Try.f11 6) false) (.seq (.region 7 (regOf Try.f11 7) true) (.seq (.region 8 (regOf Try.f11 8) true) (.seq (.seq (.region 9 (regOf Try.f11 9) false) (.cond (.tmp 78) (.region 10 (regOf Try.f11 10) false) .skip)) (.seq (.seq (.region 11 (regOf Try.f11 11) false) (.cond (.tmp 90) (.region 12 (regOf Try.f11 12) false) .skip)) (.region 13 (regOf Try.f11 13) true))))))) (.region 5 (regOf Try.f11 5) false)))
noncomputable def b11f : Code := (.seq (.region 0 (regOf Try.f11 0) false) (.seq (.region 1 (regOf Try.f11 1) false) (.seq (.region 2 (regOf Try.f11 2) false) (.seq (.seq (.region 3 (regOf Try.f11 3) false) (.block 0 (.loop l11f_4))) (.seq (.region 14 (regOf Try.f11 14) false) .ret)))))
theorem body11f : Try.f11.body = some b11f := by kernel_rfl
noncomputable def C11f_4 : Tab := [(900013, cHot), (600011, cHot), (1000400030, cHot)]
theorem C11f_4_ok : TabOK Try.prog C11f_4 := ⟨cHot_ok, cHot_ok, cHot_ok, trivial⟩
noncomputable def LO11f_4 : Tab := []
noncomputable def i11f_4 : Tm := { sl := [(0, .v (.l (.i .u16))), (1, .v (.i .i64)), (5, .sb (.l (.p (.i .i64) (.p (.i .u64) (.p (.i .u64) (.p (.i .u8) (.p .s (.p (.l (.i .u8)) (.p (.f .f64) (.p (.i .i64) .u))))))))) 4 0), (6, .m (.i .u64) 1), (7, .v (.i .i64))], bx := [[.o 0, .o 1, .o 2, .o 3], [.r (.i .u64)]], bf := [(.p (.i .i64) (.p (.i .u64) (.p (.i .u64) (.p (.i .u8) (.p .s (.p (.l (.i .u8)) (.p (.f .f64) (.p (.i .i64) .u)))))))), (.p (.i .i64) (.p (.i .u64) (.p (.i .u64) (.p (.i .u8) (.p .s (.p (.l (.i .u8)) (.p (.f .f64) (.p (.i .i64) .u)))))))), (.p (.i .i64) (.p (.i .u64) (.p (.i .u64) (.p (.i .u8) (.p .s (.p (.l (.i .u8)) (.p (.f .f64) (.p (.i .i64) .u)))))))), (.p (.i .i64) (.p (.i .u64) (.p (.i .u64) (.p (.i .u8) (.p .s (.p (.l (.i .u8)) (.p (.f .f64) (.p (.i .i64) .u))))))))] }
noncomputable def o11f_4 : OT := (.exit 0 { sl := [], bx := [[.o 0, .o 1, .o 2, .o 3], [.r (.i .u64)]], bf := [(.p (.i .i64) (.p (.i .u64) (.p (.i .u64) (.p (.i .u8) (.p .s (.p (.l (.i .u8)) (.p (.f .f64) (.p (.i .i64) .u)))))))), (.p (.i .i64) (.p (.i .u64) (.p (.i .u64) (.p (.i .u8) (.p .s (.p (.l (.i .u8)) (.p (.f .f64) (.p (.i .i64) .u)))))))), (.p (.i .i64) (.p (.i .u64) (.p (.i .u64) (.p (.i .u8) (.p .s (.p (.l (.i .u8)) (.p (.f .f64) (.p (.i .i64) .u)))))))), (.p (.i .i64) (.p (.i .u64) (.p (.i .u64) (.p (.i .u8) (.p .s (.p (.l (.i .u8)) (.p (.f .f64) (.p (.i .i64) .u))))))))] })
noncomputable def T11f_4 (a0 : (List Int)) (a1 : Int) (a7 : Int) (b1_0 : (List Int)) (q0 : (List (Int × (Int × (Int × (Int × (ByteArray × ((List Int) × (Nat × (Int × Unit)))))))))) (q1 : (List (Int × (Int × (Int × (Int × (ByteArray × ((List Int) × (Nat × (Int × Unit)))))))))) (q2 : (List (Int × (Int × (Int × (Int × (ByteArray × ((List Int) × (Nat × (Int × Unit)))))))))) (q3 : (List (Int × (Int × (Int × (Int × (ByteArray × ((List Int) × (Nat × (Int × Unit)))))))))) : Option ((((List Int) × (Int × (Unit × (Unit × (Int × Unit))))) × ((Unit × (Unit × (Unit × (Unit × Unit)))) × (((List Int) × Unit) × Unit)) × ((List (Int × (Int × (Int × (Int × (ByteArray × ((List Int) × (Nat × (Int × Unit))))))))) × ((List (Int × (Int × (Int × (Int × (ByteArray × ((List Int) × (Nat × (Int × Unit))))))))) × ((List (Int × (Int × (Int × (Int × (ByteArray × ((List Int) × (Nat × (Int × Unit))))))))) × ((List (Int × (Int × (Int × (Int × (ByteArray × ((List Int) × (Nat × (Int × Unit))))))))) × Unit))))) ⊕ (Unit × ((Unit × (Unit × (Unit × (Unit × Unit)))) × (((List Int) × Unit) × Unit)) × ((List (Int × (Int × (Int × (Int × (ByteArray × ((List Int) × (Nat × (Int × Unit))))))))) × ((List (Int × (Int × (Int × (Int × (ByteArray × ((List Int) × (Nat × (Int × Unit))))))))) × ((List (Int × (Int × (Int × (Int × (ByteArray × ((List Int) × (Nat × (Int × Unit))))))))) × ((List (Int × (Int × (Int × (Int × (ByteArray × ((List Int) × (Nat × (Int × Unit))))))))) × Unit)))))) :=
  (bif (decide ((a7 : Int) < (((a0).length : Nat) : Int))) then (bif (decide ((a7 : Int) < 60)) then (bif (decide (0 ≤ (a7 : Int) ∧ (a7 : Int) < (((a0).length : Nat) : Int))) then (bif (decide ((a1 : Int) ≠ 0)) then (bif (decide (((((IntKind.wrap .i64 ((a0).getD (a7 : Int).toNat (0 : Int))) : Int).tmod a1) : Int) = 0)) then (bif (decide (0 ≤ (0 : Int) ∧ (0 : Int) < (((b1_0).length : Nat) : Int))) then (bif (decide ((0 : Int).toNat < (b1_0).length)) then (bif (decide (0 ≤ (a7 : Int) ∧ (a7 : Int) < (((a0).length : Nat) : Int))) then (bif (decide (0 ≤ (0 : Int) ∧ (0 : Int) < (((b1_0).length : Nat) : Int))) then (bif (decide ((0 : Int).toNat < (b1_0).length)) then (bif (decide (0 ≤ (0 : Int) ∧ (0 : Int) < (((((b1_0).set (0 : Int).toNat (IntKind.wrap .u64 (((b1_0).getD (0 : Int).toNat (0 : Int)) + (IntKind.wrap .u64 (1 + (((IntKind.wrap .u64 (IntKind.wrap .u16 ((((a0).getD (a7 : Int).toNat (0 : Int)) : Int).tdiv 16))) : Int).tmod 4))))))).length : Nat) : Int))) then (bif (decide ((0 : Int).toNat < (((b1_0).set (0 : Int).toNat (IntKind.wrap .u64 (((b1_0).getD (0 : Int).toNat (0 : Int)) + (IntKind.wrap .u64 (1 + (((IntKind.wrap .u64 (IntKind.wrap .u16 ((((a0).getD (a7 : Int).toNat (0 : Int)) : Int).tdiv 16))) : Int).tmod 4))))))).length)) then (bif (decide (0 ≤ (a7 : Int) ∧ (a7 : Int) < (((a0).length : Nat) : Int))) then (bif (decide (0 ≤ (a7 : Int) ∧ (a7 : Int) < (((a0).length : Nat) : Int))) then (bif (((IntKind.wrap .u8 (1 + (((IntKind.wrap .u8 (IntKind.wrap .u16 ((((a0).getD (a7 : Int).toNat (0 : Int)) : Int).tdiv 64))) : Int).tmod 4))) : Int) == 1) then (bif (((IntKind.wrap .u8 (1 + (((IntKind.wrap .u8 (IntKind.wrap .u16 ((((a0).getD (a7 : Int).toNat (0 : Int)) : Int).tdiv 64))) : Int).tmod 4))) : Int) == 2) then (bif (((FloatKind.f64).format.div ((FloatKind.nearest .f64 a7)) (4616189618054758400))).isSome then (bif (decide ((q0).length + ([(0, ((IntKind.wrap .u64 ((IntKind.wrap .u64 (((q0).length : Nat) : Int)) + 1)), (((((b1_0).set (0 : Int).toNat (IntKind.wrap .u64 (((b1_0).getD (0 : Int).toNat (0 : Int)) + (IntKind.wrap .u64 (1 + (((IntKind.wrap .u64 (IntKind.wrap .u16 ((((a0).getD (a7 : Int).toNat (0 : Int)) : Int).tdiv 16))) : Int).tmod 4))))))).getD (0 : Int).toNat (0 : Int)), ((IntKind.wrap .u8 (1 + (((IntKind.wrap .u8 (IntKind.wrap .u16 ((((a0).getD (a7 : Int).toNat (0 : Int)) : Int).tdiv 64))) : Int).tmod 4))), ((strL [(IntKind.wrap .u8 (97 + (((IntKind.wrap .u8 (IntKind.wrap .u16 ((((a0).getD (a7 : Int).toNat (0 : Int)) : Int).tdiv 256))) : Int).tmod 4)))]), ([(IntKind.wrap .u8 a7)], (((((FloatKind.f64).format.div ((FloatKind.nearest .f64 a7)) (4616189618054758400))).getD 0), (0, ()))))))))]).length < lim)) then (some (.inl ((a0, a1, (), (), (IntKind.wrap .i64 (a7 + 1)), ()), (((), (), (), (), ()), (((b1_0).set (0 : Int).toNat (IntKind.wrap .u64 (((b1_0).getD (0 : Int).toNat (0 : Int)) + (IntKind.wrap .u64 (1 + (((IntKind.wrap .u64 (IntKind.wrap .u16 ((((a0).getD (a7 : Int).toNat (0 : Int)) : Int).tdiv 16))) : Int).tmod 4)))))), ()), ()), ((q0 ++ [(0, ((IntKind.wrap .u64 ((IntKind.wrap .u64 (((q0).length : Nat) : Int)) + 1)), (((((b1_0).set (0 : Int).toNat (IntKind.wrap .u64 (((b1_0).getD (0 : Int).toNat (0 : Int)) + (IntKind.wrap .u64 (1 + (((IntKind.wrap .u64 (IntKind.wrap .u16 ((((a0).getD (a7 : Int).toNat (0 : Int)) : Int).tdiv 16))) : Int).tmod 4))))))).getD (0 : Int).toNat (0 : Int)), ((IntKind.wrap .u8 (1 + (((IntKind.wrap .u8 (IntKind.wrap .u16 ((((a0).getD (a7 : Int).toNat (0 : Int)) : Int).tdiv 64))) : Int).tmod 4))), ((strL [(IntKind.wrap .u8 (97 + (((IntKind.wrap .u8 (IntKind.wrap .u16 ((((a0).getD (a7 : Int).toNat (0 : Int)) : Int).tdiv 256))) : Int).tmod 4)))]), ([(IntKind.wrap .u8 a7)], (((((FloatKind.f64).format.div ((FloatKind.nearest .f64 a7)) (4616189618054758400))).getD 0), (0, ()))))))))]), q1, q2, q3, ())))) else none) else none) else (bif (((IntKind.wrap .u8 (1 + (((IntKind.wrap .u8 (IntKind.wrap .u16 ((((a0).getD (a7 : Int).toNat (0 : Int)) : Int).tdiv 64))) : Int).tmod 4))) : Int) == 3) then (bif (((FloatKind.f64).format.div ((FloatKind.nearest .f64 a7)) (4616189618054758400))).isSome then (bif (decide ((q0).length + ([(0, ((IntKind.wrap .u64 ((IntKind.wrap .u64 (((q0).length : Nat) : Int)) + 1)), (((((b1_0).set (0 : Int).toNat (IntKind.wrap .u64 (((b1_0).getD (0 : Int).toNat (0 : Int)) + (IntKind.wrap .u64 (1 + (((IntKind.wrap .u64 (IntKind.wrap .u16 ((((a0).getD (a7 : Int).toNat (0 : Int)) : Int).tdiv 16))) : Int).tmod 4))))))).getD (0 : Int).toNat (0 : Int)), ((IntKind.wrap .u8 (1 + (((IntKind.wrap .u8 (IntKind.wrap .u16 ((((a0).getD (a7 : Int).toNat (0 : Int)) : Int).tdiv 64))) : Int).tmod 4))), ((strL [(IntKind.wrap .u8 (97 + (((IntKind.wrap .u8 (IntKind.wrap .u16 ((((a0).getD (a7 : Int).toNat (0 : Int)) : Int).tdiv 256))) : Int).tmod 4)))]), ([(IntKind.wrap .u8 a7)], (((((FloatKind.f64).format.div ((FloatKind.nearest .f64 a7)) (4616189618054758400))).getD 0), (0, ()))))))))]).length < lim)) then (some (.inl ((a0, a1, (), (), (IntKind.wrap .i64 (a7 + 1)), ()), (((), (), (), (), ()), (((b1_0).set (0 : Int).toNat (IntKind.wrap .u64 (((b1_0).getD (0 : Int).toNat (0 : Int)) + (IntKind.wrap .u64 (1 + (((IntKind.wrap .u64 (IntKind.wrap .u16 ((((a0).getD (a7 : Int).toNat (0 : Int)) : Int).tdiv 16))) : Int).tmod 4)))))), ()), ()), ((q0 ++ [(0, ((IntKind.wrap .u64 ((IntKind.wrap .u64 (((q0).length : Nat) : Int)) + 1)), (((((b1_0).set (0 : Int).toNat (IntKind.wrap .u64 (((b1_0).getD (0 : Int).toNat (0 : Int)) + (IntKind.wrap .u64 (1 + (((IntKind.wrap .u64 (IntKind.wrap .u16 ((((a0).getD (a7 : Int).toNat (0 : Int)) : Int).tdiv 16))) : Int).tmod 4))))))).getD (0 : Int).toNat (0 : Int)), ((IntKind.wrap .u8 (1 + (((IntKind.wrap .u8 (IntKind.wrap .u16 ((((a0).getD (a7 : Int).toNat (0 : Int)) : Int).tdiv 64))) : Int).tmod 4))), ((strL [(IntKind.wrap .u8 (97 + (((IntKind.wrap .u8 (IntKind.wrap .u16 ((((a0).getD (a7 : Int).toNat (0 : Int)) : Int).tdiv 256))) : Int).tmod 4)))]), ([(IntKind.wrap .u8 a7)], (((((FloatKind.f64).format.div ((FloatKind.nearest .f64 a7)) (4616189618054758400))).getD 0), (0, ()))))))))]), q1, q2, q3, ())))) else none) else none) else (bif (decide ((q0).length + ([(0, ((IntKind.wrap .u64 ((IntKind.wrap .u64 (((q0).length : Nat) : Int)) + 1)), (((((b1_0).set (0 : Int).toNat (IntKind.wrap .u64 (((b1_0).getD (0 : Int).toNat (0 : Int)) + (IntKind.wrap .u64 (1 + (((IntKind.wrap .u64 (IntKind.wrap .u16 ((((a0).getD (a7 : Int).toNat (0 : Int)) : Int).tdiv 16))) : Int).tmod 4))))))).getD (0 : Int).toNat (0 : Int)), ((IntKind.wrap .u8 (1 + (((IntKind.wrap .u8 (IntKind.wrap .u16 ((((a0).getD (a7 : Int).toNat (0 : Int)) : Int).tdiv 64))) : Int).tmod 4))), ((strL [(IntKind.wrap .u8 (97 + (((IntKind.wrap .u8 (IntKind.wrap .u16 ((((a0).getD (a7 : Int).toNat (0 : Int)) : Int).tdiv 256))) : Int).tmod 4)))]), ([(IntKind.wrap .u8 a7)], (0, (0, ()))))))))]).length < lim)) then (some (.inl ((a0, a1, (), (), (IntKind.wrap .i64 (a7 + 1)), ()), (((), (), (), (), ()), (((b1_0).set (0 : Int).toNat (IntKind.wrap .u64 (((b1_0).getD (0 : Int).toNat (0 : Int)) + (IntKind.wrap .u64 (1 + (((IntKind.wrap .u64 (IntKind.wrap .u16 ((((a0).getD (a7 : Int).toNat (0 : Int)) : Int).tdiv 16))) : Int).tmod 4)))))), ()), ()), ((q0 ++ [(0, ((IntKind.wrap .u64 ((IntKind.wrap .u64 (((q0).length : Nat) : Int)) + 1)), (((((b1_0).set (0 : Int).toNat (IntKind.wrap .u64 (((b1_0).getD (0 : Int).toNat (0 : Int)) + (IntKind.wrap .u64 (1 + (((IntKind.wrap .u64 (IntKind.wrap .u16 ((((a0).getD (a7 : Int).toNat (0 : Int)) : Int).tdiv 16))) : Int).tmod 4))))))).getD (0 : Int).toNat (0 : Int)), ((IntKind.wrap .u8 (1 + (((IntKind.wrap .u8 (IntKind.wrap .u16 ((((a0).getD (a7 : Int).toNat (0 : Int)) : Int).tdiv 64))) : Int).tmod 4))), ((strL [(IntKind.wrap .u8 (97 + (((IntKind.wrap .u8 (IntKind.wrap .u16 ((((a0).getD (a7 : Int).toNat (0 : Int)) : Int).tdiv 256))) : Int).tmod 4)))]), ([(IntKind.wrap .u8 a7)], (0, (0, ()))))))))]), q1, q2, q3, ())))) else none))) else (bif (((IntKind.wrap .u8 (1 + (((IntKind.wrap .u8 (IntKind.wrap .u16 ((((a0).getD (a7 : Int).toNat (0 : Int)) : Int).tdiv 64))) : Int).tmod 4))) : Int) == 2) then (bif (((FloatKind.f64).format.div ((FloatKind.nearest .f64 a7)) (4616189618054758400))).isSome then (bif (decide ((q0).length + ([(0, ((IntKind.wrap .u64 ((IntKind.wrap .u64 (((q0).length : Nat) : Int)) + 1)), (((((b1_0).set (0 : Int).toNat (IntKind.wrap .u64 (((b1_0).getD (0 : Int).toNat (0 : Int)) + (IntKind.wrap .u64 (1 + (((IntKind.wrap .u64 (IntKind.wrap .u16 ((((a0).getD (a7 : Int).toNat (0 : Int)) : Int).tdiv 16))) : Int).tmod 4))))))).getD (0 : Int).toNat (0 : Int)), ((IntKind.wrap .u8 (1 + (((IntKind.wrap .u8 (IntKind.wrap .u16 ((((a0).getD (a7 : Int).toNat (0 : Int)) : Int).tdiv 64))) : Int).tmod 4))), ((strL [(IntKind.wrap .u8 (97 + (((IntKind.wrap .u8 (IntKind.wrap .u16 ((((a0).getD (a7 : Int).toNat (0 : Int)) : Int).tdiv 256))) : Int).tmod 4)))]), (([] : List Int), (((((FloatKind.f64).format.div ((FloatKind.nearest .f64 a7)) (4616189618054758400))).getD 0), (0, ()))))))))]).length < lim)) then (some (.inl ((a0, a1, (), (), (IntKind.wrap .i64 (a7 + 1)), ()), (((), (), (), (), ()), (((b1_0).set (0 : Int).toNat (IntKind.wrap .u64 (((b1_0).getD (0 : Int).toNat (0 : Int)) + (IntKind.wrap .u64 (1 + (((IntKind.wrap .u64 (IntKind.wrap .u16 ((((a0).getD (a7 : Int).toNat (0 : Int)) : Int).tdiv 16))) : Int).tmod 4)))))), ()), ()), ((q0 ++ [(0, ((IntKind.wrap .u64 ((IntKind.wrap .u64 (((q0).length : Nat) : Int)) + 1)), (((((b1_0).set (0 : Int).toNat (IntKind.wrap .u64 (((b1_0).getD (0 : Int).toNat (0 : Int)) + (IntKind.wrap .u64 (1 + (((IntKind.wrap .u64 (IntKind.wrap .u16 ((((a0).getD (a7 : Int).toNat (0 : Int)) : Int).tdiv 16))) : Int).tmod 4))))))).getD (0 : Int).toNat (0 : Int)), ((IntKind.wrap .u8 (1 + (((IntKind.wrap .u8 (IntKind.wrap .u16 ((((a0).getD (a7 : Int).toNat (0 : Int)) : Int).tdiv 64))) : Int).tmod 4))), ((strL [(IntKind.wrap .u8 (97 + (((IntKind.wrap .u8 (IntKind.wrap .u16 ((((a0).getD (a7 : Int).toNat (0 : Int)) : Int).tdiv 256))) : Int).tmod 4)))]), (([] : List Int), (((((FloatKind.f64).format.div ((FloatKind.nearest .f64 a7)) (4616189618054758400))).getD 0), (0, ()))))))))]), q1, q2, q3, ())))) else none) else none) else (bif (((IntKind.wrap .u8 (1 + (((IntKind.wrap .u8 (IntKind.wrap .u16 ((((a0).getD (a7 : Int).toNat (0 : Int)) : Int).tdiv 64))) : Int).tmod 4))) : Int) == 3) then (bif (((FloatKind.f64).format.div ((FloatKind.nearest .f64 a7)) (4616189618054758400))).isSome then (bif (decide ((q0).length + ([(0, ((IntKind.wrap .u64 ((IntKind.wrap .u64 (((q0).length : Nat) : Int)) + 1)), (((((b1_0).set (0 : Int).toNat (IntKind.wrap .u64 (((b1_0).getD (0 : Int).toNat (0 : Int)) + (IntKind.wrap .u64 (1 + (((IntKind.wrap .u64 (IntKind.wrap .u16 ((((a0).getD (a7 : Int).toNat (0 : Int)) : Int).tdiv 16))) : Int).tmod 4))))))).getD (0 : Int).toNat (0 : Int)), ((IntKind.wrap .u8 (1 + (((IntKind.wrap .u8 (IntKind.wrap .u16 ((((a0).getD (a7 : Int).toNat (0 : Int)) : Int).tdiv 64))) : Int).tmod 4))), ((strL [(IntKind.wrap .u8 (97 + (((IntKind.wrap .u8 (IntKind.wrap .u16 ((((a0).getD (a7 : Int).toNat (0 : Int)) : Int).tdiv 256))) : Int).tmod 4)))]), (([] : List Int), (((((FloatKind.f64).format.div ((FloatKind.nearest .f64 a7)) (4616189618054758400))).getD 0), (0, ()))))))))]).length < lim)) then (some (.inl ((a0, a1, (), (), (IntKind.wrap .i64 (a7 + 1)), ()), (((), (), (), (), ()), (((b1_0).set (0 : Int).toNat (IntKind.wrap .u64 (((b1_0).getD (0 : Int).toNat (0 : Int)) + (IntKind.wrap .u64 (1 + (((IntKind.wrap .u64 (IntKind.wrap .u16 ((((a0).getD (a7 : Int).toNat (0 : Int)) : Int).tdiv 16))) : Int).tmod 4)))))), ()), ()), ((q0 ++ [(0, ((IntKind.wrap .u64 ((IntKind.wrap .u64 (((q0).length : Nat) : Int)) + 1)), (((((b1_0).set (0 : Int).toNat (IntKind.wrap .u64 (((b1_0).getD (0 : Int).toNat (0 : Int)) + (IntKind.wrap .u64 (1 + (((IntKind.wrap .u64 (IntKind.wrap .u16 ((((a0).getD (a7 : Int).toNat (0 : Int)) : Int).tdiv 16))) : Int).tmod 4))))))).getD (0 : Int).toNat (0 : Int)), ((IntKind.wrap .u8 (1 + (((IntKind.wrap .u8 (IntKind.wrap .u16 ((((a0).getD (a7 : Int).toNat (0 : Int)) : Int).tdiv 64))) : Int).tmod 4))), ((strL [(IntKind.wrap .u8 (97 + (((IntKind.wrap .u8 (IntKind.wrap .u16 ((((a0).getD (a7 : Int).toNat (0 : Int)) : Int).tdiv 256))) : Int).tmod 4)))]), (([] : List Int), (((((FloatKind.f64).format.div ((FloatKind.nearest .f64 a7)) (4616189618054758400))).getD 0), (0, ()))))))))]), q1, q2, q3, ())))) else none) else none) else (bif (decide ((q0).length + ([(0, ((IntKind.wrap .u64 ((IntKind.wrap .u64 (((q0).length : Nat) : Int)) + 1)), (((((b1_0).set (0 : Int).toNat (IntKind.wrap .u64 (((b1_0).getD (0 : Int).toNat (0 : Int)) + (IntKind.wrap .u64 (1 + (((IntKind.wrap .u64 (IntKind.wrap .u16 ((((a0).getD (a7 : Int).toNat (0 : Int)) : Int).tdiv 16))) : Int).tmod 4))))))).getD (0 : Int).toNat (0 : Int)), ((IntKind.wrap .u8 (1 + (((IntKind.wrap .u8 (IntKind.wrap .u16 ((((a0).getD (a7 : Int).toNat (0 : Int)) : Int).tdiv 64))) : Int).tmod 4))), ((strL [(IntKind.wrap .u8 (97 + (((IntKind.wrap .u8 (IntKind.wrap .u16 ((((a0).getD (a7 : Int).toNat (0 : Int)) : Int).tdiv 256))) : Int).tmod 4)))]), (([] : List Int), (0, (0, ()))))))))]).length < lim)) then (some (.inl ((a0, a1, (), (), (IntKind.wrap .i64 (a7 + 1)), ()), (((), (), (), (), ()), (((b1_0).set (0 : Int).toNat (IntKind.wrap .u64 (((b1_0).getD (0 : Int).toNat (0 : Int)) + (IntKind.wrap .u64 (1 + (((IntKind.wrap .u64 (IntKind.wrap .u16 ((((a0).getD (a7 : Int).toNat (0 : Int)) : Int).tdiv 16))) : Int).tmod 4)))))), ()), ()), ((q0 ++ [(0, ((IntKind.wrap .u64 ((IntKind.wrap .u64 (((q0).length : Nat) : Int)) + 1)), (((((b1_0).set (0 : Int).toNat (IntKind.wrap .u64 (((b1_0).getD (0 : Int).toNat (0 : Int)) + (IntKind.wrap .u64 (1 + (((IntKind.wrap .u64 (IntKind.wrap .u16 ((((a0).getD (a7 : Int).toNat (0 : Int)) : Int).tdiv 16))) : Int).tmod 4))))))).getD (0 : Int).toNat (0 : Int)), ((IntKind.wrap .u8 (1 + (((IntKind.wrap .u8 (IntKind.wrap .u16 ((((a0).getD (a7 : Int).toNat (0 : Int)) : Int).tdiv 64))) : Int).tmod 4))), ((strL [(IntKind.wrap .u8 (97 + (((IntKind.wrap .u8 (IntKind.wrap .u16 ((((a0).getD (a7 : Int).toNat (0 : Int)) : Int).tdiv 256))) : Int).tmod 4)))]), (([] : List Int), (0, (0, ()))))))))]), q1, q2, q3, ())))) else none)))) else none) else none) else none) else none) else none) else none) else none) else none) else none) else (bif (decide (((((IntKind.wrap .i64 ((a0).getD (a7 : Int).toNat (0 : Int))) : Int).tmod a1) : Int) = 1)) then (bif (decide (0 ≤ (1 : Int) ∧ (1 : Int) < (((b1_0).length : Nat) : Int))) then (bif (decide ((1 : Int).toNat < (b1_0).length)) then (bif (decide (0 ≤ (a7 : Int) ∧ (a7 : Int) < (((a0).length : Nat) : Int))) then (bif (decide (0 ≤ (1 : Int) ∧ (1 : Int) < (((b1_0).length : Nat) : Int))) then (bif (decide ((1 : Int).toNat < (b1_0).length)) then (bif (decide (0 ≤ (1 : Int) ∧ (1 : Int) < (((((b1_0).set (1 : Int).toNat (IntKind.wrap .u64 (((b1_0).getD (1 : Int).toNat (0 : Int)) + (IntKind.wrap .u64 (1 + (((IntKind.wrap .u64 (IntKind.wrap .u16 ((((a0).getD (a7 : Int).toNat (0 : Int)) : Int).tdiv 16))) : Int).tmod 4))))))).length : Nat) : Int))) then (bif (decide ((1 : Int).toNat < (((b1_0).set (1 : Int).toNat (IntKind.wrap .u64 (((b1_0).getD (1 : Int).toNat (0 : Int)) + (IntKind.wrap .u64 (1 + (((IntKind.wrap .u64 (IntKind.wrap .u16 ((((a0).getD (a7 : Int).toNat (0 : Int)) : Int).tdiv 16))) : Int).tmod 4))))))).length)) then (bif (decide (0 ≤ (a7 : Int) ∧ (a7 : Int) < (((a0).length : Nat) : Int))) then (bif (decide (0 ≤ (a7 : Int) ∧ (a7 : Int) < (((a0).length : Nat) : Int))) then (bif (((IntKind.wrap .u8 (1 + (((IntKind.wrap .u8 (IntKind.wrap .u16 ((((a0).getD (a7 : Int).toNat (0 : Int)) : Int).tdiv 64))) : Int).tmod 4))) : Int) == 1) then (bif (((IntKind.wrap .u8 (1 + (((IntKind.wrap .u8 (IntKind.wrap .u16 ((((a0).getD (a7 : Int).toNat (0 : Int)) : Int).tdiv 64))) : Int).tmod 4))) : Int) == 2) then (bif (((FloatKind.f64).format.div ((FloatKind.nearest .f64 a7)) (4616189618054758400))).isSome then (bif (decide ((q1).length + ([(1, ((IntKind.wrap .u64 ((IntKind.wrap .u64 (((q1).length : Nat) : Int)) + 1)), (((((b1_0).set (1 : Int).toNat (IntKind.wrap .u64 (((b1_0).getD (1 : Int).toNat (0 : Int)) + (IntKind.wrap .u64 (1 + (((IntKind.wrap .u64 (IntKind.wrap .u16 ((((a0).getD (a7 : Int).toNat (0 : Int)) : Int).tdiv 16))) : Int).tmod 4))))))).getD (1 : Int).toNat (0 : Int)), ((IntKind.wrap .u8 (1 + (((IntKind.wrap .u8 (IntKind.wrap .u16 ((((a0).getD (a7 : Int).toNat (0 : Int)) : Int).tdiv 64))) : Int).tmod 4))), ((strL [(IntKind.wrap .u8 (97 + (((IntKind.wrap .u8 (IntKind.wrap .u16 ((((a0).getD (a7 : Int).toNat (0 : Int)) : Int).tdiv 256))) : Int).tmod 4)))]), ([(IntKind.wrap .u8 a7)], (((((FloatKind.f64).format.div ((FloatKind.nearest .f64 a7)) (4616189618054758400))).getD 0), (0, ()))))))))]).length < lim)) then (some (.inl ((a0, a1, (), (), (IntKind.wrap .i64 (a7 + 1)), ()), (((), (), (), (), ()), (((b1_0).set (1 : Int).toNat (IntKind.wrap .u64 (((b1_0).getD (1 : Int).toNat (0 : Int)) + (IntKind.wrap .u64 (1 + (((IntKind.wrap .u64 (IntKind.wrap .u16 ((((a0).getD (a7 : Int).toNat (0 : Int)) : Int).tdiv 16))) : Int).tmod 4)))))), ()), ()), (q0, (q1 ++ [(1, ((IntKind.wrap .u64 ((IntKind.wrap .u64 (((q1).length : Nat) : Int)) + 1)), (((((b1_0).set (1 : Int).toNat (IntKind.wrap .u64 (((b1_0).getD (1 : Int).toNat (0 : Int)) + (IntKind.wrap .u64 (1 + (((IntKind.wrap .u64 (IntKind.wrap .u16 ((((a0).getD (a7 : Int).toNat (0 : Int)) : Int).tdiv 16))) : Int).tmod 4))))))).getD (1 : Int).toNat (0 : Int)), ((IntKind.wrap .u8 (1 + (((IntKind.wrap .u8 (IntKind.wrap .u16 ((((a0).getD (a7 : Int).toNat (0 : Int)) : Int).tdiv 64))) : Int).tmod 4))), ((strL [(IntKind.wrap .u8 (97 + (((IntKind.wrap .u8 (IntKind.wrap .u16 ((((a0).getD (a7 : Int).toNat (0 : Int)) : Int).tdiv 256))) : Int).tmod 4)))]), ([(IntKind.wrap .u8 a7)], (((((FloatKind.f64).format.div ((FloatKind.nearest .f64 a7)) (4616189618054758400))).getD 0), (0, ()))))))))]), q2, q3, ())))) else none) else none) else (bif (((IntKind.wrap .u8 (1 + (((IntKind.wrap .u8 (IntKind.wrap .u16 ((((a0).getD (a7 : Int).toNat (0 : Int)) : Int).tdiv 64))) : Int).tmod 4))) : Int) == 3) then (bif (((FloatKind.f64).format.div ((FloatKind.nearest .f64 a7)) (4616189618054758400))).isSome then (bif (decide ((q1).length + ([(1, ((IntKind.wrap .u64 ((IntKind.wrap .u64 (((q1).length : Nat) : Int)) + 1)), (((((b1_0).set (1 : Int).toNat (IntKind.wrap .u64 (((b1_0).getD (1 : Int).toNat (0 : Int)) + (IntKind.wrap .u64 (1 + (((IntKind.wrap .u64 (IntKind.wrap .u16 ((((a0).getD (a7 : Int).toNat (0 : Int)) : Int).tdiv 16))) : Int).tmod 4))))))).getD (1 : Int).toNat (0 : Int)), ((IntKind.wrap .u8 (1 + (((IntKind.wrap .u8 (IntKind.wrap .u16 ((((a0).getD (a7 : Int).toNat (0 : Int)) : Int).tdiv 64))) : Int).tmod 4))), ((strL [(IntKind.wrap .u8 (97 + (((IntKind.wrap .u8 (IntKind.wrap .u16 ((((a0).getD (a7 : Int).toNat (0 : Int)) : Int).tdiv 256))) : Int).tmod 4)))]), ([(IntKind.wrap .u8 a7)], (((((FloatKind.f64).format.div ((FloatKind.nearest .f64 a7)) (4616189618054758400))).getD 0), (0, ()))))))))]).length < lim)) then (some (.inl ((a0, a1, (), (), (IntKind.wrap .i64 (a7 + 1)), ()), (((), (), (), (), ()), (((b1_0).set (1 : Int).toNat (IntKind.wrap .u64 (((b1_0).getD (1 : Int).toNat (0 : Int)) + (IntKind.wrap .u64 (1 + (((IntKind.wrap .u64 (IntKind.wrap .u16 ((((a0).getD (a7 : Int).toNat (0 : Int)) : Int).tdiv 16))) : Int).tmod 4)))))), ()), ()), (q0, (q1 ++ [(1, ((IntKind.wrap .u64 ((IntKind.wrap .u64 (((q1).length : Nat) : Int)) + 1)), (((((b1_0).set (1 : Int).toNat (IntKind.wrap .u64 (((b1_0).getD (1 : Int).toNat (0 : Int)) + (IntKind.wrap .u64 (1 + (((IntKind.wrap .u64 (IntKind.wrap .u16 ((((a0).getD (a7 : Int).toNat (0 : Int)) : Int).tdiv 16))) : Int).tmod 4))))))).getD (1 : Int).toNat (0 : Int)), ((IntKind.wrap .u8 (1 + (((IntKind.wrap .u8 (IntKind.wrap .u16 ((((a0).getD (a7 : Int).toNat (0 : Int)) : Int).tdiv 64))) : Int).tmod 4))), ((strL [(IntKind.wrap .u8 (97 + (((IntKind.wrap .u8 (IntKind.wrap .u16 ((((a0).getD (a7 : Int).toNat (0 : Int)) : Int).tdiv 256))) : Int).tmod 4)))]), ([(IntKind.wrap .u8 a7)], (((((FloatKind.f64).format.div ((FloatKind.nearest .f64 a7)) (4616189618054758400))).getD 0), (0, ()))))))))]), q2, q3, ())))) else none) else none) else (bif (decide ((q1).length + ([(1, ((IntKind.wrap .u64 ((IntKind.wrap .u64 (((q1).length : Nat) : Int)) + 1)), (((((b1_0).set (1 : Int).toNat (IntKind.wrap .u64 (((b1_0).getD (1 : Int).toNat (0 : Int)) + (IntKind.wrap .u64 (1 + (((IntKind.wrap .u64 (IntKind.wrap .u16 ((((a0).getD (a7 : Int).toNat (0 : Int)) : Int).tdiv 16))) : Int).tmod 4))))))).getD (1 : Int).toNat (0 : Int)), ((IntKind.wrap .u8 (1 + (((IntKind.wrap .u8 (IntKind.wrap .u16 ((((a0).getD (a7 : Int).toNat (0 : Int)) : Int).tdiv 64))) : Int).tmod 4))), ((strL [(IntKind.wrap .u8 (97 + (((IntKind.wrap .u8 (IntKind.wrap .u16 ((((a0).getD (a7 : Int).toNat (0 : Int)) : Int).tdiv 256))) : Int).tmod 4)))]), ([(IntKind.wrap .u8 a7)], (0, (0, ()))))))))]).length < lim)) then (some (.inl ((a0, a1, (), (), (IntKind.wrap .i64 (a7 + 1)), ()), (((), (), (), (), ()), (((b1_0).set (1 : Int).toNat (IntKind.wrap .u64 (((b1_0).getD (1 : Int).toNat (0 : Int)) + (IntKind.wrap .u64 (1 + (((IntKind.wrap .u64 (IntKind.wrap .u16 ((((a0).getD (a7 : Int).toNat (0 : Int)) : Int).tdiv 16))) : Int).tmod 4)))))), ()), ()), (q0, (q1 ++ [(1, ((IntKind.wrap .u64 ((IntKind.wrap .u64 (((q1).length : Nat) : Int)) + 1)), (((((b1_0).set (1 : Int).toNat (IntKind.wrap .u64 (((b1_0).getD (1 : Int).toNat (0 : Int)) + (IntKind.wrap .u64 (1 + (((IntKind.wrap .u64 (IntKind.wrap .u16 ((((a0).getD (a7 : Int).toNat (0 : Int)) : Int).tdiv 16))) : Int).tmod 4))))))).getD (1 : Int).toNat (0 : Int)), ((IntKind.wrap .u8 (1 + (((IntKind.wrap .u8 (IntKind.wrap .u16 ((((a0).getD (a7 : Int).toNat (0 : Int)) : Int).tdiv 64))) : Int).tmod 4))), ((strL [(IntKind.wrap .u8 (97 + (((IntKind.wrap .u8 (IntKind.wrap .u16 ((((a0).getD (a7 : Int).toNat (0 : Int)) : Int).tdiv 256))) : Int).tmod 4)))]), ([(IntKind.wrap .u8 a7)], (0, (0, ()))))))))]), q2, q3, ())))) else none))) else (bif (((IntKind.wrap .u8 (1 + (((IntKind.wrap .u8 (IntKind.wrap .u16 ((((a0).getD (a7 : Int).toNat (0 : Int)) : Int).tdiv 64))) : Int).tmod 4))) : Int) == 2) then (bif (((FloatKind.f64).format.div ((FloatKind.nearest .f64 a7)) (4616189618054758400))).isSome then (bif (decide ((q1).length + ([(1, ((IntKind.wrap .u64 ((IntKind.wrap .u64 (((q1).length : Nat) : Int)) + 1)), (((((b1_0).set (1 : Int).toNat (IntKind.wrap .u64 (((b1_0).getD (1 : Int).toNat (0 : Int)) + (IntKind.wrap .u64 (1 + (((IntKind.wrap .u64 (IntKind.wrap .u16 ((((a0).getD (a7 : Int).toNat (0 : Int)) : Int).tdiv 16))) : Int).tmod 4))))))).getD (1 : Int).toNat (0 : Int)), ((IntKind.wrap .u8 (1 + (((IntKind.wrap .u8 (IntKind.wrap .u16 ((((a0).getD (a7 : Int).toNat (0 : Int)) : Int).tdiv 64))) : Int).tmod 4))), ((strL [(IntKind.wrap .u8 (97 + (((IntKind.wrap .u8 (IntKind.wrap .u16 ((((a0).getD (a7 : Int).toNat (0 : Int)) : Int).tdiv 256))) : Int).tmod 4)))]), (([] : List Int), (((((FloatKind.f64).format.div ((FloatKind.nearest .f64 a7)) (4616189618054758400))).getD 0), (0, ()))))))))]).length < lim)) then (some (.inl ((a0, a1, (), (), (IntKind.wrap .i64 (a7 + 1)), ()), (((), (), (), (), ()), (((b1_0).set (1 : Int).toNat (IntKind.wrap .u64 (((b1_0).getD (1 : Int).toNat (0 : Int)) + (IntKind.wrap .u64 (1 + (((IntKind.wrap .u64 (IntKind.wrap .u16 ((((a0).getD (a7 : Int).toNat (0 : Int)) : Int).tdiv 16))) : Int).tmod 4)))))), ()), ()), (q0, (q1 ++ [(1, ((IntKind.wrap .u64 ((IntKind.wrap .u64 (((q1).length : Nat) : Int)) + 1)), (((((b1_0).set (1 : Int).toNat (IntKind.wrap .u64 (((b1_0).getD (1 : Int).toNat (0 : Int)) + (IntKind.wrap .u64 (1 + (((IntKind.wrap .u64 (IntKind.wrap .u16 ((((a0).getD (a7 : Int).toNat (0 : Int)) : Int).tdiv 16))) : Int).tmod 4))))))).getD (1 : Int).toNat (0 : Int)), ((IntKind.wrap .u8 (1 + (((IntKind.wrap .u8 (IntKind.wrap .u16 ((((a0).getD (a7 : Int).toNat (0 : Int)) : Int).tdiv 64))) : Int).tmod 4))), ((strL [(IntKind.wrap .u8 (97 + (((IntKind.wrap .u8 (IntKind.wrap .u16 ((((a0).getD (a7 : Int).toNat (0 : Int)) : Int).tdiv 256))) : Int).tmod 4)))]), (([] : List Int), (((((FloatKind.f64).format.div ((FloatKind.nearest .f64 a7)) (4616189618054758400))).getD 0), (0, ()))))))))]), q2, q3, ())))) else none) else none) else (bif (((IntKind.wrap .u8 (1 + (((IntKind.wrap .u8 (IntKind.wrap .u16 ((((a0).getD (a7 : Int).toNat (0 : Int)) : Int).tdiv 64))) : Int).tmod 4))) : Int) == 3) then (bif (((FloatKind.f64).format.div ((FloatKind.nearest .f64 a7)) (4616189618054758400))).isSome then (bif (decide ((q1).length + ([(1, ((IntKind.wrap .u64 ((IntKind.wrap .u64 (((q1).length : Nat) : Int)) + 1)), (((((b1_0).set (1 : Int).toNat (IntKind.wrap .u64 (((b1_0).getD (1 : Int).toNat (0 : Int)) + (IntKind.wrap .u64 (1 + (((IntKind.wrap .u64 (IntKind.wrap .u16 ((((a0).getD (a7 : Int).toNat (0 : Int)) : Int).tdiv 16))) : Int).tmod 4))))))).getD (1 : Int).toNat (0 : Int)), ((IntKind.wrap .u8 (1 + (((IntKind.wrap .u8 (IntKind.wrap .u16 ((((a0).getD (a7 : Int).toNat (0 : Int)) : Int).tdiv 64))) : Int).tmod 4))), ((strL [(IntKind.wrap .u8 (97 + (((IntKind.wrap .u8 (IntKind.wrap .u16 ((((a0).getD (a7 : Int).toNat (0 : Int)) : Int).tdiv 256))) : Int).tmod 4)))]), (([] : List Int), (((((FloatKind.f64).format.div ((FloatKind.nearest .f64 a7)) (4616189618054758400))).getD 0), (0, ()))))))))]).length < lim)) then (some (.inl ((a0, a1, (), (), (IntKind.wrap .i64 (a7 + 1)), ()), (((), (), (), (), ()), (((b1_0).set (1 : Int).toNat (IntKind.wrap .u64 (((b1_0).getD (1 : Int).toNat (0 : Int)) + (IntKind.wrap .u64 (1 + (((IntKind.wrap .u64 (IntKind.wrap .u16 ((((a0).getD (a7 : Int).toNat (0 : Int)) : Int).tdiv 16))) : Int).tmod 4)))))), ()), ()), (q0, (q1 ++ [(1, ((IntKind.wrap .u64 ((IntKind.wrap .u64 (((q1).length : Nat) : Int)) + 1)), (((((b1_0).set (1 : Int).toNat (IntKind.wrap .u64 (((b1_0).getD (1 : Int).toNat (0 : Int)) + (IntKind.wrap .u64 (1 + (((IntKind.wrap .u64 (IntKind.wrap .u16 ((((a0).getD (a7 : Int).toNat (0 : Int)) : Int).tdiv 16))) : Int).tmod 4))))))).getD (1 : Int).toNat (0 : Int)), ((IntKind.wrap .u8 (1 + (((IntKind.wrap .u8 (IntKind.wrap .u16 ((((a0).getD (a7 : Int).toNat (0 : Int)) : Int).tdiv 64))) : Int).tmod 4))), ((strL [(IntKind.wrap .u8 (97 + (((IntKind.wrap .u8 (IntKind.wrap .u16 ((((a0).getD (a7 : Int).toNat (0 : Int)) : Int).tdiv 256))) : Int).tmod 4)))]), (([] : List Int), (((((FloatKind.f64).format.div ((FloatKind.nearest .f64 a7)) (4616189618054758400))).getD 0), (0, ()))))))))]), q2, q3, ())))) else none) else none) else (bif (decide ((q1).length + ([(1, ((IntKind.wrap .u64 ((IntKind.wrap .u64 (((q1).length : Nat) : Int)) + 1)), (((((b1_0).set (1 : Int).toNat (IntKind.wrap .u64 (((b1_0).getD (1 : Int).toNat (0 : Int)) + (IntKind.wrap .u64 (1 + (((IntKind.wrap .u64 (IntKind.wrap .u16 ((((a0).getD (a7 : Int).toNat (0 : Int)) : Int).tdiv 16))) : Int).tmod 4))))))).getD (1 : Int).toNat (0 : Int)), ((IntKind.wrap .u8 (1 + (((IntKind.wrap .u8 (IntKind.wrap .u16 ((((a0).getD (a7 : Int).toNat (0 : Int)) : Int).tdiv 64))) : Int).tmod 4))), ((strL [(IntKind.wrap .u8 (97 + (((IntKind.wrap .u8 (IntKind.wrap .u16 ((((a0).getD (a7 : Int).toNat (0 : Int)) : Int).tdiv 256))) : Int).tmod 4)))]), (([] : List Int), (0, (0, ()))))))))]).length < lim)) then (some (.inl ((a0, a1, (), (), (IntKind.wrap .i64 (a7 + 1)), ()), (((), (), (), (), ()), (((b1_0).set (1 : Int).toNat (IntKind.wrap .u64 (((b1_0).getD (1 : Int).toNat (0 : Int)) + (IntKind.wrap .u64 (1 + (((IntKind.wrap .u64 (IntKind.wrap .u16 ((((a0).getD (a7 : Int).toNat (0 : Int)) : Int).tdiv 16))) : Int).tmod 4)))))), ()), ()), (q0, (q1 ++ [(1, ((IntKind.wrap .u64 ((IntKind.wrap .u64 (((q1).length : Nat) : Int)) + 1)), (((((b1_0).set (1 : Int).toNat (IntKind.wrap .u64 (((b1_0).getD (1 : Int).toNat (0 : Int)) + (IntKind.wrap .u64 (1 + (((IntKind.wrap .u64 (IntKind.wrap .u16 ((((a0).getD (a7 : Int).toNat (0 : Int)) : Int).tdiv 16))) : Int).tmod 4))))))).getD (1 : Int).toNat (0 : Int)), ((IntKind.wrap .u8 (1 + (((IntKind.wrap .u8 (IntKind.wrap .u16 ((((a0).getD (a7 : Int).toNat (0 : Int)) : Int).tdiv 64))) : Int).tmod 4))), ((strL [(IntKind.wrap .u8 (97 + (((IntKind.wrap .u8 (IntKind.wrap .u16 ((((a0).getD (a7 : Int).toNat (0 : Int)) : Int).tdiv 256))) : Int).tmod 4)))]), (([] : List Int), (0, (0, ()))))))))]), q2, q3, ())))) else none)))) else none) else none) else none) else none) else none) else none) else none) else none) else none) else (bif (decide (((((IntKind.wrap .i64 ((a0).getD (a7 : Int).toNat (0 : Int))) : Int).tmod a1) : Int) = 2)) then (bif (decide (0 ≤ (2 : Int) ∧ (2 : Int) < (((b1_0).length : Nat) : Int))) then (bif (decide ((2 : Int).toNat < (b1_0).length)) then (bif (decide (0 ≤ (a7 : Int) ∧ (a7 : Int) < (((a0).length : Nat) : Int))) then (bif (decide (0 ≤ (2 : Int) ∧ (2 : Int) < (((b1_0).length : Nat) : Int))) then (bif (decide ((2 : Int).toNat < (b1_0).length)) then (bif (decide (0 ≤ (2 : Int) ∧ (2 : Int) < (((((b1_0).set (2 : Int).toNat (IntKind.wrap .u64 (((b1_0).getD (2 : Int).toNat (0 : Int)) + (IntKind.wrap .u64 (1 + (((IntKind.wrap .u64 (IntKind.wrap .u16 ((((a0).getD (a7 : Int).toNat (0 : Int)) : Int).tdiv 16))) : Int).tmod 4))))))).length : Nat) : Int))) then (bif (decide ((2 : Int).toNat < (((b1_0).set (2 : Int).toNat (IntKind.wrap .u64 (((b1_0).getD (2 : Int).toNat (0 : Int)) + (IntKind.wrap .u64 (1 + (((IntKind.wrap .u64 (IntKind.wrap .u16 ((((a0).getD (a7 : Int).toNat (0 : Int)) : Int).tdiv 16))) : Int).tmod 4))))))).length)) then (bif (decide (0 ≤ (a7 : Int) ∧ (a7 : Int) < (((a0).length : Nat) : Int))) then (bif (decide (0 ≤ (a7 : Int) ∧ (a7 : Int) < (((a0).length : Nat) : Int))) then (bif (((IntKind.wrap .u8 (1 + (((IntKind.wrap .u8 (IntKind.wrap .u16 ((((a0).getD (a7 : Int).toNat (0 : Int)) : Int).tdiv 64))) : Int).tmod 4))) : Int) == 1) then (bif (((IntKind.wrap .u8 (1 + (((IntKind.wrap .u8 (IntKind.wrap .u16 ((((a0).getD (a7 : Int).toNat (0 : Int)) : Int).tdiv 64))) : Int).tmod 4))) : Int) == 2) then (bif (((FloatKind.f64).format.div ((FloatKind.nearest .f64 a7)) (4616189618054758400))).isSome then (bif (decide ((q2).length + ([(2, ((IntKind.wrap .u64 ((IntKind.wrap .u64 (((q2).length : Nat) : Int)) + 1)), (((((b1_0).set (2 : Int).toNat (IntKind.wrap .u64 (((b1_0).getD (2 : Int).toNat (0 : Int)) + (IntKind.wrap .u64 (1 + (((IntKind.wrap .u64 (IntKind.wrap .u16 ((((a0).getD (a7 : Int).toNat (0 : Int)) : Int).tdiv 16))) : Int).tmod 4))))))).getD (2 : Int).toNat (0 : Int)), ((IntKind.wrap .u8 (1 + (((IntKind.wrap .u8 (IntKind.wrap .u16 ((((a0).getD (a7 : Int).toNat (0 : Int)) : Int).tdiv 64))) : Int).tmod 4))), ((strL [(IntKind.wrap .u8 (97 + (((IntKind.wrap .u8 (IntKind.wrap .u16 ((((a0).getD (a7 : Int).toNat (0 : Int)) : Int).tdiv 256))) : Int).tmod 4)))]), ([(IntKind.wrap .u8 a7)], (((((FloatKind.f64).format.div ((FloatKind.nearest .f64 a7)) (4616189618054758400))).getD 0), (0, ()))))))))]).length < lim)) then (some (.inl ((a0, a1, (), (), (IntKind.wrap .i64 (a7 + 1)), ()), (((), (), (), (), ()), (((b1_0).set (2 : Int).toNat (IntKind.wrap .u64 (((b1_0).getD (2 : Int).toNat (0 : Int)) + (IntKind.wrap .u64 (1 + (((IntKind.wrap .u64 (IntKind.wrap .u16 ((((a0).getD (a7 : Int).toNat (0 : Int)) : Int).tdiv 16))) : Int).tmod 4)))))), ()), ()), (q0, q1, (q2 ++ [(2, ((IntKind.wrap .u64 ((IntKind.wrap .u64 (((q2).length : Nat) : Int)) + 1)), (((((b1_0).set (2 : Int).toNat (IntKind.wrap .u64 (((b1_0).getD (2 : Int).toNat (0 : Int)) + (IntKind.wrap .u64 (1 + (((IntKind.wrap .u64 (IntKind.wrap .u16 ((((a0).getD (a7 : Int).toNat (0 : Int)) : Int).tdiv 16))) : Int).tmod 4))))))).getD (2 : Int).toNat (0 : Int)), ((IntKind.wrap .u8 (1 + (((IntKind.wrap .u8 (IntKind.wrap .u16 ((((a0).getD (a7 : Int).toNat (0 : Int)) : Int).tdiv 64))) : Int).tmod 4))), ((strL [(IntKind.wrap .u8 (97 + (((IntKind.wrap .u8 (IntKind.wrap .u16 ((((a0).getD (a7 : Int).toNat (0 : Int)) : Int).tdiv 256))) : Int).tmod 4)))]), ([(IntKind.wrap .u8 a7)], (((((FloatKind.f64).format.div ((FloatKind.nearest .f64 a7)) (4616189618054758400))).getD 0), (0, ()))))))))]), q3, ())))) else none) else none) else (bif (((IntKind.wrap .u8 (1 + (((IntKind.wrap .u8 (IntKind.wrap .u16 ((((a0).getD (a7 : Int).toNat (0 : Int)) : Int).tdiv 64))) : Int).tmod 4))) : Int) == 3) then (bif (((FloatKind.f64).format.div ((FloatKind.nearest .f64 a7)) (4616189618054758400))).isSome then (bif (decide ((q2).length + ([(2, ((IntKind.wrap .u64 ((IntKind.wrap .u64 (((q2).length : Nat) : Int)) + 1)), (((((b1_0).set (2 : Int).toNat (IntKind.wrap .u64 (((b1_0).getD (2 : Int).toNat (0 : Int)) + (IntKind.wrap .u64 (1 + (((IntKind.wrap .u64 (IntKind.wrap .u16 ((((a0).getD (a7 : Int).toNat (0 : Int)) : Int).tdiv 16))) : Int).tmod 4))))))).getD (2 : Int).toNat (0 : Int)), ((IntKind.wrap .u8 (1 + (((IntKind.wrap .u8 (IntKind.wrap .u16 ((((a0).getD (a7 : Int).toNat (0 : Int)) : Int).tdiv 64))) : Int).tmod 4))), ((strL [(IntKind.wrap .u8 (97 + (((IntKind.wrap .u8 (IntKind.wrap .u16 ((((a0).getD (a7 : Int).toNat (0 : Int)) : Int).tdiv 256))) : Int).tmod 4)))]), ([(IntKind.wrap .u8 a7)], (((((FloatKind.f64).format.div ((FloatKind.nearest .f64 a7)) (4616189618054758400))).getD 0), (0, ()))))))))]).length < lim)) then (some (.inl ((a0, a1, (), (), (IntKind.wrap .i64 (a7 + 1)), ()), (((), (), (), (), ()), (((b1_0).set (2 : Int).toNat (IntKind.wrap .u64 (((b1_0).getD (2 : Int).toNat (0 : Int)) + (IntKind.wrap .u64 (1 + (((IntKind.wrap .u64 (IntKind.wrap .u16 ((((a0).getD (a7 : Int).toNat (0 : Int)) : Int).tdiv 16))) : Int).tmod 4)))))), ()), ()), (q0, q1, (q2 ++ [(2, ((IntKind.wrap .u64 ((IntKind.wrap .u64 (((q2).length : Nat) : Int)) + 1)), (((((b1_0).set (2 : Int).toNat (IntKind.wrap .u64 (((b1_0).getD (2 : Int).toNat (0 : Int)) + (IntKind.wrap .u64 (1 + (((IntKind.wrap .u64 (IntKind.wrap .u16 ((((a0).getD (a7 : Int).toNat (0 : Int)) : Int).tdiv 16))) : Int).tmod 4))))))).getD (2 : Int).toNat (0 : Int)), ((IntKind.wrap .u8 (1 + (((IntKind.wrap .u8 (IntKind.wrap .u16 ((((a0).getD (a7 : Int).toNat (0 : Int)) : Int).tdiv 64))) : Int).tmod 4))), ((strL [(IntKind.wrap .u8 (97 + (((IntKind.wrap .u8 (IntKind.wrap .u16 ((((a0).getD (a7 : Int).toNat (0 : Int)) : Int).tdiv 256))) : Int).tmod 4)))]), ([(IntKind.wrap .u8 a7)], (((((FloatKind.f64).format.div ((FloatKind.nearest .f64 a7)) (4616189618054758400))).getD 0), (0, ()))))))))]), q3, ())))) else none) else none) else (bif (decide ((q2).length + ([(2, ((IntKind.wrap .u64 ((IntKind.wrap .u64 (((q2).length : Nat) : Int)) + 1)), (((((b1_0).set (2 : Int).toNat (IntKind.wrap .u64 (((b1_0).getD (2 : Int).toNat (0 : Int)) + (IntKind.wrap .u64 (1 + (((IntKind.wrap .u64 (IntKind.wrap .u16 ((((a0).getD (a7 : Int).toNat (0 : Int)) : Int).tdiv 16))) : Int).tmod 4))))))).getD (2 : Int).toNat (0 : Int)), ((IntKind.wrap .u8 (1 + (((IntKind.wrap .u8 (IntKind.wrap .u16 ((((a0).getD (a7 : Int).toNat (0 : Int)) : Int).tdiv 64))) : Int).tmod 4))), ((strL [(IntKind.wrap .u8 (97 + (((IntKind.wrap .u8 (IntKind.wrap .u16 ((((a0).getD (a7 : Int).toNat (0 : Int)) : Int).tdiv 256))) : Int).tmod 4)))]), ([(IntKind.wrap .u8 a7)], (0, (0, ()))))))))]).length < lim)) then (some (.inl ((a0, a1, (), (), (IntKind.wrap .i64 (a7 + 1)), ()), (((), (), (), (), ()), (((b1_0).set (2 : Int).toNat (IntKind.wrap .u64 (((b1_0).getD (2 : Int).toNat (0 : Int)) + (IntKind.wrap .u64 (1 + (((IntKind.wrap .u64 (IntKind.wrap .u16 ((((a0).getD (a7 : Int).toNat (0 : Int)) : Int).tdiv 16))) : Int).tmod 4)))))), ()), ()), (q0, q1, (q2 ++ [(2, ((IntKind.wrap .u64 ((IntKind.wrap .u64 (((q2).length : Nat) : Int)) + 1)), (((((b1_0).set (2 : Int).toNat (IntKind.wrap .u64 (((b1_0).getD (2 : Int).toNat (0 : Int)) + (IntKind.wrap .u64 (1 + (((IntKind.wrap .u64 (IntKind.wrap .u16 ((((a0).getD (a7 : Int).toNat (0 : Int)) : Int).tdiv 16))) : Int).tmod 4))))))).getD (2 : Int).toNat (0 : Int)), ((IntKind.wrap .u8 (1 + (((IntKind.wrap .u8 (IntKind.wrap .u16 ((((a0).getD (a7 : Int).toNat (0 : Int)) : Int).tdiv 64))) : Int).tmod 4))), ((strL [(IntKind.wrap .u8 (97 + (((IntKind.wrap .u8 (IntKind.wrap .u16 ((((a0).getD (a7 : Int).toNat (0 : Int)) : Int).tdiv 256))) : Int).tmod 4)))]), ([(IntKind.wrap .u8 a7)], (0, (0, ()))))))))]), q3, ())))) else none))) else (bif (((IntKind.wrap .u8 (1 + (((IntKind.wrap .u8 (IntKind.wrap .u16 ((((a0).getD (a7 : Int).toNat (0 : Int)) : Int).tdiv 64))) : Int).tmod 4))) : Int) == 2) then (bif (((FloatKind.f64).format.div ((FloatKind.nearest .f64 a7)) (4616189618054758400))).isSome then (bif (decide ((q2).length + ([(2, ((IntKind.wrap .u64 ((IntKind.wrap .u64 (((q2).length : Nat) : Int)) + 1)), (((((b1_0).set (2 : Int).toNat (IntKind.wrap .u64 (((b1_0).getD (2 : Int).toNat (0 : Int)) + (IntKind.wrap .u64 (1 + (((IntKind.wrap .u64 (IntKind.wrap .u16 ((((a0).getD (a7 : Int).toNat (0 : Int)) : Int).tdiv 16))) : Int).tmod 4))))))).getD (2 : Int).toNat (0 : Int)), ((IntKind.wrap .u8 (1 + (((IntKind.wrap .u8 (IntKind.wrap .u16 ((((a0).getD (a7 : Int).toNat (0 : Int)) : Int).tdiv 64))) : Int).tmod 4))), ((strL [(IntKind.wrap .u8 (97 + (((IntKind.wrap .u8 (IntKind.wrap .u16 ((((a0).getD (a7 : Int).toNat (0 : Int)) : Int).tdiv 256))) : Int).tmod 4)))]), (([] : List Int), (((((FloatKind.f64).format.div ((FloatKind.nearest .f64 a7)) (4616189618054758400))).getD 0), (0, ()))))))))]).length < lim)) then (some (.inl ((a0, a1, (), (), (IntKind.wrap .i64 (a7 + 1)), ()), (((), (), (), (), ()), (((b1_0).set (2 : Int).toNat (IntKind.wrap .u64 (((b1_0).getD (2 : Int).toNat (0 : Int)) + (IntKind.wrap .u64 (1 + (((IntKind.wrap .u64 (IntKind.wrap .u16 ((((a0).getD (a7 : Int).toNat (0 : Int)) : Int).tdiv 16))) : Int).tmod 4)))))), ()), ()), (q0, q1, (q2 ++ [(2, ((IntKind.wrap .u64 ((IntKind.wrap .u64 (((q2).length : Nat) : Int)) + 1)), (((((b1_0).set (2 : Int).toNat (IntKind.wrap .u64 (((b1_0).getD (2 : Int).toNat (0 : Int)) + (IntKind.wrap .u64 (1 + (((IntKind.wrap .u64 (IntKind.wrap .u16 ((((a0).getD (a7 : Int).toNat (0 : Int)) : Int).tdiv 16))) : Int).tmod 4))))))).getD (2 : Int).toNat (0 : Int)), ((IntKind.wrap .u8 (1 + (((IntKind.wrap .u8 (IntKind.wrap .u16 ((((a0).getD (a7 : Int).toNat (0 : Int)) : Int).tdiv 64))) : Int).tmod 4))), ((strL [(IntKind.wrap .u8 (97 + (((IntKind.wrap .u8 (IntKind.wrap .u16 ((((a0).getD (a7 : Int).toNat (0 : Int)) : Int).tdiv 256))) : Int).tmod 4)))]), (([] : List Int), (((((FloatKind.f64).format.div ((FloatKind.nearest .f64 a7)) (4616189618054758400))).getD 0), (0, ()))))))))]), q3, ())))) else none) else none) else (bif (((IntKind.wrap .u8 (1 + (((IntKind.wrap .u8 (IntKind.wrap .u16 ((((a0).getD (a7 : Int).toNat (0 : Int)) : Int).tdiv 64))) : Int).tmod 4))) : Int) == 3) then (bif (((FloatKind.f64).format.div ((FloatKind.nearest .f64 a7)) (4616189618054758400))).isSome then (bif (decide ((q2).length + ([(2, ((IntKind.wrap .u64 ((IntKind.wrap .u64 (((q2).length : Nat) : Int)) + 1)), (((((b1_0).set (2 : Int).toNat (IntKind.wrap .u64 (((b1_0).getD (2 : Int).toNat (0 : Int)) + (IntKind.wrap .u64 (1 + (((IntKind.wrap .u64 (IntKind.wrap .u16 ((((a0).getD (a7 : Int).toNat (0 : Int)) : Int).tdiv 16))) : Int).tmod 4))))))).getD (2 : Int).toNat (0 : Int)), ((IntKind.wrap .u8 (1 + (((IntKind.wrap .u8 (IntKind.wrap .u16 ((((a0).getD (a7 : Int).toNat (0 : Int)) : Int).tdiv 64))) : Int).tmod 4))), ((strL [(IntKind.wrap .u8 (97 + (((IntKind.wrap .u8 (IntKind.wrap .u16 ((((a0).getD (a7 : Int).toNat (0 : Int)) : Int).tdiv 256))) : Int).tmod 4)))]), (([] : List Int), (((((FloatKind.f64).format.div ((FloatKind.nearest .f64 a7)) (4616189618054758400))).getD 0), (0, ()))))))))]).length < lim)) then (some (.inl ((a0, a1, (), (), (IntKind.wrap .i64 (a7 + 1)), ()), (((), (), (), (), ()), (((b1_0).set (2 : Int).toNat (IntKind.wrap .u64 (((b1_0).getD (2 : Int).toNat (0 : Int)) + (IntKind.wrap .u64 (1 + (((IntKind.wrap .u64 (IntKind.wrap .u16 ((((a0).getD (a7 : Int).toNat (0 : Int)) : Int).tdiv 16))) : Int).tmod 4)))))), ()), ()), (q0, q1, (q2 ++ [(2, ((IntKind.wrap .u64 ((IntKind.wrap .u64 (((q2).length : Nat) : Int)) + 1)), (((((b1_0).set (2 : Int).toNat (IntKind.wrap .u64 (((b1_0).getD (2 : Int).toNat (0 : Int)) + (IntKind.wrap .u64 (1 + (((IntKind.wrap .u64 (IntKind.wrap .u16 ((((a0).getD (a7 : Int).toNat (0 : Int)) : Int).tdiv 16))) : Int).tmod 4))))))).getD (2 : Int).toNat (0 : Int)), ((IntKind.wrap .u8 (1 + (((IntKind.wrap .u8 (IntKind.wrap .u16 ((((a0).getD (a7 : Int).toNat (0 : Int)) : Int).tdiv 64))) : Int).tmod 4))), ((strL [(IntKind.wrap .u8 (97 + (((IntKind.wrap .u8 (IntKind.wrap .u16 ((((a0).getD (a7 : Int).toNat (0 : Int)) : Int).tdiv 256))) : Int).tmod 4)))]), (([] : List Int), (((((FloatKind.f64).format.div ((FloatKind.nearest .f64 a7)) (4616189618054758400))).getD 0), (0, ()))))))))]), q3, ())))) else none) else none) else (bif (decide ((q2).length + ([(2, ((IntKind.wrap .u64 ((IntKind.wrap .u64 (((q2).length : Nat) : Int)) + 1)), (((((b1_0).set (2 : Int).toNat (IntKind.wrap .u64 (((b1_0).getD (2 : Int).toNat (0 : Int)) + (IntKind.wrap .u64 (1 + (((IntKind.wrap .u64 (IntKind.wrap .u16 ((((a0).getD (a7 : Int).toNat (0 : Int)) : Int).tdiv 16))) : Int).tmod 4))))))).getD (2 : Int).toNat (0 : Int)), ((IntKind.wrap .u8 (1 + (((IntKind.wrap .u8 (IntKind.wrap .u16 ((((a0).getD (a7 : Int).toNat (0 : Int)) : Int).tdiv 64))) : Int).tmod 4))), ((strL [(IntKind.wrap .u8 (97 + (((IntKind.wrap .u8 (IntKind.wrap .u16 ((((a0).getD (a7 : Int).toNat (0 : Int)) : Int).tdiv 256))) : Int).tmod 4)))]), (([] : List Int), (0, (0, ()))))))))]).length < lim)) then (some (.inl ((a0, a1, (), (), (IntKind.wrap .i64 (a7 + 1)), ()), (((), (), (), (), ()), (((b1_0).set (2 : Int).toNat (IntKind.wrap .u64 (((b1_0).getD (2 : Int).toNat (0 : Int)) + (IntKind.wrap .u64 (1 + (((IntKind.wrap .u64 (IntKind.wrap .u16 ((((a0).getD (a7 : Int).toNat (0 : Int)) : Int).tdiv 16))) : Int).tmod 4)))))), ()), ()), (q0, q1, (q2 ++ [(2, ((IntKind.wrap .u64 ((IntKind.wrap .u64 (((q2).length : Nat) : Int)) + 1)), (((((b1_0).set (2 : Int).toNat (IntKind.wrap .u64 (((b1_0).getD (2 : Int).toNat (0 : Int)) + (IntKind.wrap .u64 (1 + (((IntKind.wrap .u64 (IntKind.wrap .u16 ((((a0).getD (a7 : Int).toNat (0 : Int)) : Int).tdiv 16))) : Int).tmod 4))))))).getD (2 : Int).toNat (0 : Int)), ((IntKind.wrap .u8 (1 + (((IntKind.wrap .u8 (IntKind.wrap .u16 ((((a0).getD (a7 : Int).toNat (0 : Int)) : Int).tdiv 64))) : Int).tmod 4))), ((strL [(IntKind.wrap .u8 (97 + (((IntKind.wrap .u8 (IntKind.wrap .u16 ((((a0).getD (a7 : Int).toNat (0 : Int)) : Int).tdiv 256))) : Int).tmod 4)))]), (([] : List Int), (0, (0, ()))))))))]), q3, ())))) else none)))) else none) else none) else none) else none) else none) else none) else none) else none) else none) else (bif (decide (((((IntKind.wrap .i64 ((a0).getD (a7 : Int).toNat (0 : Int))) : Int).tmod a1) : Int) = 3)) then (bif (decide (0 ≤ (3 : Int) ∧ (3 : Int) < (((b1_0).length : Nat) : Int))) then (bif (decide ((3 : Int).toNat < (b1_0).length)) then (bif (decide (0 ≤ (a7 : Int) ∧ (a7 : Int) < (((a0).length : Nat) : Int))) then (bif (decide (0 ≤ (3 : Int) ∧ (3 : Int) < (((b1_0).length : Nat) : Int))) then (bif (decide ((3 : Int).toNat < (b1_0).length)) then (bif (decide (0 ≤ (3 : Int) ∧ (3 : Int) < (((((b1_0).set (3 : Int).toNat (IntKind.wrap .u64 (((b1_0).getD (3 : Int).toNat (0 : Int)) + (IntKind.wrap .u64 (1 + (((IntKind.wrap .u64 (IntKind.wrap .u16 ((((a0).getD (a7 : Int).toNat (0 : Int)) : Int).tdiv 16))) : Int).tmod 4))))))).length : Nat) : Int))) then (bif (decide ((3 : Int).toNat < (((b1_0).set (3 : Int).toNat (IntKind.wrap .u64 (((b1_0).getD (3 : Int).toNat (0 : Int)) + (IntKind.wrap .u64 (1 + (((IntKind.wrap .u64 (IntKind.wrap .u16 ((((a0).getD (a7 : Int).toNat (0 : Int)) : Int).tdiv 16))) : Int).tmod 4))))))).length)) then (bif (decide (0 ≤ (a7 : Int) ∧ (a7 : Int) < (((a0).length : Nat) : Int))) then (bif (decide (0 ≤ (a7 : Int) ∧ (a7 : Int) < (((a0).length : Nat) : Int))) then (bif (((IntKind.wrap .u8 (1 + (((IntKind.wrap .u8 (IntKind.wrap .u16 ((((a0).getD (a7 : Int).toNat (0 : Int)) : Int).tdiv 64))) : Int).tmod 4))) : Int) == 1) then (bif (((IntKind.wrap .u8 (1 + (((IntKind.wrap .u8 (IntKind.wrap .u16 ((((a0).getD (a7 : Int).toNat (0 : Int)) : Int).tdiv 64))) : Int).tmod 4))) : Int) == 2) then (bif (((FloatKind.f64).format.div ((FloatKind.nearest .f64 a7)) (4616189618054758400))).isSome then (bif (decide ((q3).length + ([(3, ((IntKind.wrap .u64 ((IntKind.wrap .u64 (((q3).length : Nat) : Int)) + 1)), (((((b1_0).set (3 : Int).toNat (IntKind.wrap .u64 (((b1_0).getD (3 : Int).toNat (0 : Int)) + (IntKind.wrap .u64 (1 + (((IntKind.wrap .u64 (IntKind.wrap .u16 ((((a0).getD (a7 : Int).toNat (0 : Int)) : Int).tdiv 16))) : Int).tmod 4))))))).getD (3 : Int).toNat (0 : Int)), ((IntKind.wrap .u8 (1 + (((IntKind.wrap .u8 (IntKind.wrap .u16 ((((a0).getD (a7 : Int).toNat (0 : Int)) : Int).tdiv 64))) : Int).tmod 4))), ((strL [(IntKind.wrap .u8 (97 + (((IntKind.wrap .u8 (IntKind.wrap .u16 ((((a0).getD (a7 : Int).toNat (0 : Int)) : Int).tdiv 256))) : Int).tmod 4)))]), ([(IntKind.wrap .u8 a7)], (((((FloatKind.f64).format.div ((FloatKind.nearest .f64 a7)) (4616189618054758400))).getD 0), (0, ()))))))))]).length < lim)) then (some (.inl ((a0, a1, (), (), (IntKind.wrap .i64 (a7 + 1)), ()), (((), (), (), (), ()), (((b1_0).set (3 : Int).toNat (IntKind.wrap .u64 (((b1_0).getD (3 : Int).toNat (0 : Int)) + (IntKind.wrap .u64 (1 + (((IntKind.wrap .u64 (IntKind.wrap .u16 ((((a0).getD (a7 : Int).toNat (0 : Int)) : Int).tdiv 16))) : Int).tmod 4)))))), ()), ()), (q0, q1, q2, (q3 ++ [(3, ((IntKind.wrap .u64 ((IntKind.wrap .u64 (((q3).length : Nat) : Int)) + 1)), (((((b1_0).set (3 : Int).toNat (IntKind.wrap .u64 (((b1_0).getD (3 : Int).toNat (0 : Int)) + (IntKind.wrap .u64 (1 + (((IntKind.wrap .u64 (IntKind.wrap .u16 ((((a0).getD (a7 : Int).toNat (0 : Int)) : Int).tdiv 16))) : Int).tmod 4))))))).getD (3 : Int).toNat (0 : Int)), ((IntKind.wrap .u8 (1 + (((IntKind.wrap .u8 (IntKind.wrap .u16 ((((a0).getD (a7 : Int).toNat (0 : Int)) : Int).tdiv 64))) : Int).tmod 4))), ((strL [(IntKind.wrap .u8 (97 + (((IntKind.wrap .u8 (IntKind.wrap .u16 ((((a0).getD (a7 : Int).toNat (0 : Int)) : Int).tdiv 256))) : Int).tmod 4)))]), ([(IntKind.wrap .u8 a7)], (((((FloatKind.f64).format.div ((FloatKind.nearest .f64 a7)) (4616189618054758400))).getD 0), (0, ()))))))))]), ())))) else none) else none) else (bif (((IntKind.wrap .u8 (1 + (((IntKind.wrap .u8 (IntKind.wrap .u16 ((((a0).getD (a7 : Int).toNat (0 : Int)) : Int).tdiv 64))) : Int).tmod 4))) : Int) == 3) then (bif (((FloatKind.f64).format.div ((FloatKind.nearest .f64 a7)) (4616189618054758400))).isSome then (bif (decide ((q3).length + ([(3, ((IntKind.wrap .u64 ((IntKind.wrap .u64 (((q3).length : Nat) : Int)) + 1)), (((((b1_0).set (3 : Int).toNat (IntKind.wrap .u64 (((b1_0).getD (3 : Int).toNat (0 : Int)) + (IntKind.wrap .u64 (1 + (((IntKind.wrap .u64 (IntKind.wrap .u16 ((((a0).getD (a7 : Int).toNat (0 : Int)) : Int).tdiv 16))) : Int).tmod 4))))))).getD (3 : Int).toNat (0 : Int)), ((IntKind.wrap .u8 (1 + (((IntKind.wrap .u8 (IntKind.wrap .u16 ((((a0).getD (a7 : Int).toNat (0 : Int)) : Int).tdiv 64))) : Int).tmod 4))), ((strL [(IntKind.wrap .u8 (97 + (((IntKind.wrap .u8 (IntKind.wrap .u16 ((((a0).getD (a7 : Int).toNat (0 : Int)) : Int).tdiv 256))) : Int).tmod 4)))]), ([(IntKind.wrap .u8 a7)], (((((FloatKind.f64).format.div ((FloatKind.nearest .f64 a7)) (4616189618054758400))).getD 0), (0, ()))))))))]).length < lim)) then (some (.inl ((a0, a1, (), (), (IntKind.wrap .i64 (a7 + 1)), ()), (((), (), (), (), ()), (((b1_0).set (3 : Int).toNat (IntKind.wrap .u64 (((b1_0).getD (3 : Int).toNat (0 : Int)) + (IntKind.wrap .u64 (1 + (((IntKind.wrap .u64 (IntKind.wrap .u16 ((((a0).getD (a7 : Int).toNat (0 : Int)) : Int).tdiv 16))) : Int).tmod 4)))))), ()), ()), (q0, q1, q2, (q3 ++ [(3, ((IntKind.wrap .u64 ((IntKind.wrap .u64 (((q3).length : Nat) : Int)) + 1)), (((((b1_0).set (3 : Int).toNat (IntKind.wrap .u64 (((b1_0).getD (3 : Int).toNat (0 : Int)) + (IntKind.wrap .u64 (1 + (((IntKind.wrap .u64 (IntKind.wrap .u16 ((((a0).getD (a7 : Int).toNat (0 : Int)) : Int).tdiv 16))) : Int).tmod 4))))))).getD (3 : Int).toNat (0 : Int)), ((IntKind.wrap .u8 (1 + (((IntKind.wrap .u8 (IntKind.wrap .u16 ((((a0).getD (a7 : Int).toNat (0 : Int)) : Int).tdiv 64))) : Int).tmod 4))), ((strL [(IntKind.wrap .u8 (97 + (((IntKind.wrap .u8 (IntKind.wrap .u16 ((((a0).getD (a7 : Int).toNat (0 : Int)) : Int).tdiv 256))) : Int).tmod 4)))]), ([(IntKind.wrap .u8 a7)], (((((FloatKind.f64).format.div ((FloatKind.nearest .f64 a7)) (4616189618054758400))).getD 0), (0, ()))))))))]), ())))) else none) else none) else (bif (decide ((q3).length + ([(3, ((IntKind.wrap .u64 ((IntKind.wrap .u64 (((q3).length : Nat) : Int)) + 1)), (((((b1_0).set (3 : Int).toNat (IntKind.wrap .u64 (((b1_0).getD (3 : Int).toNat (0 : Int)) + (IntKind.wrap .u64 (1 + (((IntKind.wrap .u64 (IntKind.wrap .u16 ((((a0).getD (a7 : Int).toNat (0 : Int)) : Int).tdiv 16))) : Int).tmod 4))))))).getD (3 : Int).toNat (0 : Int)), ((IntKind.wrap .u8 (1 + (((IntKind.wrap .u8 (IntKind.wrap .u16 ((((a0).getD (a7 : Int).toNat (0 : Int)) : Int).tdiv 64))) : Int).tmod 4))), ((strL [(IntKind.wrap .u8 (97 + (((IntKind.wrap .u8 (IntKind.wrap .u16 ((((a0).getD (a7 : Int).toNat (0 : Int)) : Int).tdiv 256))) : Int).tmod 4)))]), ([(IntKind.wrap .u8 a7)], (0, (0, ()))))))))]).length < lim)) then (some (.inl ((a0, a1, (), (), (IntKind.wrap .i64 (a7 + 1)), ()), (((), (), (), (), ()), (((b1_0).set (3 : Int).toNat (IntKind.wrap .u64 (((b1_0).getD (3 : Int).toNat (0 : Int)) + (IntKind.wrap .u64 (1 + (((IntKind.wrap .u64 (IntKind.wrap .u16 ((((a0).getD (a7 : Int).toNat (0 : Int)) : Int).tdiv 16))) : Int).tmod 4)))))), ()), ()), (q0, q1, q2, (q3 ++ [(3, ((IntKind.wrap .u64 ((IntKind.wrap .u64 (((q3).length : Nat) : Int)) + 1)), (((((b1_0).set (3 : Int).toNat (IntKind.wrap .u64 (((b1_0).getD (3 : Int).toNat (0 : Int)) + (IntKind.wrap .u64 (1 + (((IntKind.wrap .u64 (IntKind.wrap .u16 ((((a0).getD (a7 : Int).toNat (0 : Int)) : Int).tdiv 16))) : Int).tmod 4))))))).getD (3 : Int).toNat (0 : Int)), ((IntKind.wrap .u8 (1 + (((IntKind.wrap .u8 (IntKind.wrap .u16 ((((a0).getD (a7 : Int).toNat (0 : Int)) : Int).tdiv 64))) : Int).tmod 4))), ((strL [(IntKind.wrap .u8 (97 + (((IntKind.wrap .u8 (IntKind.wrap .u16 ((((a0).getD (a7 : Int).toNat (0 : Int)) : Int).tdiv 256))) : Int).tmod 4)))]), ([(IntKind.wrap .u8 a7)], (0, (0, ()))))))))]), ())))) else none))) else (bif (((IntKind.wrap .u8 (1 + (((IntKind.wrap .u8 (IntKind.wrap .u16 ((((a0).getD (a7 : Int).toNat (0 : Int)) : Int).tdiv 64))) : Int).tmod 4))) : Int) == 2) then (bif (((FloatKind.f64).format.div ((FloatKind.nearest .f64 a7)) (4616189618054758400))).isSome then (bif (decide ((q3).length + ([(3, ((IntKind.wrap .u64 ((IntKind.wrap .u64 (((q3).length : Nat) : Int)) + 1)), (((((b1_0).set (3 : Int).toNat (IntKind.wrap .u64 (((b1_0).getD (3 : Int).toNat (0 : Int)) + (IntKind.wrap .u64 (1 + (((IntKind.wrap .u64 (IntKind.wrap .u16 ((((a0).getD (a7 : Int).toNat (0 : Int)) : Int).tdiv 16))) : Int).tmod 4))))))).getD (3 : Int).toNat (0 : Int)), ((IntKind.wrap .u8 (1 + (((IntKind.wrap .u8 (IntKind.wrap .u16 ((((a0).getD (a7 : Int).toNat (0 : Int)) : Int).tdiv 64))) : Int).tmod 4))), ((strL [(IntKind.wrap .u8 (97 + (((IntKind.wrap .u8 (IntKind.wrap .u16 ((((a0).getD (a7 : Int).toNat (0 : Int)) : Int).tdiv 256))) : Int).tmod 4)))]), (([] : List Int), (((((FloatKind.f64).format.div ((FloatKind.nearest .f64 a7)) (4616189618054758400))).getD 0), (0, ()))))))))]).length < lim)) then (some (.inl ((a0, a1, (), (), (IntKind.wrap .i64 (a7 + 1)), ()), (((), (), (), (), ()), (((b1_0).set (3 : Int).toNat (IntKind.wrap .u64 (((b1_0).getD (3 : Int).toNat (0 : Int)) + (IntKind.wrap .u64 (1 + (((IntKind.wrap .u64 (IntKind.wrap .u16 ((((a0).getD (a7 : Int).toNat (0 : Int)) : Int).tdiv 16))) : Int).tmod 4)))))), ()), ()), (q0, q1, q2, (q3 ++ [(3, ((IntKind.wrap .u64 ((IntKind.wrap .u64 (((q3).length : Nat) : Int)) + 1)), (((((b1_0).set (3 : Int).toNat (IntKind.wrap .u64 (((b1_0).getD (3 : Int).toNat (0 : Int)) + (IntKind.wrap .u64 (1 + (((IntKind.wrap .u64 (IntKind.wrap .u16 ((((a0).getD (a7 : Int).toNat (0 : Int)) : Int).tdiv 16))) : Int).tmod 4))))))).getD (3 : Int).toNat (0 : Int)), ((IntKind.wrap .u8 (1 + (((IntKind.wrap .u8 (IntKind.wrap .u16 ((((a0).getD (a7 : Int).toNat (0 : Int)) : Int).tdiv 64))) : Int).tmod 4))), ((strL [(IntKind.wrap .u8 (97 + (((IntKind.wrap .u8 (IntKind.wrap .u16 ((((a0).getD (a7 : Int).toNat (0 : Int)) : Int).tdiv 256))) : Int).tmod 4)))]), (([] : List Int), (((((FloatKind.f64).format.div ((FloatKind.nearest .f64 a7)) (4616189618054758400))).getD 0), (0, ()))))))))]), ())))) else none) else none) else (bif (((IntKind.wrap .u8 (1 + (((IntKind.wrap .u8 (IntKind.wrap .u16 ((((a0).getD (a7 : Int).toNat (0 : Int)) : Int).tdiv 64))) : Int).tmod 4))) : Int) == 3) then (bif (((FloatKind.f64).format.div ((FloatKind.nearest .f64 a7)) (4616189618054758400))).isSome then (bif (decide ((q3).length + ([(3, ((IntKind.wrap .u64 ((IntKind.wrap .u64 (((q3).length : Nat) : Int)) + 1)), (((((b1_0).set (3 : Int).toNat (IntKind.wrap .u64 (((b1_0).getD (3 : Int).toNat (0 : Int)) + (IntKind.wrap .u64 (1 + (((IntKind.wrap .u64 (IntKind.wrap .u16 ((((a0).getD (a7 : Int).toNat (0 : Int)) : Int).tdiv 16))) : Int).tmod 4))))))).getD (3 : Int).toNat (0 : Int)), ((IntKind.wrap .u8 (1 + (((IntKind.wrap .u8 (IntKind.wrap .u16 ((((a0).getD (a7 : Int).toNat (0 : Int)) : Int).tdiv 64))) : Int).tmod 4))), ((strL [(IntKind.wrap .u8 (97 + (((IntKind.wrap .u8 (IntKind.wrap .u16 ((((a0).getD (a7 : Int).toNat (0 : Int)) : Int).tdiv 256))) : Int).tmod 4)))]), (([] : List Int), (((((FloatKind.f64).format.div ((FloatKind.nearest .f64 a7)) (4616189618054758400))).getD 0), (0, ()))))))))]).length < lim)) then (some (.inl ((a0, a1, (), (), (IntKind.wrap .i64 (a7 + 1)), ()), (((), (), (), (), ()), (((b1_0).set (3 : Int).toNat (IntKind.wrap .u64 (((b1_0).getD (3 : Int).toNat (0 : Int)) + (IntKind.wrap .u64 (1 + (((IntKind.wrap .u64 (IntKind.wrap .u16 ((((a0).getD (a7 : Int).toNat (0 : Int)) : Int).tdiv 16))) : Int).tmod 4)))))), ()), ()), (q0, q1, q2, (q3 ++ [(3, ((IntKind.wrap .u64 ((IntKind.wrap .u64 (((q3).length : Nat) : Int)) + 1)), (((((b1_0).set (3 : Int).toNat (IntKind.wrap .u64 (((b1_0).getD (3 : Int).toNat (0 : Int)) + (IntKind.wrap .u64 (1 + (((IntKind.wrap .u64 (IntKind.wrap .u16 ((((a0).getD (a7 : Int).toNat (0 : Int)) : Int).tdiv 16))) : Int).tmod 4))))))).getD (3 : Int).toNat (0 : Int)), ((IntKind.wrap .u8 (1 + (((IntKind.wrap .u8 (IntKind.wrap .u16 ((((a0).getD (a7 : Int).toNat (0 : Int)) : Int).tdiv 64))) : Int).tmod 4))), ((strL [(IntKind.wrap .u8 (97 + (((IntKind.wrap .u8 (IntKind.wrap .u16 ((((a0).getD (a7 : Int).toNat (0 : Int)) : Int).tdiv 256))) : Int).tmod 4)))]), (([] : List Int), (((((FloatKind.f64).format.div ((FloatKind.nearest .f64 a7)) (4616189618054758400))).getD 0), (0, ()))))))))]), ())))) else none) else none) else (bif (decide ((q3).length + ([(3, ((IntKind.wrap .u64 ((IntKind.wrap .u64 (((q3).length : Nat) : Int)) + 1)), (((((b1_0).set (3 : Int).toNat (IntKind.wrap .u64 (((b1_0).getD (3 : Int).toNat (0 : Int)) + (IntKind.wrap .u64 (1 + (((IntKind.wrap .u64 (IntKind.wrap .u16 ((((a0).getD (a7 : Int).toNat (0 : Int)) : Int).tdiv 16))) : Int).tmod 4))))))).getD (3 : Int).toNat (0 : Int)), ((IntKind.wrap .u8 (1 + (((IntKind.wrap .u8 (IntKind.wrap .u16 ((((a0).getD (a7 : Int).toNat (0 : Int)) : Int).tdiv 64))) : Int).tmod 4))), ((strL [(IntKind.wrap .u8 (97 + (((IntKind.wrap .u8 (IntKind.wrap .u16 ((((a0).getD (a7 : Int).toNat (0 : Int)) : Int).tdiv 256))) : Int).tmod 4)))]), (([] : List Int), (0, (0, ()))))))))]).length < lim)) then (some (.inl ((a0, a1, (), (), (IntKind.wrap .i64 (a7 + 1)), ()), (((), (), (), (), ()), (((b1_0).set (3 : Int).toNat (IntKind.wrap .u64 (((b1_0).getD (3 : Int).toNat (0 : Int)) + (IntKind.wrap .u64 (1 + (((IntKind.wrap .u64 (IntKind.wrap .u16 ((((a0).getD (a7 : Int).toNat (0 : Int)) : Int).tdiv 16))) : Int).tmod 4)))))), ()), ()), (q0, q1, q2, (q3 ++ [(3, ((IntKind.wrap .u64 ((IntKind.wrap .u64 (((q3).length : Nat) : Int)) + 1)), (((((b1_0).set (3 : Int).toNat (IntKind.wrap .u64 (((b1_0).getD (3 : Int).toNat (0 : Int)) + (IntKind.wrap .u64 (1 + (((IntKind.wrap .u64 (IntKind.wrap .u16 ((((a0).getD (a7 : Int).toNat (0 : Int)) : Int).tdiv 16))) : Int).tmod 4))))))).getD (3 : Int).toNat (0 : Int)), ((IntKind.wrap .u8 (1 + (((IntKind.wrap .u8 (IntKind.wrap .u16 ((((a0).getD (a7 : Int).toNat (0 : Int)) : Int).tdiv 64))) : Int).tmod 4))), ((strL [(IntKind.wrap .u8 (97 + (((IntKind.wrap .u8 (IntKind.wrap .u16 ((((a0).getD (a7 : Int).toNat (0 : Int)) : Int).tdiv 256))) : Int).tmod 4)))]), (([] : List Int), (0, (0, ()))))))))]), ())))) else none)))) else none) else none) else none) else none) else none) else none) else none) else none) else none) else none)))) else none) else none) else (some (.inr ((), (((), (), (), (), ()), (b1_0, ()), ()), (q0, q1, q2, q3, ()))))) else (some (.inr ((), (((), (), (), (), ()), (b1_0, ()), ()), (q0, q1, q2, q3, ())))))
noncomputable def L11f_4 (a0 : (List Int)) (a1 : Int) (a7 : Int) (b1_0 : (List Int)) (q0 : (List (Int × (Int × (Int × (Int × (ByteArray × ((List Int) × (Nat × (Int × Unit)))))))))) (q1 : (List (Int × (Int × (Int × (Int × (ByteArray × ((List Int) × (Nat × (Int × Unit)))))))))) (q2 : (List (Int × (Int × (Int × (Int × (ByteArray × ((List Int) × (Nat × (Int × Unit)))))))))) (q3 : (List (Int × (Int × (Int × (Int × (ByteArray × ((List Int) × (Nat × (Int × Unit)))))))))) : Option (Unit × ((Unit × (Unit × (Unit × (Unit × Unit)))) × (((List Int) × Unit) × Unit)) × ((List (Int × (Int × (Int × (Int × (ByteArray × ((List Int) × (Nat × (Int × Unit))))))))) × ((List (Int × (Int × (Int × (Int × (ByteArray × ((List Int) × (Nat × (Int × Unit))))))))) × ((List (Int × (Int × (Int × (Int × (ByteArray × ((List Int) × (Nat × (Int × Unit))))))))) × ((List (Int × (Int × (Int × (Int × (ByteArray × ((List Int) × (Nat × (Int × Unit))))))))) × Unit))))) := loopF (fun x : (((List Int) × (Int × (Unit × (Unit × (Int × Unit))))) × ((Unit × (Unit × (Unit × (Unit × Unit)))) × (((List Int) × Unit) × Unit)) × ((List (Int × (Int × (Int × (Int × (ByteArray × ((List Int) × (Nat × (Int × Unit))))))))) × ((List (Int × (Int × (Int × (Int × (ByteArray × ((List Int) × (Nat × (Int × Unit))))))))) × ((List (Int × (Int × (Int × (Int × (ByteArray × ((List Int) × (Nat × (Int × Unit))))))))) × ((List (Int × (Int × (Int × (Int × (ByteArray × ((List Int) × (Nat × (Int × Unit))))))))) × Unit))))) => T11f_4 x.1.1 x.1.2.1 x.1.2.2.2.2.1 x.2.1.2.1.1 x.2.2.1 x.2.2.2.1 x.2.2.2.2.1 x.2.2.2.2.2.1) ((a0, a1, (), (), a7, ()), (((), (), (), (), ()), (b1_0, ()), ()), (q0, q1, q2, q3, ()))
theorem L11f_4_eq (a0 : (List Int)) (a1 : Int) (a7 : Int) (b1_0 : (List Int)) (q0 : (List (Int × (Int × (Int × (Int × (ByteArray × ((List Int) × (Nat × (Int × Unit)))))))))) (q1 : (List (Int × (Int × (Int × (Int × (ByteArray × ((List Int) × (Nat × (Int × Unit)))))))))) (q2 : (List (Int × (Int × (Int × (Int × (ByteArray × ((List Int) × (Nat × (Int × Unit)))))))))) (q3 : (List (Int × (Int × (Int × (Int × (ByteArray × ((List Int) × (Nat × (Int × Unit)))))))))) : L11f_4 a0 a1 a7 b1_0 q0 q1 q2 q3 = (T11f_4 a0 a1 a7 b1_0 q0 q1 q2 q3).bind (Sum.elim (fun x => L11f_4 x.1.1 x.1.2.1 x.1.2.2.2.2.1 x.2.1.2.1.1 x.2.2.1 x.2.2.2.1 x.2.2.2.2.1 x.2.2.2.2.2.1) some) := loopF_eq _ _
noncomputable def k11f_4 : Con := ⟨i11f_4, o11f_4, fun x => L11f_4 x.1.1 x.1.2.1 x.1.2.2.2.2.1 x.2.1.2.1.1 x.2.2.1 x.2.2.2.1 x.2.2.2.2.1 x.2.2.2.2.2.1⟩
theorem e11f_4 (x : i11f_4.E) : vround Try.prog C11f_4 LO11f_4 Try.f11.ntmps l11f_4 i11f_4 o11f_4 x = T11f_4 x.1.1 x.1.2.1 x.1.2.2.2.2.1 x.2.1.2.1.1 x.2.2.1 x.2.2.2.1 x.2.2.2.2.1 x.2.2.2.2.2.1 := by kernel_rfl
theorem k11f_4_ok : Con.LOK Try.prog Try.f11.ntmps l11f_4 k11f_4 := (loop_ok C11f_4_ok (loops_of (l := []) (by kernel_rfl) (show LoopsOK Try.prog Try.f11.ntmps [] LO11f_4 from trivial)) i11f_4 o11f_4).congr fun x => (congrArg (fun T => loopF T x) (funext e11f_4)).symm
noncomputable def C11f : Tab := [(900013, cHot), (600011, cHot), (1000400030, cHot)]
theorem C11f_ok : TabOK Try.prog C11f := ⟨cHot_ok, cHot_ok, cHot_ok, trivial⟩
noncomputable def LO11f : Tab := [(4, k11f_4)]
noncomputable def i11f : Tm := { sl := [(0, .v (.l (.i .u16))), (1, .ki .i64 4)], bx := [], bf := [] }
noncomputable def o11f : OT := (.ret { sl := [(0, .sb (.l (.p (.i .i64) (.p (.i .u64) (.p (.i .u64) (.p (.i .u8) (.p .s (.p (.l (.i .u8)) (.p (.f .f64) (.p (.i .i64) .u))))))))) 4 0)], bx := [[.o 0, .o 1, .o 2, .o 3]], bf := [(.p (.i .i64) (.p (.i .u64) (.p (.i .u64) (.p (.i .u8) (.p .s (.p (.l (.i .u8)) (.p (.f .f64) (.p (.i .i64) .u)))))))), (.p (.i .i64) (.p (.i .u64) (.p (.i .u64) (.p (.i .u8) (.p .s (.p (.l (.i .u8)) (.p (.f .f64) (.p (.i .i64) .u)))))))), (.p (.i .i64) (.p (.i .u64) (.p (.i .u64) (.p (.i .u8) (.p .s (.p (.l (.i .u8)) (.p (.f .f64) (.p (.i .i64) .u)))))))), (.p (.i .i64) (.p (.i .u64) (.p (.i .u64) (.p (.i .u8) (.p .s (.p (.l (.i .u8)) (.p (.f .f64) (.p (.i .i64) .u))))))))] })
/-- anabranch/anabranchref06.Feeds -/
noncomputable def F11f (a0 : (List Int)) : Option ((Unit × Unit) × ((Unit × (Unit × (Unit × (Unit × Unit)))) × Unit) × ((List (Int × (Int × (Int × (Int × (ByteArray × ((List Int) × (Nat × (Int × Unit))))))))) × ((List (Int × (Int × (Int × (Int × (ByteArray × ((List Int) × (Nat × (Int × Unit))))))))) × ((List (Int × (Int × (Int × (Int × (ByteArray × ((List Int) × (Nat × (Int × Unit))))))))) × ((List (Int × (Int × (Int × (Int × (ByteArray × ((List Int) × (Nat × (Int × Unit))))))))) × Unit))))) :=
  (bif ((decide (0 ≤ (4 : Int) ∧ (4 : Int) = 4 ∧ (4 : Int) < (lim : Int))) && (decide (0 < (4 : Int)))) then ((L11f_4 a0 4 0 (List.replicate (4 : Int).toNat (0 : Int)) ([] : List (Int × (Int × (Int × (Int × (ByteArray × ((List Int) × (Nat × (Int × Unit))))))))) ([] : List (Int × (Int × (Int × (Int × (ByteArray × ((List Int) × (Nat × (Int × Unit))))))))) ([] : List (Int × (Int × (Int × (Int × (ByteArray × ((List Int) × (Nat × (Int × Unit))))))))) ([] : List (Int × (Int × (Int × (Int × (ByteArray × ((List Int) × (Nat × (Int × Unit)))))))))).bind fun y1 => (some (((), ()), (((), (), (), (), ()), ()), (y1.2.2.1, y1.2.2.2.1, y1.2.2.2.2.1, y1.2.2.2.2.2.1, ())))) else none)
noncomputable def c11f : Con := ⟨i11f, o11f, fun x => F11f x.1.1⟩
theorem e11f (x : i11f.E) : vfn Try.prog C11f LO11f Try.f11 b11f i11f o11f x = F11f x.1.1 := by kernel_rfl
theorem c11f_ok : Con.OK Try.prog 11 c11f := (fn_ok C11f_ok Try.func11 body11f (loops_of (l := [l11f_4]) (by kernel_rfl) (show LoopsOK Try.prog Try.f11.ntmps [l11f_4] LO11f from ⟨k11f_4_ok, trivial⟩)) i11f o11f).congr fun x => (e11f x).symm
noncomputable def F11 (a0 : (List Int)) : Option (((List (List (Int × (Int × (Int × (Int × (ByteArray × ((List Int) × (Nat × (Int × Unit)))))))))) × Unit) × Unit × Unit) := (F11f a0).map fun y => (([y.2.2.1, y.2.2.2.1, y.2.2.2.2.1, y.2.2.2.2.2.1], ()), (), ())
noncomputable def c11 : Con := ⟨i11f, (.ret { sl := [(0, .v (.l (.l (.p (.i .i64) (.p (.i .u64) (.p (.i .u64) (.p (.i .u8) (.p .s (.p (.l (.i .u8)) (.p (.f .f64) (.p (.i .i64) .u)))))))))))], bx := [], bf := [] }), fun x => F11 x.1.1⟩
theorem c11_ok : Con.OK Try.prog 11 c11 := thaw (e := (.p (.i .i64) (.p (.i .u64) (.p (.i .u64) (.p (.i .u8) (.p .s (.p (.l (.i .u8)) (.p (.f .f64) (.p (.i .i64) .u))))))))) (n := 4) rfl rfl (by decide) c11f_ok
noncomputable def b15 : Code := (.seq (.region 0 (regOf Try.f15 0) false) (.seq (.seq (.region 1 (regOf Try.f15 1) false) (.cond (.tmp 12) (.seq (.region 2 (regOf Try.f15 2) false) .ret) .skip)) (.seq (.region 3 (regOf Try.f15 3) false) .ret)))
theorem body15 : Try.f15.body = some b15 := by kernel_rfl
noncomputable def C15 : Tab := []
theorem C15_ok : TabOK Try.prog C15 := trivial
noncomputable def LO15 : Tab := []
noncomputable def i15 : Tm := { sl := [(0, .v (.l (.i .u64))), (1, .v (.i .i64))], bx := [], bf := [] }
noncomputable def o15 : OT := (.ret { sl := [(0, .v (.i .u64))], bx := [], bf := [] })
/-- anabranch/anabranchref06.Get -/
noncomputable def F15 (a0 : (List Int)) (a1 : Int) : Option ((Int × Unit) × Unit × Unit) :=
  (bif (decide ((a1 : Int) < 0)) then (some ((0, ()), (), ())) else (bif (decide ((a1 : Int) ≥ (((a0).length : Nat) : Int))) then (some ((0, ()), (), ())) else (bif (decide (0 ≤ (a1 : Int) ∧ (a1 : Int) < (((a0).length : Nat) : Int))) then (some ((((a0).getD (a1 : Int).toNat (0 : Int)), ()), (), ())) else none)))
noncomputable def c15 : Con := ⟨i15, o15, fun x => F15 x.1.1 x.1.2.1⟩
theorem e15 (x : i15.E) : vfn Try.prog C15 LO15 Try.f15 b15 i15 o15 x = F15 x.1.1 x.1.2.1 := by kernel_rfl
theorem c15_ok : Con.OK Try.prog 15 c15 := (fn_ok C15_ok Try.func15 body15 (loops_of (l := []) (by kernel_rfl) (show LoopsOK Try.prog Try.f15.ntmps [] LO15 from trivial)) i15 o15).congr fun x => (e15 x).symm
noncomputable def b39 : Code := (.seq (.region 0 (regOf Try.f39 0) false) (.seq (.seq (.region 1 (regOf Try.f39 1) false) (.cond (.tmp 12) (.seq (.region 2 (regOf Try.f39 2) false) .ret) .skip)) (.seq (.region 3 (regOf Try.f39 3) false) .ret)))
theorem body39 : Try.f39.body = some b39 := by kernel_rfl
noncomputable def C39 : Tab := []
theorem C39_ok : TabOK Try.prog C39 := trivial
noncomputable def LO39 : Tab := []
noncomputable def i39 : Tm := { sl := [(0, .v (.l (.i .u64))), (1, .v (.i .i64))], bx := [], bf := [] }
noncomputable def o39 : OT := (.ret { sl := [(0, .v (.i .u64))], bx := [], bf := [] })
/-- (anabranch/vector.Vector).Get -/
noncomputable def F39 (a0 : (List Int)) (a1 : Int) : Option ((Int × Unit) × Unit × Unit) :=
  (bif (decide ((a1 : Int) < 0)) then (some ((0, ()), (), ())) else (bif (decide ((a1 : Int) ≥ (((a0).length : Nat) : Int))) then (some ((0, ()), (), ())) else (bif (decide (0 ≤ (a1 : Int) ∧ (a1 : Int) < (((a0).length : Nat) : Int))) then (some ((((a0).getD (a1 : Int).toNat (0 : Int)), ()), (), ())) else none)))
noncomputable def c39 : Con := ⟨i39, o39, fun x => F39 x.1.1 x.1.2.1⟩
theorem e39 (x : i39.E) : vfn Try.prog C39 LO39 Try.f39 b39 i39 o39 x = F39 x.1.1 x.1.2.1 := by kernel_rfl
theorem c39_ok : Con.OK Try.prog 39 c39 := (fn_ok C39_ok Try.func39 body39 (loops_of (l := []) (by kernel_rfl) (show LoopsOK Try.prog Try.f39.ntmps [] LO39 from trivial)) i39 o39).congr fun x => (e39 x).symm
noncomputable def b52 : Code := (.seq (.region 0 (regOf Try.f52 0) false) (.seq (.region 1 (regOf Try.f52 1) false) .ret))
theorem body52 : Try.f52.body = some b52 := by kernel_rfl
noncomputable def C52 : Tab := []
theorem C52_ok : TabOK Try.prog C52 := trivial
noncomputable def LO52 : Tab := []
noncomputable def i52 : Tm := { sl := [(0, .v (.i .u64)), (1, .v (.i .u64))], bx := [], bf := [] }
noncomputable def o52 : OT := (.ret { sl := [(0, .v (.i .u64))], bx := [], bf := [] })
/-- anabranch/vector.Join.1 -/
noncomputable def F52 (a0 : Int) (a1 : Int) : Option ((Int × Unit) × Unit × Unit) :=
  (some (((if (a1 : Int) > a0 then a1 else a0), ()), (), ()))
noncomputable def c52 : Con := ⟨i52, o52, fun x => F52 x.1.1 x.1.2.1⟩
theorem e52 (x : i52.E) : vfn Try.prog C52 LO52 Try.f52 b52 i52 o52 x = F52 x.1.1 x.1.2.1 := by kernel_rfl
theorem c52_ok : Con.OK Try.prog 52 c52 := (fn_ok C52_ok Try.func52 body52 (loops_of (l := []) (by kernel_rfl) (show LoopsOK Try.prog Try.f52.ntmps [] LO52 from trivial)) i52 o52).congr fun x => (e52 x).symm
noncomputable def b66 : Code := (.seq (.region 0 (regOf Try.f66 0) false) (.seq (.seq (.region 1 (regOf Try.f66 1) false) (.cond (.tmp 4) (.seq (.region 2 (regOf Try.f66 2) false) .ret) .skip)) (.seq (.region 3 (regOf Try.f66 3) false) .ret)))
theorem body66 : Try.f66.body = some b66 := by kernel_rfl
noncomputable def C66 : Tab := []
theorem C66_ok : TabOK Try.prog C66 := trivial
noncomputable def LO66 : Tab := []
noncomputable def i66 : Tm := { sl := [(0, .v (.l (.i .u64)))], bx := [], bf := [] }
noncomputable def o66 : OT := (.ret { sl := [(0, .v (.l (.i .u64)))], bx := [], bf := [] })
/-- slices.Clone[anabranch/vector.Vector,uint64] -/
noncomputable def F66 (a0 : (List Int)) : Option (((List Int) × Unit) × Unit × Unit) :=
  (nilBr (a0).length (some ((([] : List Int), ()), (), ())) (bif (decide ((([] : List Int)).length + (a0).length < lim)) then (some (((([] : List Int) ++ a0), ()), (), ())) else none))
noncomputable def c66 : Con := ⟨i66, o66, fun x => F66 x.1.1⟩
theorem e66 (x : i66.E) : vfn Try.prog C66 LO66 Try.f66 b66 i66 o66 x = F66 x.1.1 := by kernel_rfl
theorem c66_ok : Con.OK Try.prog 66 c66 := (fn_ok C66_ok Try.func66 body66 (loops_of (l := []) (by kernel_rfl) (show LoopsOK Try.prog Try.f66.ntmps [] LO66 from trivial)) i66 o66).congr fun x => (e66 x).symm
noncomputable def l54_2 : Code := (.seq (.seq (.region 2 (regOf Try.f54 2) false) (.cond (.tmp 15) .skip (.exit 0))) (.block 1 (.region 3 (regOf Try.f54 3) false)))
noncomputable def b54 : Code := (.seq (.region 0 (regOf Try.f54 0) false) (.seq (.region 1 (regOf Try.f54 1) false) (.seq (.block 0 (.loop l54_2)) (.seq (.region 4 (regOf Try.f54 4) false) .ret))))
theorem body54 : Try.f54.body = some b54 := by kernel_rfl
noncomputable def C54_2 : Tab := []
theorem C54_2_ok : TabOK Try.prog C54_2 := trivial
noncomputable def LO54_2 : Tab := []
noncomputable def i54_2 : Tm := { sl := [(0, .v (.l (.i .u64))), (3, .v (.i .i64))], bx := [], bf := [] }
noncomputable def o54_2 : OT := (.exit 0 { sl := [(3, .v (.i .i64))], bx := [], bf := [] })
noncomputable def T54_2 (a0 : (List Int)) (a3 : Int) : Option ((((List Int) × (Int × Unit)) × Unit × Unit) ⊕ ((Int × Unit) × Unit × Unit)) :=
  (bif (decide ((a3 : Int) > 0)) then (bif (decide (0 ≤ ((IntKind.wrap .i64 (a3 - 1)) : Int) ∧ ((IntKind.wrap .i64 (a3 - 1)) : Int) < (((a0).length : Nat) : Int))) then (bif ((((a0).getD ((IntKind.wrap .i64 (a3 - 1)) : Int).toNat (0 : Int)) : Int) == 0) then (some (.inl ((a0, (IntKind.wrap .i64 (a3 - 1)), ()), (), ()))) else (some (.inr ((a3, ()), (), ())))) else none) else (some (.inr ((a3, ()), (), ()))))
noncomputable def L54_2 (a0 : (List Int)) (a3 : Int) : Option ((Int × Unit) × Unit × Unit) := loopF (fun x : (((List Int) × (Int × Unit)) × Unit × Unit) => T54_2 x.1.1 x.1.2.1) ((a0, a3, ()), (), ())
theorem L54_2_eq (a0 : (List Int)) (a3 : Int) : L54_2 a0 a3 = (T54_2 a0 a3).bind (Sum.elim (fun x => L54_2 x.1.1 x.1.2.1) some) := loopF_eq _ _
noncomputable def k54_2 : Con := ⟨i54_2, o54_2, fun x => L54_2 x.1.1 x.1.2.1⟩
theorem e54_2 (x : i54_2.E) : vround Try.prog C54_2 LO54_2 Try.f54.ntmps l54_2 i54_2 o54_2 x = T54_2 x.1.1 x.1.2.1 := by kernel_rfl
theorem k54_2_ok : Con.LOK Try.prog Try.f54.ntmps l54_2 k54_2 := (loop_ok C54_2_ok (loops_of (l := []) (by kernel_rfl) (show LoopsOK Try.prog Try.f54.ntmps [] LO54_2 from trivial)) i54_2 o54_2).congr fun x => (congrArg (fun T => loopF T x) (funext e54_2)).symm
noncomputable def C54 : Tab := [(66, c66)]
theorem C54_ok : TabOK Try.prog C54 := ⟨c66_ok, trivial⟩
noncomputable def LO54 : Tab := [(2, k54_2)]
noncomputable def i54 : Tm := { sl := [(0, .v (.l (.i .u64)))], bx := [], bf := [] }
noncomputable def o54 : OT := (.ret { sl := [(0, .v (.l (.i .u64)))], bx := [], bf := [] })
/-- (anabranch/vector.Vector).Trim -/
noncomputable def F54 (a0 : (List Int)) : Option (((List Int) × Unit) × Unit × Unit) :=
  ((L54_2 a0 (((a0).length : Nat) : Int)).bind fun y2 => (bif (decide (0 ≤ (y2.1.1 : Int) ∧ (y2.1.1 : Int) ≤ (((a0).length : Nat) : Int))) then ((F66 ((a0).take (y2.1.1 : Int).toNat)).bind fun y3 => (some ((y3.1.1, ()), (), ()))) else none))
noncomputable def c54 : Con := ⟨i54, o54, fun x => F54 x.1.1⟩
theorem e54 (x : i54.E) : vfn Try.prog C54 LO54 Try.f54 b54 i54 o54 x = F54 x.1.1 := by kernel_rfl
theorem c54_ok : Con.OK Try.prog 54 c54 := (fn_ok C54_ok Try.func54 body54 (loops_of (l := [l54_2]) (by kernel_rfl) (show LoopsOK Try.prog Try.f54.ntmps [l54_2] LO54 from ⟨k54_2_ok, trivial⟩)) i54 o54).congr fun x => (e54 x).symm
noncomputable def l51_3 : Code := (.seq (.region 3 (regOf Try.f51 3) false) (.seq (.cond (.tmp 15) .skip (.exit 0)) (.seq (.block 1 (.seq (.region 4 (regOf Try.f51 4) false) (.region 5 (regOf Try.f51 5) false))) (.region 6 (regOf Try.f51 6) false))))
noncomputable def b51 : Code := (.seq (.region 0 (regOf Try.f51 0) false) (.seq (.region 1 (regOf Try.f51 1) false) (.seq (.seq (.region 2 (regOf Try.f51 2) false) (.block 0 (.loop l51_3))) (.seq (.region 7 (regOf Try.f51 7) false) .ret))))
theorem body51 : Try.f51.body = some b51 := by kernel_rfl
noncomputable def C51_3 : Tab := [(39, c39), (52, c52)]
theorem C51_3_ok : TabOK Try.prog C51_3 := ⟨c39_ok, c52_ok, trivial⟩
noncomputable def LO51_3 : Tab := []
noncomputable def i51_3 : Tm := { sl := [(0, .v (.l (.i .u64))), (1, .v (.l (.i .u64))), (2, .fn 52), (7, .o 0), (13, .v (.i .i64)), (14, .v (.i .i64))], bx := [], bf := [(.i .u64)] }
noncomputable def o51_3 : OT := (.exit 0 { sl := [(7, .o 0)], bx := [], bf := [(.i .u64)] })
noncomputable def T51_3 (a0 : (List Int)) (a1 : (List Int)) (a13 : Int) (a14 : Int) (q0 : (List Int)) : Option ((((List Int) × ((List Int) × (Unit × (Unit × (Int × (Int × Unit)))))) × Unit × ((List Int) × Unit)) ⊕ ((Unit × Unit) × Unit × ((List Int) × Unit))) :=
  (bif (decide ((a14 : Int) < a13)) then ((F39 a0 a14).bind fun y7 => ((F39 a1 a14).bind fun y8 => ((F52 y7.1.1 y8.1.1).bind fun y9 => (bif (decide ((q0).length + ([y9.1.1]).length < lim)) then (some (.inl ((a0, a1, (), (), a13, (IntKind.wrap .i64 (a14 + 1)), ()), (), ((q0 ++ [y9.1.1]), ())))) else none)))) else (some (.inr (((), ()), (), (q0, ())))))
noncomputable def L51_3 (a0 : (List Int)) (a1 : (List Int)) (a13 : Int) (a14 : Int) (q0 : (List Int)) : Option ((Unit × Unit) × Unit × ((List Int) × Unit)) := loopF (fun x : (((List Int) × ((List Int) × (Unit × (Unit × (Int × (Int × Unit)))))) × Unit × ((List Int) × Unit)) => T51_3 x.1.1 x.1.2.1 x.1.2.2.2.2.1 x.1.2.2.2.2.2.1 x.2.2.1) ((a0, a1, (), (), a13, a14, ()), (), (q0, ()))
theorem L51_3_eq (a0 : (List Int)) (a1 : (List Int)) (a13 : Int) (a14 : Int) (q0 : (List Int)) : L51_3 a0 a1 a13 a14 q0 = (T51_3 a0 a1 a13 a14 q0).bind (Sum.elim (fun x => L51_3 x.1.1 x.1.2.1 x.1.2.2.2.2.1 x.1.2.2.2.2.2.1 x.2.2.1) some) := loopF_eq _ _
noncomputable def k51_3 : Con := ⟨i51_3, o51_3, fun x => L51_3 x.1.1 x.1.2.1 x.1.2.2.2.2.1 x.1.2.2.2.2.2.1 x.2.2.1⟩
theorem e51_3 (x : i51_3.E) : vround Try.prog C51_3 LO51_3 Try.f51.ntmps l51_3 i51_3 o51_3 x = T51_3 x.1.1 x.1.2.1 x.1.2.2.2.2.1 x.1.2.2.2.2.2.1 x.2.2.1 := by kernel_rfl
theorem k51_3_ok : Con.LOK Try.prog Try.f51.ntmps l51_3 k51_3 := (loop_ok C51_3_ok (loops_of (l := []) (by kernel_rfl) (show LoopsOK Try.prog Try.f51.ntmps [] LO51_3 from trivial)) i51_3 o51_3).congr fun x => (congrArg (fun T => loopF T x) (funext e51_3)).symm
noncomputable def C51 : Tab := [(39, c39), (52, c52), (54, c54)]
theorem C51_ok : TabOK Try.prog C51 := ⟨c39_ok, c52_ok, c54_ok, trivial⟩
noncomputable def LO51 : Tab := [(3, k51_3)]
noncomputable def i51 : Tm := { sl := [(0, .v (.l (.i .u64))), (1, .v (.l (.i .u64))), (2, .fn 52)], bx := [], bf := [] }
noncomputable def o51 : OT := (.ret { sl := [(0, .v (.l (.i .u64)))], bx := [], bf := [] })
/-- anabranch/vector.pair -/
noncomputable def F51 (a0 : (List Int)) (a1 : (List Int)) : Option (((List Int) × Unit) × Unit × Unit) :=
  ((L51_3 a0 a1 (if ((((a1).length : Nat) : Int) : Int) > (((a0).length : Nat) : Int) then (((a1).length : Nat) : Int) else (((a0).length : Nat) : Int)) 0 ([] : List Int)).bind fun y10 => ((F54 y10.2.2.1).bind fun y11 => (some ((y11.1.1, ()), (), ()))))
noncomputable def c51 : Con := ⟨i51, o51, fun x => F51 x.1.1 x.1.2.1⟩
theorem e51 (x : i51.E) : vfn Try.prog C51 LO51 Try.f51 b51 i51 o51 x = F51 x.1.1 x.1.2.1 := by kernel_rfl
theorem c51_ok : Con.OK Try.prog 51 c51 := (fn_ok C51_ok Try.func51 body51 (loops_of (l := [l51_3]) (by kernel_rfl) (show LoopsOK Try.prog Try.f51.ntmps [l51_3] LO51 from ⟨k51_3_ok, trivial⟩)) i51 o51).congr fun x => (e51 x).symm
noncomputable def b35 : Code := (.seq (.region 0 (regOf Try.f35 0) false) (.seq (.region 1 (regOf Try.f35 1) false) .ret))
theorem body35 : Try.f35.body = some b35 := by kernel_rfl
noncomputable def C35 : Tab := [(51, c51)]
theorem C35_ok : TabOK Try.prog C35 := ⟨c51_ok, trivial⟩
noncomputable def LO35 : Tab := []
noncomputable def i35 : Tm := { sl := [(0, .v (.l (.i .u64))), (1, .v (.l (.i .u64)))], bx := [], bf := [] }
noncomputable def o35 : OT := (.ret { sl := [(0, .v (.l (.i .u64)))], bx := [], bf := [] })
/-- anabranch/vector.Join -/
noncomputable def F35 (a0 : (List Int)) (a1 : (List Int)) : Option (((List Int) × Unit) × Unit × Unit) :=
  ((F51 a0 a1).bind fun y12 => (some ((y12.1.1, ()), (), ())))
noncomputable def c35 : Con := ⟨i35, o35, fun x => F35 x.1.1 x.1.2.1⟩
theorem e35 (x : i35.E) : vfn Try.prog C35 LO35 Try.f35 b35 i35 o35 x = F35 x.1.1 x.1.2.1 := by kernel_rfl
theorem c35_ok : Con.OK Try.prog 35 c35 := (fn_ok C35_ok Try.func35 body35 (loops_of (l := []) (by kernel_rfl) (show LoopsOK Try.prog Try.f35.ntmps [] LO35 from trivial)) i35 o35).congr fun x => (e35 x).symm
noncomputable def l53_2 : Code := (.seq (.region 2 (regOf Try.f53 2) false) (.seq (.cond (.tmp 10) .skip (.exit 0)) (.seq (.block 1 (.seq (.region 3 (regOf Try.f53 3) false) (.seq (.region 4 (regOf Try.f53 4) false) (.cond (.tmp 18) (.seq (.region 5 (regOf Try.f53 5) false) .ret) .skip)))) (.region 6 (regOf Try.f53 6) false))))
noncomputable def b53 : Code := (.seq (.region 0 (regOf Try.f53 0) false) (.seq (.seq (.region 1 (regOf Try.f53 1) false) (.block 0 (.loop l53_2))) (.seq (.region 7 (regOf Try.f53 7) false) .ret)))
theorem body53 : Try.f53.body = some b53 := by kernel_rfl
noncomputable def C53_2 : Tab := [(39, c39)]
theorem C53_2_ok : TabOK Try.prog C53_2 := ⟨c39_ok, trivial⟩
noncomputable def LO53_2 : Tab := []
noncomputable def i53_2 : Tm := { sl := [(1, .v (.l (.i .u64))), (7, .v (.l (.i .u64))), (8, .v (.i .i64)), (9, .v (.i .i64))], bx := [], bf := [] }
noncomputable def o53_2 : OT := (.two (.ret { sl := [(4, .v .b)], bx := [], bf := [] }) (.exit 0 { sl := [], bx := [], bf := [] }))
noncomputable def T53_2 (a1 : (List Int)) (a7 : (List Int)) (a8 : Int) (a9 : Int) : Option ((((List Int) × ((List Int) × (Int × (Int × Unit)))) × Unit × Unit) ⊕ (((Bool × Unit) × Unit × Unit) ⊕ (Unit × Unit × Unit))) :=
  (bif (decide ((a9 : Int) < a8)) then (bif (decide (0 ≤ (a9 : Int) ∧ (a9 : Int) < (((a7).length : Nat) : Int))) then ((F39 a1 a9).bind fun y14 => (bif (decide ((((a7).getD (a9 : Int).toNat (0 : Int)) : Int) > y14.1.1)) then (some (.inr (.inl ((false, ()), (), ())))) else (some (.inl ((a1, a7, a8, (IntKind.wrap .i64 (a9 + 1)), ()), (), ()))))) else none) else (some (.inr (.inr ((), (), ())))))
noncomputable def L53_2 (a1 : (List Int)) (a7 : (List Int)) (a8 : Int) (a9 : Int) : Option (((Bool × Unit) × Unit × Unit) ⊕ (Unit × Unit × Unit)) := loopF (fun x : (((List Int) × ((List Int) × (Int × (Int × Unit)))) × Unit × Unit) => T53_2 x.1.1 x.1.2.1 x.1.2.2.1 x.1.2.2.2.1) ((a1, a7, a8, a9, ()), (), ())
theorem L53_2_eq (a1 : (List Int)) (a7 : (List Int)) (a8 : Int) (a9 : Int) : L53_2 a1 a7 a8 a9 = (T53_2 a1 a7 a8 a9).bind (Sum.elim (fun x => L53_2 x.1.1 x.1.2.1 x.1.2.2.1 x.1.2.2.2.1) some) := loopF_eq _ _
noncomputable def k53_2 : Con := ⟨i53_2, o53_2, fun x => L53_2 x.1.1 x.1.2.1 x.1.2.2.1 x.1.2.2.2.1⟩
theorem e53_2 (x : i53_2.E) : vround Try.prog C53_2 LO53_2 Try.f53.ntmps l53_2 i53_2 o53_2 x = T53_2 x.1.1 x.1.2.1 x.1.2.2.1 x.1.2.2.2.1 := by kernel_rfl
theorem k53_2_ok : Con.LOK Try.prog Try.f53.ntmps l53_2 k53_2 := (loop_ok C53_2_ok (loops_of (l := []) (by kernel_rfl) (show LoopsOK Try.prog Try.f53.ntmps [] LO53_2 from trivial)) i53_2 o53_2).congr fun x => (congrArg (fun T => loopF T x) (funext e53_2)).symm
noncomputable def C53 : Tab := [(39, c39)]
theorem C53_ok : TabOK Try.prog C53 := ⟨c39_ok, trivial⟩
noncomputable def LO53 : Tab := [(2, k53_2)]
noncomputable def i53 : Tm := { sl := [(0, .v (.l (.i .u64))), (1, .v (.l (.i .u64)))], bx := [], bf := [] }
noncomputable def o53 : OT := (.ret { sl := [(0, .v .b)], bx := [], bf := [] })
/-- (anabranch/vector.Vector).Within -/
noncomputable def F53 (a0 : (List Int)) (a1 : (List Int)) : Option ((Bool × Unit) × Unit × Unit) :=
  ((L53_2 a1 a0 (((a0).length : Nat) : Int) 0).bind fun y15 => (Sum.elim (fun y16 => (some ((y16.1.1, ()), (), ()))) (fun y16 => (some ((true, ()), (), ()))) y15))
noncomputable def c53 : Con := ⟨i53, o53, fun x => F53 x.1.1 x.1.2.1⟩
theorem e53 (x : i53.E) : vfn Try.prog C53 LO53 Try.f53 b53 i53 o53 x = F53 x.1.1 x.1.2.1 := by kernel_rfl
theorem c53_ok : Con.OK Try.prog 53 c53 := (fn_ok C53_ok Try.func53 body53 (loops_of (l := [l53_2]) (by kernel_rfl) (show LoopsOK Try.prog Try.f53.ntmps [l53_2] LO53 from ⟨k53_2_ok, trivial⟩)) i53 o53).congr fun x => (e53 x).symm
noncomputable def b36 : Code := (.seq (.region 0 (regOf Try.f36 0) false) (.seq (.region 1 (regOf Try.f36 1) false) .ret))
theorem body36 : Try.f36.body = some b36 := by kernel_rfl
noncomputable def C36 : Tab := [(53, c53)]
theorem C36_ok : TabOK Try.prog C36 := ⟨c53_ok, trivial⟩
noncomputable def LO36 : Tab := []
noncomputable def i36 : Tm := { sl := [(0, .v (.l (.i .u64))), (1, .v (.l (.i .u64)))], bx := [], bf := [] }
noncomputable def o36 : OT := (.ret { sl := [(0, .v .b)], bx := [], bf := [] })
/-- anabranch/vector.Same -/
noncomputable def F36 (a0 : (List Int)) (a1 : (List Int)) : Option ((Bool × Unit) × Unit × Unit) :=
  ((F53 a0 a1).bind fun y17 => (bif y17.1.1 then ((F53 a1 a0).bind fun y18 => (some ((y18.1.1, ()), (), ()))) else (some ((false, ()), (), ()))))
noncomputable def c36 : Con := ⟨i36, o36, fun x => F36 x.1.1 x.1.2.1⟩
theorem e36 (x : i36.E) : vfn Try.prog C36 LO36 Try.f36 b36 i36 o36 x = F36 x.1.1 x.1.2.1 := by kernel_rfl
theorem c36_ok : Con.OK Try.prog 36 c36 := (fn_ok C36_ok Try.func36 body36 (loops_of (l := []) (by kernel_rfl) (show LoopsOK Try.prog Try.f36.ntmps [] LO36 from trivial)) i36 o36).congr fun x => (e36 x).symm
noncomputable def b12 : Code := (.seq (.region 0 (regOf Try.f12 0) false) (.seq (.region 1 (regOf Try.f12 1) false) .ret))
theorem body12 : Try.f12.body = some b12 := by kernel_rfl
noncomputable def C12 : Tab := [(900002, cHot)]
theorem C12_ok : TabOK Try.prog C12 := ⟨cHot_ok, trivial⟩
noncomputable def LO12 : Tab := []
noncomputable def i12 : Tm := { sl := [], bx := [], bf := [] }
noncomputable def o12 : OT := (.ret { sl := [(0, .p 0 0)], bx := [[.ra (.p (.l (.i .u64)) (.p (.i .u64) .u))]], bf := [] })
/-- anabranch/matrix.New -/
noncomputable def F12 : Option ((Unit × Unit) × (((List ((List Int) × (Int × Unit))) × Unit) × Unit) × Unit) :=
  (some (((), ()), (([(([] : List Int), (0, ())), (([] : List Int), (0, ())), (([] : List Int), (0, ())), (([] : List Int), (0, ())), (([] : List Int), (0, ())), (([] : List Int), (0, ())), (([] : List Int), (0, ())), (([] : List Int), (0, ())), (([] : List Int), (0, ())), (([] : List Int), (0, ())), (([] : List Int), (0, ())), (([] : List Int), (0, ())), (([] : List Int), (0, ())), (([] : List Int), (0, ())), (([] : List Int), (0, ())), (([] : List Int), (0, ())), (([] : List Int), (0, ())), (([] : List Int), (0, ())), (([] : List Int), (0, ())), (([] : List Int), (0, ())), (([] : List Int), (0, ())), (([] : List Int), (0, ())), (([] : List Int), (0, ())), (([] : List Int), (0, ())), (([] : List Int), (0, ())), (([] : List Int), (0, ())), (([] : List Int), (0, ())), (([] : List Int), (0, ())), (([] : List Int), (0, ())), (([] : List Int), (0, ())), (([] : List Int), (0, ())), (([] : List Int), (0, ())), (([] : List Int), (0, ())), (([] : List Int), (0, ())), (([] : List Int), (0, ())), (([] : List Int), (0, ())), (([] : List Int), (0, ())), (([] : List Int), (0, ())), (([] : List Int), (0, ())), (([] : List Int), (0, ())), (([] : List Int), (0, ())), (([] : List Int), (0, ())), (([] : List Int), (0, ())), (([] : List Int), (0, ())), (([] : List Int), (0, ())), (([] : List Int), (0, ())), (([] : List Int), (0, ())), (([] : List Int), (0, ())), (([] : List Int), (0, ())), (([] : List Int), (0, ())), (([] : List Int), (0, ())), (([] : List Int), (0, ())), (([] : List Int), (0, ())), (([] : List Int), (0, ())), (([] : List Int), (0, ())), (([] : List Int), (0, ())), (([] : List Int), (0, ())), (([] : List Int), (0, ())), (([] : List Int), (0, ())), (([] : List Int), (0, ())), (([] : List Int), (0, ())), (([] : List Int), (0, ())), (([] : List Int), (0, ())), (([] : List Int), (0, ()))], ()), ()), ()))
noncomputable def c12 : Con := ⟨i12, o12, fun x => F12⟩
theorem e12 (x : i12.E) : vfn Try.prog C12 LO12 Try.f12 b12 i12 o12 x = F12 := by kernel_rfl
theorem c12_ok : Con.OK Try.prog 12 c12 := (fn_ok C12_ok Try.func12 body12 (loops_of (l := []) (by kernel_rfl) (show LoopsOK Try.prog Try.f12.ntmps [] LO12 from trivial)) i12 o12).congr fun x => (e12 x).symm
noncomputable def b13 : Code := (.seq (.region 0 (regOf Try.f13 0) false) (.seq (.seq (.region 1 (regOf Try.f13 1) false) (.cond (.tmp 18) (.seq (.region 2 (regOf Try.f13 2) false) .ret) .skip)) (.seq (.region 3 (regOf Try.f13 3) true) (.seq (.region 4 (regOf Try.f13 4) true) (.seq (.seq (.region 5 (regOf Try.f13 5) true) (.cond (.tmp 51) (.seq (.region 6 (regOf Try.f13 6) false) .ret) .skip)) (.seq (.region 7 (regOf Try.f13 7) true) (.seq (.region 8 (regOf Try.f13 8) false) .ret)))))))
theorem body13 : Try.f13.body = some b13 := by kernel_rfl
noncomputable def C13 : Tab := [(35, c35), (36, c36)]
theorem C13_ok : TabOK Try.prog C13 := ⟨c35_ok, c36_ok, trivial⟩
noncomputable def LO13 : Tab := []
noncomputable def i13 : Tm := { sl := [(0, .p 0 0), (1, .v (.p (.i .i64) (.p (.l (.i .u64)) (.p (.i .u64) .u))))], bx := [[.ra (.p (.l (.i .u64)) (.p (.i .u64) .u))]], bf := [] }
noncomputable def o13 : OT := (.ret { sl := [(0, .v .b)], bx := [[.ra (.p (.l (.i .u64)) (.p (.i .u64) .u))]], bf := [] })
/-- (*anabranch/matrix.Matrix).Raise -/
noncomputable def F13 (a1 : (Int × ((List Int) × (Int × Unit)))) (b0_0 : (List ((List Int) × (Int × Unit)))) : Option ((Bool × Unit) × (((List ((List Int) × (Int × Unit))) × Unit) × Unit) × Unit) :=
  (bif (decide ((a1.1 : Int) < 0)) then (some ((false, ()), ((b0_0, ()), ()), ())) else (bif (decide ((a1.1 : Int) ≥ 64)) then (some ((false, ()), ((b0_0, ()), ()), ())) else (bif (decide (0 ≤ (a1.1 : Int) ∧ (a1.1 : Int) < ((64 : Nat) : Int))) then (bif (decide ((a1.1 : Int).toNat < (b0_0).length)) then (bif (decide (0 ≤ ((if (64 : Int) < (((a1.2.1).length : Nat) : Int) then 64 else (((a1.2.1).length : Nat) : Int)) : Int) ∧ ((if (64 : Int) < (((a1.2.1).length : Nat) : Int) then 64 else (((a1.2.1).length : Nat) : Int)) : Int) ≤ (((a1.2.1).length : Nat) : Int))) then ((F35 (((b0_0).getD (a1.1 : Int).toNat ([], ((0 : Int), ()))).1) ((a1.2.1).take ((if (64 : Int) < (((a1.2.1).length : Nat) : Int) then 64 else (((a1.2.1).length : Nat) : Int)) : Int).toNat)).bind fun y19 => (bif (decide ((a1.1 : Int).toNat < (b0_0).length)) then ((F36 y19.1.1 (((b0_0).getD (a1.1 : Int).toNat ([], ((0 : Int), ()))).1)).bind fun y20 => (bif y20.1.1 then (bif (decide ((a1.1 : Int).toNat < (b0_0).length)) then (bif (decide ((a1.2.2.1 : Int) ≤ ((b0_0).getD (a1.1 : Int).toNat ([], ((0 : Int), ()))).2.1)) then (some ((false, ()), ((b0_0, ()), ()), ())) else (bif (!(List.isEmpty b0_0)) then (bif (decide ((a1.1 : Int).toNat < (b0_0).length)) then (bif (decide ((a1.1 : Int).toNat < (b0_0).length)) then (bif (decide ((a1.1 : Int).toNat < (((b0_0).set (a1.1 : Int).toNat (y19.1.1, (((b0_0).getD (a1.1 : Int).toNat ([], ((0 : Int), ()))).2.1, ())))).length)) then (some ((true, ()), ((((((b0_0).set (a1.1 : Int).toNat (y19.1.1, (((b0_0).getD (a1.1 : Int).toNat ([], ((0 : Int), ()))).2.1, ())))).set (a1.1 : Int).toNat (((((b0_0).set (a1.1 : Int).toNat (y19.1.1, (((b0_0).getD (a1.1 : Int).toNat ([], ((0 : Int), ()))).2.1, ())))).getD (a1.1 : Int).toNat ([], ((0 : Int), ()))).1, ((if (a1.2.2.1 : Int) > ((b0_0).getD (a1.1 : Int).toNat ([], ((0 : Int), ()))).2.1 then a1.2.2.1 else ((b0_0).getD (a1.1 : Int).toNat ([], ((0 : Int), ()))).2.1), ()))), ()), ()), ())) else none) else none) else none) else none)) else none) else (bif (!(List.isEmpty b0_0)) then (bif (decide ((a1.1 : Int).toNat < (b0_0).length)) then (bif (decide ((a1.1 : Int).toNat < (b0_0).length)) then (bif (decide ((a1.1 : Int).toNat < (((b0_0).set (a1.1 : Int).toNat (y19.1.1, (((b0_0).getD (a1.1 : Int).toNat ([], ((0 : Int), ()))).2.1, ())))).length)) then (some ((true, ()), ((((((b0_0).set (a1.1 : Int).toNat (y19.1.1, (((b0_0).getD (a1.1 : Int).toNat ([], ((0 : Int), ()))).2.1, ())))).set (a1.1 : Int).toNat (((((b0_0).set (a1.1 : Int).toNat (y19.1.1, (((b0_0).getD (a1.1 : Int).toNat ([], ((0 : Int), ()))).2.1, ())))).getD (a1.1 : Int).toNat ([], ((0 : Int), ()))).1, ((if (a1.2.2.1 : Int) > ((b0_0).getD (a1.1 : Int).toNat ([], ((0 : Int), ()))).2.1 then a1.2.2.1 else ((b0_0).getD (a1.1 : Int).toNat ([], ((0 : Int), ()))).2.1), ()))), ()), ()), ())) else none) else none) else none) else none))) else none)) else none) else none) else none)))
noncomputable def c13 : Con := ⟨i13, o13, fun x => F13 x.1.2.1 x.2.1.1.1⟩
theorem e13 (x : i13.E) : vfn Try.prog C13 LO13 Try.f13 b13 i13 o13 x = F13 x.1.2.1 x.2.1.1.1 := by kernel_rfl
theorem c13_ok : Con.OK Try.prog 13 c13 := (fn_ok C13_ok Try.func13 body13 (loops_of (l := []) (by kernel_rfl) (show LoopsOK Try.prog Try.f13.ntmps [] LO13 from trivial)) i13 o13).congr fun x => (e13 x).symm
noncomputable def b37 : Code := (.seq (.region 0 (regOf Try.f37 0) false) (.seq (.seq (.region 1 (regOf Try.f37 1) false) (.cond (.tmp 14) (.seq (.region 2 (regOf Try.f37 2) false) .ret) .skip)) (.seq (.region 3 (regOf Try.f37 3) true) .ret)))
theorem body37 : Try.f37.body = some b37 := by kernel_rfl
noncomputable def C37 : Tab := [(54, c54)]
theorem C37_ok : TabOK Try.prog C37 := ⟨c54_ok, trivial⟩
noncomputable def LO37 : Tab := []
noncomputable def i37 : Tm := { sl := [(0, .p 0 0), (1, .v (.i .i64))], bx := [[.ra (.p (.l (.i .u64)) (.p (.i .u64) .u))]], bf := [] }
noncomputable def o37 : OT := (.ret { sl := [(0, .v (.p (.i .i64) (.p (.l (.i .u64)) (.p (.i .u64) .u))))], bx := [[.ra (.p (.l (.i .u64)) (.p (.i .u64) .u))]], bf := [] })
/-- (*anabranch/matrix.Matrix).Row -/
noncomputable def F37 (a1 : Int) (b0_0 : (List ((List Int) × (Int × Unit)))) : Option (((Int × ((List Int) × (Int × Unit))) × Unit) × (((List ((List Int) × (Int × Unit))) × Unit) × Unit) × Unit) :=
  (bif (decide ((a1 : Int) < 0)) then (some (((a1, (([] : List Int), (0, ()))), ()), ((b0_0, ()), ()), ())) else (bif (decide ((a1 : Int) ≥ 64)) then (some (((a1, (([] : List Int), (0, ()))), ()), ((b0_0, ()), ()), ())) else (bif (decide (0 ≤ (a1 : Int) ∧ (a1 : Int) < ((64 : Nat) : Int))) then (bif (decide ((a1 : Int).toNat < (b0_0).length)) then ((F54 (((b0_0).getD (a1 : Int).toNat ([], ((0 : Int), ()))).1)).bind fun y21 => (bif (decide (0 ≤ (a1 : Int) ∧ (a1 : Int) < ((64 : Nat) : Int))) then (bif (decide ((a1 : Int).toNat < (b0_0).length)) then (some (((a1, (y21.1.1, (((b0_0).getD (a1 : Int).toNat ([], ((0 : Int), ()))).2.1, ()))), ()), ((b0_0, ()), ()), ())) else none) else none)) else none) else none)))
noncomputable def c37 : Con := ⟨i37, o37, fun x => F37 x.1.2.1 x.2.1.1.1⟩
theorem e37 (x : i37.E) : vfn Try.prog C37 LO37 Try.f37 b37 i37 o37 x = F37 x.1.2.1 x.2.1.1.1 := by kernel_rfl
theorem c37_ok : Con.OK Try.prog 37 c37 := (fn_ok C37_ok Try.func37 body37 (loops_of (l := []) (by kernel_rfl) (show LoopsOK Try.prog Try.f37.ntmps [] LO37 from trivial)) i37 o37).congr fun x => (e37 x).symm
noncomputable def b55 : Code := (.seq (.region 0 (regOf Try.f55 0) false) (.seq (.seq (.region 1 (regOf Try.f55 1) false) (.cond (.tmp 9) (.seq (.region 2 (regOf Try.f55 2) false) .ret) .skip)) (.seq (.region 3 (regOf Try.f55 3) false) .ret)))
theorem body55 : Try.f55.body = some b55 := by kernel_rfl
noncomputable def C55 : Tab := []
theorem C55_ok : TabOK Try.prog C55 := trivial
noncomputable def LO55 : Tab := []
noncomputable def i55 : Tm := { sl := [(0, .v (.p (.l (.i .u64)) (.p (.l (.l (.p (.i .i64) (.p (.i .u64) (.p (.i .u64) (.p (.i .u8) (.p .s (.p (.l (.i .u8)) (.p (.f .f64) (.p (.i .i64) .u)))))))))) .u))), (1, .v (.i .i64))], bx := [], bf := [] }
noncomputable def o55 : OT := (.ret { sl := [(0, .v (.l (.p (.i .i64) (.p (.i .u64) (.p (.i .u64) (.p (.i .u8) (.p .s (.p (.l (.i .u8)) (.p (.f .f64) (.p (.i .i64) .u))))))))))], bx := [], bf := [] })
/-- (anabranch/matrix.Known).list -/
noncomputable def F55 (a0 : ((List Int) × ((List (List (Int × (Int × (Int × (Int × (ByteArray × ((List Int) × (Nat × (Int × Unit)))))))))) × Unit))) (a1 : Int) : Option (((List (Int × (Int × (Int × (Int × (ByteArray × ((List Int) × (Nat × (Int × Unit))))))))) × Unit) × Unit × Unit) :=
  (bif (decide ((a1 : Int) ≥ (((a0.2.1).length : Nat) : Int))) then (some ((([] : List (Int × (Int × (Int × (Int × (ByteArray × ((List Int) × (Nat × (Int × Unit))))))))), ()), (), ())) else (bif (decide (0 ≤ (a1 : Int) ∧ (a1 : Int) < (((a0.2.1).length : Nat) : Int))) then (some ((((a0.2.1).getD (a1 : Int).toNat []), ()), (), ())) else none))
noncomputable def c55 : Con := ⟨i55, o55, fun x => F55 x.1.1 x.1.2.1⟩
theorem e55 (x : i55.E) : vfn Try.prog C55 LO55 Try.f55 b55 i55 o55 x = F55 x.1.1 x.1.2.1 := by kernel_rfl
theorem c55_ok : Con.OK Try.prog 55 c55 := (fn_ok C55_ok Try.func55 body55 (loops_of (l := []) (by kernel_rfl) (show LoopsOK Try.prog Try.f55.ntmps [] LO55 from trivial)) i55 o55).congr fun x => (e55 x).symm
noncomputable def b40 : Code := (.seq (.region 0 (regOf Try.f40 0) false) (.seq (.region 1 (regOf Try.f40 1) true) .ret))
theorem body40 : Try.f40.body = some b40 := by kernel_rfl
noncomputable def C40 : Tab := [(39, c39), (55, c55)]
theorem C40_ok : TabOK Try.prog C40 := ⟨c39_ok, c55_ok, trivial⟩
noncomputable def LO40 : Tab := []
noncomputable def i40 : Tm := { sl := [(0, .v (.p (.l (.i .u64)) (.p (.l (.l (.p (.i .i64) (.p (.i .u64) (.p (.i .u64) (.p (.i .u8) (.p .s (.p (.l (.i .u8)) (.p (.f .f64) (.p (.i .i64) .u)))))))))) .u))), (1, .v (.i .i64))], bx := [], bf := [] }
noncomputable def o40 : OT := (.ret { sl := [(0, .v (.i .u64))], bx := [], bf := [] })
/-- (anabranch/matrix.Known).have -/
noncomputable def F40 (a0 : ((List Int) × ((List (List (Int × (Int × (Int × (Int × (ByteArray × ((List Int) × (Nat × (Int × Unit)))))))))) × Unit))) (a1 : Int) : Option ((Int × Unit) × Unit × Unit) :=
  ((F39 a0.1 a1).bind fun y22 => ((F55 (a0.1, (a0.2.1, ())) a1).bind fun y23 => (some (((IntKind.wrap .u64 (y22.1.1 + (IntKind.wrap .u64 (((y23.1.1).length : Nat) : Int)))), ()), (), ()))))
noncomputable def c40 : Con := ⟨i40, o40, fun x => F40 x.1.1 x.1.2.1⟩
theorem e40 (x : i40.E) : vfn Try.prog C40 LO40 Try.f40 b40 i40 o40 x = F40 x.1.1 x.1.2.1 := by kernel_rfl
theorem c40_ok : Con.OK Try.prog 40 c40 := (fn_ok C40_ok Try.func40 body40 (loops_of (l := []) (by kernel_rfl) (show LoopsOK Try.prog Try.f40.ntmps [] LO40 from trivial)) i40 o40).congr fun x => (e40 x).symm
noncomputable def b38 : Code := (.seq (.region 0 (regOf Try.f38 0) false) (.seq (.block 0 (.seq (.region 1 (regOf Try.f38 1) false) (.cond (.tmp 7) (.seq (.region 2 (regOf Try.f38 2) false) .ret) (.seq (.region 3 (regOf Try.f38 3) false) (.cond (.tmp 13) (.seq (.region 4 (regOf Try.f38 4) false) .ret) .skip))))) (.seq (.region 5 (regOf Try.f38 5) true) .ret)))
theorem body38 : Try.f38.body = some b38 := by kernel_rfl
noncomputable def C38 : Tab := [(39, c39), (40, c40), (55, c55)]
theorem C38_ok : TabOK Try.prog C38 := ⟨c39_ok, c40_ok, c55_ok, trivial⟩
noncomputable def LO38 : Tab := []
noncomputable def i38 : Tm := { sl := [(0, .v (.p (.l (.i .u64)) (.p (.l (.l (.p (.i .i64) (.p (.i .u64) (.p (.i .u64) (.p (.i .u8) (.p .s (.p (.l (.i .u8)) (.p (.f .f64) (.p (.i .i64) .u)))))))))) .u))), (1, .v (.i .i64)), (2, .v (.i .u64))], bx := [], bf := [] }
noncomputable def o38 : OT := (.ret { sl := [(0, .v (.i .u64))], bx := [], bf := [] })
/-- (anabranch/matrix.Known).lacks -/
noncomputable def F38 (a0 : ((List Int) × ((List (List (Int × (Int × (Int × (Int × (ByteArray × ((List Int) × (Nat × (Int × Unit)))))))))) × Unit))) (a1 : Int) (a2 : Int) : Option ((Int × Unit) × Unit × Unit) :=
  ((F40 (a0.1, (a0.2.1, ())) a1).bind fun y24 => (bif (decide ((a2 : Int) ≥ y24.1.1)) then (some ((9223372036854775807, ()), (), ())) else ((F39 a0.1 a1).bind fun y25 => (bif (decide ((a2 : Int) < y25.1.1)) then (some ((0, ()), (), ())) else ((F55 (a0.1, (a0.2.1, ())) a1).bind fun y26 => ((F39 a0.1 a1).bind fun y27 => (bif (decide (0 ≤ ((IntKind.wrap .u64 (a2 - y27.1.1)) : Int) ∧ ((IntKind.wrap .u64 (a2 - y27.1.1)) : Int) < (((y26.1.1).length : Nat) : Int))) then (some (((IntKind.wrap .u64 (((y26.1.1).getD ((IntKind.wrap .u64 (a2 - y27.1.1)) : Int).toNat ((0 : Int), ((0 : Int), ((0 : Int), ((0 : Int), (ByteArray.empty, ([], ((0 : Nat), ((0 : Int), ()))))))))).2.2.1 - 1)), ()), (), ())) else none)))))))
noncomputable def c38 : Con := ⟨i38, o38, fun x => F38 x.1.1 x.1.2.1 x.1.2.2.1⟩
theorem e38 (x : i38.E) : vfn Try.prog C38 LO38 Try.f38 b38 i38 o38 x = F38 x.1.1 x.1.2.1 x.1.2.2.1 := by kernel_rfl
theorem c38_ok : Con.OK Try.prog 38 c38 := (fn_ok C38_ok Try.func38 body38 (loops_of (l := []) (by kernel_rfl) (show LoopsOK Try.prog Try.f38.ntmps [] LO38 from trivial)) i38 o38).congr fun x => (e38 x).symm
noncomputable def l14_9 : Code := (.seq (.region 9 (regOf Try.f14 9) false) (.seq (.cond (.tmp 29) .skip (.exit 2)) (.seq (.block 3 (.seq (.region 10 (regOf Try.f14 10) false) (.region 11 (regOf Try.f14 11) true))) (.region 12 (regOf Try.f14 12) false))))
noncomputable def l14_3 : Code := (.seq (.region 3 (regOf Try.f14 3) false) (.seq (.cond (.tmp 16) .skip (.exit 0)) (.seq (.block 1 (.seq (.region 4 (regOf Try.f14 4) false) (.seq (.region 5 (regOf Try.f14 5) false) (.seq (.region 6 (regOf Try.f14 6) false) (.seq (.region 7 (regOf Try.f14 7) false) (.seq (.seq (.region 8 (regOf Try.f14 8) false) (.block 2 (.loop l14_9))) (.seq (.region 13 (regOf Try.f14 13) true) (.cond (.tmp 46) (.region 14 (regOf Try.f14 14) false) .skip)))))))) (.region 15 (regOf Try.f14 15) false))))
noncomputable def b14 : Code := (.seq (.region 0 (regOf Try.f14 0) false) (.seq (.region 1 (regOf Try.f14 1) false) (.seq (.seq (.region 2 (regOf Try.f14 2) false) (.block 0 (.loop l14_3))) (.seq (.seq (.region 16 (regOf Try.f14 16) false) (.cond (.tmp 50) (.seq (.region 17 (regOf Try.f14 17) false) .ret) .skip)) (.seq (.region 18 (regOf Try.f14 18) false) .ret)))))
theorem body14 : Try.f14.body = some b14 := by kernel_rfl
noncomputable def C14_9 : Tab := [(38, c38), (39, c39)]
theorem C14_9_ok : TabOK Try.prog C14_9 := ⟨c38_ok, c39_ok, trivial⟩
noncomputable def LO14_9 : Tab := []
noncomputable def i14_9 : Tm := { sl := [(0, .p 0 0), (1, .v (.l (.i .i64))), (5, .p 1 0), (7, .v (.i .u64)), (9, .v (.i .i64)), (11, .v (.l (.i .u64))), (13, .v (.l (.i .i64))), (14, .v (.i .i64)), (15, .v (.i .i64)), (28, .v (.i .i64))], bx := [[.ra (.p (.l (.i .u64)) (.p (.i .u64) .u))], [.v (.l (.i .u64)), .v (.l (.l (.p (.i .i64) (.p (.i .u64) (.p (.i .u64) (.p (.i .u8) (.p .s (.p (.l (.i .u8)) (.p (.f .f64) (.p (.i .i64) .u))))))))))]], bf := [] }
noncomputable def o14_9 : OT := (.exit 2 { sl := [(7, .v (.i .u64))], bx := [[.ra (.p (.l (.i .u64)) (.p (.i .u64) .u))], [.v (.l (.i .u64)), .v (.l (.l (.p (.i .i64) (.p (.i .u64) (.p (.i .u64) (.p (.i .u8) (.p .s (.p (.l (.i .u8)) (.p (.f .f64) (.p (.i .i64) .u))))))))))]], bf := [] })
noncomputable def T14_9 (a1 : (List Int)) (a7 : Int) (a9 : Int) (a11 : (List Int)) (a13 : (List Int)) (a14 : Int) (a15 : Int) (a28 : Int) (b0_0 : (List ((List Int) × (Int × Unit)))) (b1_0 : (List Int)) (b1_1 : (List (List (Int × (Int × (Int × (Int × (ByteArray × ((List Int) × (Nat × (Int × Unit))))))))))) : Option (((Unit × ((List Int) × (Unit × (Int × (Int × ((List Int) × ((List Int) × (Int × (Int × (Int × Unit)))))))))) × (((List ((List Int) × (Int × Unit))) × Unit) × (((List Int) × ((List (List (Int × (Int × (Int × (Int × (ByteArray × ((List Int) × (Nat × (Int × Unit)))))))))) × Unit)) × Unit)) × Unit) ⊕ ((Int × Unit) × (((List ((List Int) × (Int × Unit))) × Unit) × (((List Int) × ((List (List (Int × (Int × (Int × (Int × (ByteArray × ((List Int) × (Nat × (Int × Unit)))))))))) × Unit)) × Unit)) × Unit)) :=
  (bif (decide ((a28 : Int) < 64)) then ((F39 a11 a28).bind fun y31 => ((F38 (b1_0, (b1_1, ())) a28 y31.1.1).bind fun y32 => (some (.inl (((), a1, (), (if (y32.1.1 : Int) < a7 then y32.1.1 else a7), a9, a11, a13, a14, a15, (IntKind.wrap .i64 (a28 + 1)), ()), ((b0_0, ()), (b1_0, b1_1, ()), ()), ()))))) else (some (.inr ((a7, ()), ((b0_0, ()), (b1_0, b1_1, ()), ()), ()))))
noncomputable def L14_9 (a1 : (List Int)) (a7 : Int) (a9 : Int) (a11 : (List Int)) (a13 : (List Int)) (a14 : Int) (a15 : Int) (a28 : Int) (b0_0 : (List ((List Int) × (Int × Unit)))) (b1_0 : (List Int)) (b1_1 : (List (List (Int × (Int × (Int × (Int × (ByteArray × ((List Int) × (Nat × (Int × Unit))))))))))) : Option ((Int × Unit) × (((List ((List Int) × (Int × Unit))) × Unit) × (((List Int) × ((List (List (Int × (Int × (Int × (Int × (ByteArray × ((List Int) × (Nat × (Int × Unit)))))))))) × Unit)) × Unit)) × Unit) := loopF (fun x : ((Unit × ((List Int) × (Unit × (Int × (Int × ((List Int) × ((List Int) × (Int × (Int × (Int × Unit)))))))))) × (((List ((List Int) × (Int × Unit))) × Unit) × (((List Int) × ((List (List (Int × (Int × (Int × (Int × (ByteArray × ((List Int) × (Nat × (Int × Unit)))))))))) × Unit)) × Unit)) × Unit) => T14_9 x.1.2.1 x.1.2.2.2.1 x.1.2.2.2.2.1 x.1.2.2.2.2.2.1 x.1.2.2.2.2.2.2.1 x.1.2.2.2.2.2.2.2.1 x.1.2.2.2.2.2.2.2.2.1 x.1.2.2.2.2.2.2.2.2.2.1 x.2.1.1.1 x.2.1.2.1.1 x.2.1.2.1.2.1) (((), a1, (), a7, a9, a11, a13, a14, a15, a28, ()), ((b0_0, ()), (b1_0, b1_1, ()), ()), ())
theorem L14_9_eq (a1 : (List Int)) (a7 : Int) (a9 : Int) (a11 : (List Int)) (a13 : (List Int)) (a14 : Int) (a15 : Int) (a28 : Int) (b0_0 : (List ((List Int) × (Int × Unit)))) (b1_0 : (List Int)) (b1_1 : (List (List (Int × (Int × (Int × (Int × (ByteArray × ((List Int) × (Nat × (Int × Unit))))))))))) : L14_9 a1 a7 a9 a11 a13 a14 a15 a28 b0_0 b1_0 b1_1 = (T14_9 a1 a7 a9 a11 a13 a14 a15 a28 b0_0 b1_0 b1_1).bind (Sum.elim (fun x => L14_9 x.1.2.1 x.1.2.2.2.1 x.1.2.2.2.2.1 x.1.2.2.2.2.2.1 x.1.2.2.2.2.2.2.1 x.1.2.2.2.2.2.2.2.1 x.1.2.2.2.2.2.2.2.2.1 x.1.2.2.2.2.2.2.2.2.2.1 x.2.1.1.1 x.2.1.2.1.1 x.2.1.2.1.2.1) some) := loopF_eq _ _
noncomputable def k14_9 : Con := ⟨i14_9, o14_9, fun x => L14_9 x.1.2.1 x.1.2.2.2.1 x.1.2.2.2.2.1 x.1.2.2.2.2.2.1 x.1.2.2.2.2.2.2.1 x.1.2.2.2.2.2.2.2.1 x.1.2.2.2.2.2.2.2.2.1 x.1.2.2.2.2.2.2.2.2.2.1 x.2.1.1.1 x.2.1.2.1.1 x.2.1.2.1.2.1⟩
theorem e14_9 (x : i14_9.E) : vround Try.prog C14_9 LO14_9 Try.f14.ntmps l14_9 i14_9 o14_9 x = T14_9 x.1.2.1 x.1.2.2.2.1 x.1.2.2.2.2.1 x.1.2.2.2.2.2.1 x.1.2.2.2.2.2.2.1 x.1.2.2.2.2.2.2.2.1 x.1.2.2.2.2.2.2.2.2.1 x.1.2.2.2.2.2.2.2.2.2.1 x.2.1.1.1 x.2.1.2.1.1 x.2.1.2.1.2.1 := by kernel_rfl
theorem k14_9_ok : Con.LOK Try.prog Try.f14.ntmps l14_9 k14_9 := (loop_ok C14_9_ok (loops_of (l := []) (by kernel_rfl) (show LoopsOK Try.prog Try.f14.ntmps [] LO14_9 from trivial)) i14_9 o14_9).congr fun x => (congrArg (fun T => loopF T x) (funext e14_9)).symm
noncomputable def C14_3 : Tab := [(37, c37), (39, c39), (40, c40)]
theorem C14_3_ok : TabOK Try.prog C14_3 := ⟨c37_ok, c39_ok, c40_ok, trivial⟩
noncomputable def LO14_3 : Tab := [(9, k14_9)]
noncomputable def i14_3 : Tm := { sl := [(0, .p 0 0), (1, .v (.l (.i .i64))), (5, .p 1 0), (7, .v (.i .u64)), (13, .v (.l (.i .i64))), (14, .v (.i .i64)), (15, .v (.i .i64))], bx := [[.ra (.p (.l (.i .u64)) (.p (.i .u64) .u))], [.v (.l (.i .u64)), .v (.l (.l (.p (.i .i64) (.p (.i .u64) (.p (.i .u64) (.p (.i .u8) (.p .s (.p (.l (.i .u8)) (.p (.f .f64) (.p (.i .i64) .u))))))))))]], bf := [] }
noncomputable def o14_3 : OT := (.exit 0 { sl := [(7, .v (.i .u64))], bx := [[.ra (.p (.l (.i .u64)) (.p (.i .u64) .u))], [.v (.l (.i .u64)), .v (.l (.l (.p (.i .i64) (.p (.i .u64) (.p (.i .u64) (.p (.i .u8) (.p .s (.p (.l (.i .u8)) (.p (.f .f64) (.p (.i .i64) .u))))))))))]], bf := [] })
noncomputable def T14_3 (a1 : (List Int)) (a7 : Int) (a13 : (List Int)) (a14 : Int) (a15 : Int) (b0_0 : (List ((List Int) × (Int × Unit)))) (b1_0 : (List Int)) (b1_1 : (List (List (Int × (Int × (Int × (Int × (ByteArray × ((List Int) × (Nat × (Int × Unit))))))))))) : Option (((Unit × ((List Int) × (Unit × (Int × ((List Int) × (Int × (Int × Unit))))))) × (((List ((List Int) × (Int × Unit))) × Unit) × (((List Int) × ((List (List (Int × (Int × (Int × (Int × (ByteArray × ((List Int) × (Nat × (Int × Unit)))))))))) × Unit)) × Unit)) × Unit) ⊕ ((Int × Unit) × (((List ((List Int) × (Int × Unit))) × Unit) × (((List Int) × ((List (List (Int × (Int × (Int × (Int × (ByteArray × ((List Int) × (Nat × (Int × Unit)))))))))) × Unit)) × Unit)) × Unit)) :=
  (bif (decide ((a15 : Int) < a14)) then (bif (decide (0 ≤ (a15 : Int) ∧ (a15 : Int) < (((a13).length : Nat) : Int))) then ((F37 ((a13).getD (a15 : Int).toNat (0 : Int)) b0_0).bind fun y36 => ((L14_9 a1 (if (y36.1.1.2.2.1 : Int) < a7 then y36.1.1.2.2.1 else a7) ((a13).getD (a15 : Int).toNat (0 : Int)) y36.1.1.2.1 a13 a14 a15 0 y36.2.1.1.1 b1_0 b1_1).bind fun y37 => ((F39 y36.1.1.2.1 ((a13).getD (a15 : Int).toNat (0 : Int))).bind fun y38 => ((F40 (y37.2.1.2.1.1, (y37.2.1.2.1.2.1, ())) ((a13).getD (a15 : Int).toNat (0 : Int))).bind fun y39 => (bif (decide ((y38.1.1 : Int) > y39.1.1)) then (some (.inl (((), a1, (), 0, a13, a14, (IntKind.wrap .i64 (a15 + 1)), ()), ((y37.2.1.1.1, ()), (y37.2.1.2.1.1, y37.2.1.2.1.2.1, ()), ()), ()))) else (some (.inl (((), a1, (), y37.1.1, a13, a14, (IntKind.wrap .i64 (a15 + 1)), ()), ((y37.2.1.1.1, ()), (y37.2.1.2.1.1, y37.2.1.2.1.2.1, ()), ()), ())))))))) else none) else (some (.inr ((a7, ()), ((b0_0, ()), (b1_0, b1_1, ()), ()), ()))))
noncomputable def L14_3 (a1 : (List Int)) (a7 : Int) (a13 : (List Int)) (a14 : Int) (a15 : Int) (b0_0 : (List ((List Int) × (Int × Unit)))) (b1_0 : (List Int)) (b1_1 : (List (List (Int × (Int × (Int × (Int × (ByteArray × ((List Int) × (Nat × (Int × Unit))))))))))) : Option ((Int × Unit) × (((List ((List Int) × (Int × Unit))) × Unit) × (((List Int) × ((List (List (Int × (Int × (Int × (Int × (ByteArray × ((List Int) × (Nat × (Int × Unit)))))))))) × Unit)) × Unit)) × Unit) := loopF (fun x : ((Unit × ((List Int) × (Unit × (Int × ((List Int) × (Int × (Int × Unit))))))) × (((List ((List Int) × (Int × Unit))) × Unit) × (((List Int) × ((List (List (Int × (Int × (Int × (Int × (ByteArray × ((List Int) × (Nat × (Int × Unit)))))))))) × Unit)) × Unit)) × Unit) => T14_3 x.1.2.1 x.1.2.2.2.1 x.1.2.2.2.2.1 x.1.2.2.2.2.2.1 x.1.2.2.2.2.2.2.1 x.2.1.1.1 x.2.1.2.1.1 x.2.1.2.1.2.1) (((), a1, (), a7, a13, a14, a15, ()), ((b0_0, ()), (b1_0, b1_1, ()), ()), ())
theorem L14_3_eq (a1 : (List Int)) (a7 : Int) (a13 : (List Int)) (a14 : Int) (a15 : Int) (b0_0 : (List ((List Int) × (Int × Unit)))) (b1_0 : (List Int)) (b1_1 : (List (List (Int × (Int × (Int × (Int × (ByteArray × ((List Int) × (Nat × (Int × Unit))))))))))) : L14_3 a1 a7 a13 a14 a15 b0_0 b1_0 b1_1 = (T14_3 a1 a7 a13 a14 a15 b0_0 b1_0 b1_1).bind (Sum.elim (fun x => L14_3 x.1.2.1 x.1.2.2.2.1 x.1.2.2.2.2.1 x.1.2.2.2.2.2.1 x.1.2.2.2.2.2.2.1 x.2.1.1.1 x.2.1.2.1.1 x.2.1.2.1.2.1) some) := loopF_eq _ _
noncomputable def k14_3 : Con := ⟨i14_3, o14_3, fun x => L14_3 x.1.2.1 x.1.2.2.2.1 x.1.2.2.2.2.1 x.1.2.2.2.2.2.1 x.1.2.2.2.2.2.2.1 x.2.1.1.1 x.2.1.2.1.1 x.2.1.2.1.2.1⟩
theorem e14_3 (x : i14_3.E) : vround Try.prog C14_3 LO14_3 Try.f14.ntmps l14_3 i14_3 o14_3 x = T14_3 x.1.2.1 x.1.2.2.2.1 x.1.2.2.2.2.1 x.1.2.2.2.2.2.1 x.1.2.2.2.2.2.2.1 x.2.1.1.1 x.2.1.2.1.1 x.2.1.2.1.2.1 := by kernel_rfl
theorem k14_3_ok : Con.LOK Try.prog Try.f14.ntmps l14_3 k14_3 := (loop_ok C14_3_ok (loops_of (l := [l14_9]) (by kernel_rfl) (show LoopsOK Try.prog Try.f14.ntmps [l14_9] LO14_3 from ⟨k14_9_ok, trivial⟩)) i14_3 o14_3).congr fun x => (congrArg (fun T => loopF T x) (funext e14_3)).symm
noncomputable def C14 : Tab := [(37, c37), (39, c39), (40, c40)]
theorem C14_ok : TabOK Try.prog C14 := ⟨c37_ok, c39_ok, c40_ok, trivial⟩
noncomputable def LO14 : Tab := [(3, k14_3)]
noncomputable def i14 : Tm := { sl := [(0, .p 0 0), (1, .v (.l (.i .i64))), (2, .v (.p (.l (.i .u64)) (.p (.l (.l (.p (.i .i64) (.p (.i .u64) (.p (.i .u64) (.p (.i .u8) (.p .s (.p (.l (.i .u8)) (.p (.f .f64) (.p (.i .i64) .u)))))))))) .u)))], bx := [[.ra (.p (.l (.i .u64)) (.p (.i .u64) .u))]], bf := [] }
noncomputable def o14 : OT := (.ret { sl := [(0, .v (.i .u64))], bx := [[.ra (.p (.l (.i .u64)) (.p (.i .u64) .u))]], bf := [] })
/-- (*anabranch/matrix.Matrix).Bound -/
noncomputable def F14 (a1 : (List Int)) (a2 : ((List Int) × ((List (List (Int × (Int × (Int × (Int × (ByteArray × ((List Int) × (Nat × (Int × Unit)))))))))) × Unit))) (b0_0 : (List ((List Int) × (Int × Unit)))) : Option ((Int × Unit) × (((List ((List Int) × (Int × Unit))) × Unit) × Unit) × Unit) :=
  ((L14_3 a1 9223372036854775807 a1 (((a1).length : Nat) : Int) 0 b0_0 a2.1 a2.2.1).bind fun y40 => (bif (((((a1).length : Nat) : Int) : Int) == 0) then (some ((0, ()), ((y40.2.1.1.1, ()), ()), ())) else (some ((y40.1.1, ()), ((y40.2.1.1.1, ()), ()), ()))))
noncomputable def c14 : Con := ⟨i14, o14, fun x => F14 x.1.2.1 x.1.2.2.1 x.2.1.1.1⟩
theorem e14 (x : i14.E) : vfn Try.prog C14 LO14 Try.f14 b14 i14 o14 x = F14 x.1.2.1 x.1.2.2.1 x.2.1.1.1 := by kernel_rfl
theorem c14_ok : Con.OK Try.prog 14 c14 := (fn_ok C14_ok Try.func14 body14 (loops_of (l := [l14_3]) (by kernel_rfl) (show LoopsOK Try.prog Try.f14.ntmps [l14_3] LO14 from ⟨k14_3_ok, trivial⟩)) i14 o14).congr fun x => (e14 x).symm
noncomputable def b10 : Code := (.seq (.region 0 (regOf Try.f10 0) false) (.seq (.region 1 (regOf Try.f10 1) false) (.seq (.region 2 (regOf Try.f10 2) false) (.seq (.region 3 (regOf Try.f10 3) false) (.seq (.region 4 (regOf Try.f10 4) false) (.seq (.region 5 (regOf Try.f10 5) false) .ret))))))
theorem body10 : Try.f10.body = some b10 := by kernel_rfl
noncomputable def C10 : Tab := [(12, c12), (13, c13), (14, c14)]
theorem C10_ok : TabOK Try.prog C10 := ⟨c12_ok, c13_ok, c14_ok, trivial⟩
noncomputable def LO10 : Tab := []
noncomputable def i10 : Tm := { sl := [], bx := [], bf := [] }
noncomputable def o10 : OT := (.ret { sl := [(0, .v .b)], bx := [], bf := [] })
/-- anabranch/anabranchlaw13.awake -/
noncomputable def F10 : Option ((Bool × Unit) × Unit × Unit) :=
  ((F12).bind fun y41 => ((F13 (0, ([1], (5, ()))) y41.2.1.1.1).bind fun y42 => ((F13 (1, ([1], (7, ()))) y42.2.1.1.1).bind fun y43 => (bif y42.1.1 then (bif y43.1.1 then ((F14 [0, 1] (([] : List Int), ([[(0, (1, (3, (0, (ByteArray.empty, (([] : List Int), (0, (0, ()))))))))]], ())) y43.2.1.1.1).bind fun y44 => (some ((((y44.1.1 : Int) == 5), ()), (), ()))) else (some ((false, ()), (), ()))) else (some ((false, ()), (), ()))))))
noncomputable def c10 : Con := ⟨i10, o10, fun x => F10⟩
theorem e10 (x : i10.E) : vfn Try.prog C10 LO10 Try.f10 b10 i10 o10 x = F10 := by kernel_rfl
theorem c10_ok : Con.OK Try.prog 10 c10 := (fn_ok C10_ok Try.func10 body10 (loops_of (l := []) (by kernel_rfl) (show LoopsOK Try.prog Try.f10.ntmps [] LO10 from trivial)) i10 o10).congr fun x => (e10 x).symm
noncomputable def l3_6 : Code := (.seq (.seq (.region 6 (regOf Try.f3 6) false) (.cond (.tmp 39) .skip (.exit 0))) (.seq (.block 1 (.seq (.region 8 (regOf Try.f3 8) false) (.seq (.seq (.region 9 (regOf Try.f3 9) false) (.cond (.tmp 49) (.seq (.region 10 (regOf Try.f3 10) false) .ret) .skip)) (.seq (.region 11 (regOf Try.f3 11) false) (.region 12 (regOf Try.f3 12) false))))) (.region 7 (regOf Try.f3 7) false)))
noncomputable def b3 : Code := (.seq (.region 0 (regOf Try.f3 0) false) (.seq (.seq (.region 1 (regOf Try.f3 1) false) (.cond (.tmp 31) (.seq (.region 2 (regOf Try.f3 2) false) .ret) .skip)) (.seq (.region 3 (regOf Try.f3 3) false) (.seq (.region 4 (regOf Try.f3 4) false) (.seq (.seq (.region 5 (regOf Try.f3 5) false) (.block 0 (.loop l3_6))) (.seq (.region 13 (regOf Try.f3 13) false) (.seq (.region 14 (regOf Try.f3 14) false) (.seq (.region 15 (regOf Try.f3 15) false) (.seq (.region 16 (regOf Try.f3 16) false) (.seq (.seq (.region 17 (regOf Try.f3 17) true) (.cond (.tmp 84) (.seq (.region 18 (regOf Try.f3 18) false) .ret) .skip)) (.seq (.region 19 (regOf Try.f3 19) false) (.seq (.region 20 (regOf Try.f3 20) false) .ret))))))))))))
theorem body3 : Try.f3.body = some b3 := by kernel_rfl
noncomputable def C3_6 : Tab := [(13, c13)]
theorem C3_6_ok : TabOK Try.prog C3_6 := ⟨c13_ok, trivial⟩
noncomputable def LO3_6 : Tab := []
noncomputable def i3_6 : Tm := { sl := [(1, .v (.l (.p (.i .i64) (.p (.l (.i .u64)) (.p (.i .u64) .u))))), (5, .p 0 0), (7, .v (.l (.l (.p (.i .i64) (.p (.i .u64) (.p (.i .u64) (.p (.i .u8) (.p .s (.p (.l (.i .u8)) (.p (.f .f64) (.p (.i .i64) .u))))))))))), (8, .p 1 0), (9, .v (.i .i64))], bx := [[.v (.i .i64), .v (.l (.i .u64)), .v (.i .u64)], [.ra (.p (.l (.i .u64)) (.p (.i .u64) .u))]], bf := [] }
noncomputable def o3_6 : OT := (.two (.ret { sl := [(6, .v .b)], bx := [[.v (.i .i64), .v (.l (.i .u64)), .v (.i .u64)], [.ra (.p (.l (.i .u64)) (.p (.i .u64) .u))]], bf := [] }) (.exit 0 { sl := [], bx := [[.v (.i .i64), .v (.l (.i .u64)), .v (.i .u64)], [.ra (.p (.l (.i .u64)) (.p (.i .u64) .u))]], bf := [] }))
noncomputable def T3_6 (a1 : (List (Int × ((List Int) × (Int × Unit))))) (a7 : (List (List (Int × (Int × (Int × (Int × (ByteArray × ((List Int) × (Nat × (Int × Unit))))))))))) (a9 : Int) (b0_0 : Int) (b0_1 : (List Int)) (b0_2 : Int) (b1_0 : (List ((List Int) × (Int × Unit)))) : Option ((((List (Int × ((List Int) × (Int × Unit)))) × (Unit × ((List (List (Int × (Int × (Int × (Int × (ByteArray × ((List Int) × (Nat × (Int × Unit)))))))))) × (Unit × (Int × Unit))))) × ((Int × ((List Int) × (Int × Unit))) × (((List ((List Int) × (Int × Unit))) × Unit) × Unit)) × Unit) ⊕ (((Bool × Unit) × ((Int × ((List Int) × (Int × Unit))) × (((List ((List Int) × (Int × Unit))) × Unit) × Unit)) × Unit) ⊕ (Unit × ((Int × ((List Int) × (Int × Unit))) × (((List ((List Int) × (Int × Unit))) × Unit) × Unit)) × Unit))) :=
  (bif (decide ((a9 : Int) < (((a1).length : Nat) : Int))) then (bif (decide (0 ≤ (a9 : Int) ∧ (a9 : Int) < (((a1).length : Nat) : Int))) then (bif (decide (((((((a1).getD (a9 : Int).toNat ((0 : Int), ([], ((0 : Int), ())))).2.1).length : Nat) : Int) : Int) > 8)) then (some (.inr (.inl ((true, ()), ((b0_0, b0_1, b0_2, ()), (b1_0, ()), ()), ())))) else ((F13 ((IntKind.wrap .i64 (((IntKind.wrap .u64 ((a1).getD (a9 : Int).toNat ((0 : Int), ([], ((0 : Int), ())))).1) : Int).tmod 4)), (((a1).getD (a9 : Int).toNat ((0 : Int), ([], ((0 : Int), ())))).2.1, (((a1).getD (a9 : Int).toNat ((0 : Int), ([], ((0 : Int), ())))).2.2.1, ()))) b1_0).bind fun y53 => (some (.inl ((a1, (), a7, (), (IntKind.wrap .i64 (a9 + 1)), ()), ((b0_0, b0_1, b0_2, ()), (y53.2.1.1.1, ()), ()), ()))))) else none) else (some (.inr (.inr ((), ((b0_0, b0_1, b0_2, ()), (b1_0, ()), ()), ())))))
noncomputable def L3_6 (a1 : (List (Int × ((List Int) × (Int × Unit))))) (a7 : (List (List (Int × (Int × (Int × (Int × (ByteArray × ((List Int) × (Nat × (Int × Unit))))))))))) (a9 : Int) (b0_0 : Int) (b0_1 : (List Int)) (b0_2 : Int) (b1_0 : (List ((List Int) × (Int × Unit)))) : Option (((Bool × Unit) × ((Int × ((List Int) × (Int × Unit))) × (((List ((List Int) × (Int × Unit))) × Unit) × Unit)) × Unit) ⊕ (Unit × ((Int × ((List Int) × (Int × Unit))) × (((List ((List Int) × (Int × Unit))) × Unit) × Unit)) × Unit)) := loopF (fun x : (((List (Int × ((List Int) × (Int × Unit)))) × (Unit × ((List (List (Int × (Int × (Int × (Int × (ByteArray × ((List Int) × (Nat × (Int × Unit)))))))))) × (Unit × (Int × Unit))))) × ((Int × ((List Int) × (Int × Unit))) × (((List ((List Int) × (Int × Unit))) × Unit) × Unit)) × Unit) => T3_6 x.1.1 x.1.2.2.1 x.1.2.2.2.2.1 x.2.1.1.1 x.2.1.1.2.1 x.2.1.1.2.2.1 x.2.1.2.1.1) ((a1, (), a7, (), a9, ()), ((b0_0, b0_1, b0_2, ()), (b1_0, ()), ()), ())
theorem L3_6_eq (a1 : (List (Int × ((List Int) × (Int × Unit))))) (a7 : (List (List (Int × (Int × (Int × (Int × (ByteArray × ((List Int) × (Nat × (Int × Unit))))))))))) (a9 : Int) (b0_0 : Int) (b0_1 : (List Int)) (b0_2 : Int) (b1_0 : (List ((List Int) × (Int × Unit)))) : L3_6 a1 a7 a9 b0_0 b0_1 b0_2 b1_0 = (T3_6 a1 a7 a9 b0_0 b0_1 b0_2 b1_0).bind (Sum.elim (fun x => L3_6 x.1.1 x.1.2.2.1 x.1.2.2.2.2.1 x.2.1.1.1 x.2.1.1.2.1 x.2.1.1.2.2.1 x.2.1.2.1.1) some) := loopF_eq _ _
noncomputable def k3_6 : Con := ⟨i3_6, o3_6, fun x => L3_6 x.1.1 x.1.2.2.1 x.1.2.2.2.2.1 x.2.1.1.1 x.2.1.1.2.1 x.2.1.1.2.2.1 x.2.1.2.1.1⟩
theorem e3_6 (x : i3_6.E) : vround Try.prog C3_6 LO3_6 Try.f3.ntmps l3_6 i3_6 o3_6 x = T3_6 x.1.1 x.1.2.2.1 x.1.2.2.2.2.1 x.2.1.1.1 x.2.1.1.2.1 x.2.1.1.2.2.1 x.2.1.2.1.1 := by kernel_rfl
theorem k3_6_ok : Con.LOK Try.prog Try.f3.ntmps l3_6 k3_6 := (loop_ok C3_6_ok (loops_of (l := []) (by kernel_rfl) (show LoopsOK Try.prog Try.f3.ntmps [] LO3_6 from trivial)) i3_6 o3_6).congr fun x => (congrArg (fun T => loopF T x) (funext e3_6)).symm
noncomputable def C3 : Tab := [(10, c10), (11, c11), (12, c12), (13, c13), (14, c14), (15, c15)]
theorem C3_ok : TabOK Try.prog C3 := ⟨c10_ok, c11_ok, c12_ok, c13_ok, c14_ok, c15_ok, trivial⟩
noncomputable def LO3 : Tab := [(6, k3_6)]
noncomputable def i3 : Tm := { sl := [(0, .v (.l (.i .u16))), (1, .v (.l (.p (.i .i64) (.p (.l (.i .u64)) (.p (.i .u64) .u))))), (2, .v (.p (.i .i64) (.p (.l (.i .u64)) (.p (.i .u64) .u))))], bx := [], bf := [] }
noncomputable def o3 : OT := (.ret { sl := [(0, .v .b)], bx := [], bf := [] })
/-- anabranch/anabranchlaw13.MatrixRises -/
noncomputable def F3 (a0 : (List Int)) (a1 : (List (Int × ((List Int) × (Int × Unit))))) (a2 : (Int × ((List Int) × (Int × Unit)))) : Option ((Bool × Unit) × Unit × Unit) :=
  ((F10).bind fun y45 => (bif (!y45.1.1) then ((F10).bind fun y46 => (some ((y46.1.1, ()), (), ()))) else (bif (decide (((((a0).length : Nat) : Int) : Int) > 60)) then ((F10).bind fun y47 => (some ((y47.1.1, ()), (), ()))) else (bif (decide (((((a1).length : Nat) : Int) : Int) > 20)) then ((F10).bind fun y48 => (some ((y48.1.1, ()), (), ()))) else (bif (decide (((((a2.2.1).length : Nat) : Int) : Int) > 8)) then ((F10).bind fun y49 => (some ((y49.1.1, ()), (), ()))) else ((F11 a0).bind fun y50 => ((F12).bind fun y51 => ((L3_6 a1 y50.1.1 0 a2.1 a2.2.1 a2.2.2.1 y51.2.1.1.1).bind fun y54 => (Sum.elim (fun y55 => (some ((y55.1.1, ()), (), ()))) (fun y55 => ((F14 [0, 1, 2, 3] (([] : List Int), (y50.1.1, ())) y55.2.1.2.1.1).bind fun y56 => ((F15 y55.2.1.1.2.1 (IntKind.wrap .i64 (((IntKind.wrap .u64 y55.2.1.1.1) : Int).tmod 4))).bind fun y57 => (bif (decide (0 ≤ ((IntKind.wrap .i64 (((IntKind.wrap .u64 y55.2.1.1.1) : Int).tmod 4)) : Int) ∧ ((IntKind.wrap .i64 (((IntKind.wrap .u64 y55.2.1.1.1) : Int).tmod 4)) : Int) < (((y50.1.1).length : Nat) : Int))) then (bif (decide ((y57.1.1 : Int) > (IntKind.wrap .u64 (((((y50.1.1).getD ((IntKind.wrap .i64 (((IntKind.wrap .u64 y55.2.1.1.1) : Int).tmod 4)) : Int).toNat [])).length : Nat) : Int)))) then (some ((true, ()), (), ())) else ((F13 ((IntKind.wrap .i64 (((IntKind.wrap .u64 y55.2.1.1.1) : Int).tmod 4)), (y55.2.1.1.2.1, (y55.2.1.1.2.2.1, ()))) y56.2.1.1.1).bind fun y58 => ((F14 [0, 1, 2, 3] (([] : List Int), (y50.1.1, ())) y58.2.1.1.1).bind fun y59 => (some (((decide ((y59.1.1 : Int) ≥ y56.1.1)), ()), (), ()))))) else none)))) y54)))))))))
noncomputable def c3 : Con := ⟨i3, o3, fun x => F3 x.1.1 x.1.2.1 x.1.2.2.1⟩
theorem e3 (x : i3.E) : vfn Try.prog C3 LO3 Try.f3 b3 i3 o3 x = F3 x.1.1 x.1.2.1 x.1.2.2.1 := by kernel_rfl
theorem c3_ok : Con.OK Try.prog 3 c3 := (fn_ok C3_ok Try.func3 body3 (loops_of (l := [l3_6]) (by kernel_rfl) (show LoopsOK Try.prog Try.f3.ntmps [l3_6] LO3 from ⟨k3_6_ok, trivial⟩)) i3 o3).congr fun x => (e3 x).symm
end Go.IM.V

/- The value machine: texts held against one another. -/
set_option linter.unusedVariables false
set_option linter.unusedSimpArgs false
namespace Go.IM.V
open Go Go.IM

theorem toList_loop (bs : ByteArray) : ∀ (d i : Nat) (r : List UInt8), i + d = bs.size → ByteArray.toList.loop bs i r = r.reverse ++ bs.data.toList.drop i := by
  intro d
  induction d with
  | zero =>
    intro i r h
    unfold ByteArray.toList.loop
    rw [if_neg (by omega), List.drop_eq_nil_of_le (by simp; omega), List.append_nil]
  | succ d ih =>
    intro i r h
    have hs : bs.size = bs.data.toList.length := by simp
    unfold ByteArray.toList.loop
    rw [if_pos (by omega), ih (i + 1) _ (by omega), List.drop_eq_getElem_cons (l := bs.data.toList) (i := i) (by omega)]
    have hlt : i < bs.data.size := by have : bs.size = bs.data.size := rfl; omega
    have : bs.get! i = bs.data.toList[i]'(by omega) := by
      show bs.data[i]! = _
      rw [getElem!_pos bs.data i hlt]
      simp
    simp [this]
theorem toListB (bs : ByteArray) : bs.toList = bs.data.toList := by
  have := toList_loop bs bs.size 0 [] (by omega)
  unfold ByteArray.toList
  rw [this]; simp
theorem strL_toList (l : List Int) : (strL l).toList = l.map fun n => UInt8.ofNat n.toNat := by rw [toListB]; simp [strL]
theorem strL_beq {a b : List Int} (ha : ∀ x ∈ a, 0 ≤ x ∧ x < 256) (hb : ∀ x ∈ b, 0 ≤ x ∧ x < 256) : ((strL a).toList == (strL b).toList) = decide (a = b) := by
  rw [strL_toList, strL_toList, Bool.eq_iff_iff, beq_iff_eq, decide_eq_true_iff]
  constructor
  · intro h
    have back : ∀ l : List Int, (∀ x ∈ l, 0 ≤ x ∧ x < 256) → (l.map fun n => UInt8.ofNat n.toNat).map (fun b => (b.toNat : Int)) = l := by
      intro l hl
      rw [List.map_map]
      conv => rhs; rw [← List.map_id l]
      apply List.map_congr_left
      intro x hx
      have := hl x hx
      simp [UInt8.toNat_ofNat']
      omega
    rw [← back a ha, ← back b hb, h]
  · intro h; rw [h]
end Go.IM.V

/- Vectors: what the printed functions tell. -/
set_option linter.unusedVariables false
set_option linter.unusedSimpArgs false
set_option linter.constructorNameAsVariable false
namespace Go.IM.V
open Go Go.IM Go.Proofs

/-- The numbers of a vector: none below nought. -/
def Vok (v : List Int) : Prop := ∀ x ∈ v, 0 ≤ x ∧ x < 18446744073709551616
abbrev gv (v : List Int) (k : Nat) : Int := v.getD k 0
theorem Vok.gv {v : List Int} (h : Vok v) (k : Nat) : 0 ≤ gv v k ∧ gv v k < 18446744073709551616 := by
  unfold V.gv
  rw [List.getD_eq_getElem?_getD]
  rcases Nat.lt_or_ge k v.length with hk | hk
  · rw [List.getElem?_eq_getElem hk]; exact h _ (List.getElem_mem hk)
  · rw [List.getElem?_eq_none hk]; simp
theorem gv_ge {v : List Int} {k : Nat} (h : v.length ≤ k) : gv v k = 0 := by
  unfold gv; rw [List.getD_eq_getElem?_getD, List.getElem?_eq_none h]; rfl

theorem F39_nat (v : List Int) (k : Nat) : F39 v (k : Int) = some (r1 (gv v k)) := by
  unfold F39
  simp only [cif]
  rw [if_neg (by omega)]
  by_cases h : v.length ≤ k
  · rw [if_pos (by omega), gv_ge h]
  · rw [if_neg (by omega), if_pos (by omega), Int.toNat_natCast]
theorem F15_nat (v : List Int) (k : Nat) : F15 v (k : Int) = some (r1 (gv v k)) := F39_nat v k

/-- Has b all that a has, from k on? -/
def within (a b : List Int) : Bool := (List.range a.length).all fun k => decide (gv a k ≤ gv b k)
theorem within_iff (a b : List Int) : within a b = true ↔ ∀ k, k < a.length → gv a k ≤ gv b k := by simp [within]

theorem L53_run (a b : List Int) (hn : a.length < 2 ^ 62) : ∀ (d k : Nat), k + d = a.length → (∀ i, i < k → gv a i ≤ gv b i) → L53_2 b a (a.length : Nat) (k : Nat) = some (if within a b then .inr ((), (), ()) else .inl (r1 false)) := by
  intro d
  induction d with
  | zero =>
    intro k hk hle
    have hw : within a b = true := (within_iff a b).2 fun i hi => hle i (by omega)
    rw [L53_2_eq]
    simp only [T53_2, cif]
    rw [if_neg (by omega), hw]
    rfl
  | succ d ih =>
    intro k hk hle
    have hlt : k < a.length := by omega
    rw [L53_2_eq]
    simp only [T53_2, cif]
    rw [if_pos (by omega), if_pos (by omega), F39_nat]
    simp only [Option.bind_some, Int.toNat_natCast]
    by_cases h : gv a k ≤ gv b k
    · rw [if_neg (by show ¬ (gv a k > gv b k); omega)]
      simp only [Option.bind_some, Sum.elim_inl]
      have hw : IntKind.wrap .i64 ((k : Int) + 1) = ((k + 1 : Nat) : Int) := by rw [w64 (by omega) (by omega)]; omega
      rw [hw]
      exact ih (k + 1) (by omega) (fun i hi => by
        rcases Nat.lt_or_ge i k with q | q
        · exact hle i q
        · obtain rfl : i = k := by omega
          exact h)
    · rw [if_pos (by show gv a k > gv b k; omega)]
      have hw : within a b = false := by
        cases hq : within a b with
        | false => rfl
        | true => exact absurd ((within_iff a b).1 hq k hlt) h
      rw [hw]
      rfl
theorem F53_eq (a b : List Int) (hn : a.length < 2 ^ 62) : F53 a b = some (r1 (within a b)) := by
  unfold F53
  have := L53_run a b hn a.length 0 (by omega) (fun i hi => by omega)
  rw [show ((0 : Nat) : Int) = 0 from rfl] at this
  rw [this]
  cases within a b <;> rfl
theorem F36_eq (a b : List Int) (ha : a.length < 2 ^ 62) (hb : b.length < 2 ^ 62) : F36 a b = some (r1 (within a b && within b a)) := by
  unfold F36
  rw [F53_eq a b ha]
  simp only [Option.bind_some]
  cases within a b
  · rfl
  · rw [F53_eq b a hb]; rfl
/-! ### Trim -/
theorem F66_eq (a : List Int) (h : a.length < 2 ^ 39) : F66 a = some (r1 a) := by
  unfold F66
  refine nilBr_of ?_ (fun h0 => ?_)
  · rw [cif, if_pos (by unfold lim; simp; omega)]; rfl
  · rw [List.eq_nil_of_length_eq_zero h0]
def trimN (a : List Int) : Nat → Nat
  | 0 => 0
  | n + 1 => if gv a n = 0 then trimN a n else n + 1
theorem trimN_le (a : List Int) : ∀ n, trimN a n ≤ n := by
  intro n
  induction n with
  | zero => exact Nat.le_refl _
  | succ n ih => simp only [trimN]; split <;> omega
theorem trimN_nz (a : List Int) : ∀ n, trimN a n = 0 ∨ gv a (trimN a n - 1) ≠ 0 := by
  intro n
  induction n with
  | zero => exact .inl rfl
  | succ n ih =>
    simp only [trimN]
    split
    · exact ih
    · rename_i h; exact .inr (by simpa using h)
theorem trimN_z (a : List Int) : ∀ n k, trimN a n ≤ k → k < n → gv a k = 0 := by
  intro n
  induction n with
  | zero => intro k _ h; omega
  | succ n ih =>
    intro k h1 h2
    simp only [trimN] at h1
    split at h1
    · rename_i h
      rcases Nat.lt_or_ge k n with q | q
      · exact ih k h1 q
      · obtain rfl : k = n := by omega
        exact h
    · omega
def trim (a : List Int) : List Int := a.take (trimN a a.length)
theorem L54_run (a : List Int) (hn : a.length < 2 ^ 39) : ∀ k, k ≤ a.length → L54_2 a (k : Nat) = some (r1 ((trimN a k : Nat) : Int)) := by
  intro k
  induction k with
  | zero =>
    intro _
    rw [L54_2_eq]
    simp only [T54_2, cif]
    rw [if_neg (by omega)]
    rfl
  | succ k ih =>
    intro hk
    rw [L54_2_eq]
    have hw : IntKind.wrap .i64 (((k + 1 : Nat) : Int) - 1) = (k : Int) := by rw [w64 (by omega) (by omega)]; omega
    simp only [T54_2, cif]
    rw [hw, if_pos (by omega), if_pos (by omega)]
    simp only [Int.toNat_natCast]
    by_cases h : gv a k = 0
    · have hb : (a.getD k 0 == 0) = true := by simpa using h
      rw [hb]
      simp only [cond_true, Option.bind_some, Sum.elim_inl]
      rw [ih (by omega)]
      simp only [trimN]
      rw [if_pos h]
    · have hb : (a.getD k 0 == 0) = false := by simpa using h
      rw [hb]
      simp only [cond_false, Option.bind_some, Sum.elim_inr, trimN]
      rw [if_neg h]
theorem F54_eq (a : List Int) (hn : a.length < 2 ^ 39) : F54 a = some (r1 (trim a)) := by
  unfold F54
  rw [L54_run a hn a.length (Nat.le_refl _)]
  have := trimN_le a a.length
  simp only [Option.bind_some, cif]
  rw [if_pos (by omega), Int.toNat_natCast, F66_eq _ (by rw [List.length_take]; omega)]
  rfl
theorem gv_trim (a : List Int) (k : Nat) : gv (trim a) k = gv a k := by
  unfold trim
  rcases Nat.lt_or_ge k (trimN a a.length) with h | h
  · unfold gv; rw [List.getD_eq_getElem?_getD, List.getD_eq_getElem?_getD, List.getElem?_take, if_pos h]
  · rw [gv_ge (by rw [List.length_take]; omega)]
    rcases Nat.lt_or_ge k a.length with h2 | h2
    · exact (trimN_z a a.length k h h2).symm
    · exact (gv_ge h2).symm
theorem trim_len (a : List Int) : (trim a).length = trimN a a.length := by
  unfold trim; rw [List.length_take]; have := trimN_le a a.length; omega

/-! ### Join, Meet -/
def pairL (f : Int → Int → Int) (a b : List Int) (n : Nat) : List Int := (List.range n).map fun k => f (gv a k) (gv b k)
theorem pairL_succ (f : Int → Int → Int) (a b : List Int) (n : Nat) : pairL f a b (n + 1) = pairL f a b n ++ [f (gv a n) (gv b n)] := by
  unfold pairL; rw [List.range_succ, List.map_append]; rfl
def mxI (x y : Int) : Int := if y > x then y else x
def mnI (x y : Int) : Int := if y < x then y else x
theorem L51_run (a b : List Int) (n : Nat) (hn : n < 2 ^ 38) : ∀ (d k : Nat), k + d = n → L51_3 a b (n : Nat) (k : Nat) (pairL mxI a b k) = some (((), ()), (), (pairL mxI a b n, ())) := by
  intro d
  induction d with
  | zero =>
    intro k hk
    obtain rfl : k = n := by omega
    rw [L51_3_eq]
    simp only [T51_3, cif]
    rw [if_neg (by omega)]
    rfl
  | succ d ih =>
    intro k hk
    rw [L51_3_eq]
    have hw : IntKind.wrap .i64 ((k : Int) + 1) = ((k + 1 : Nat) : Int) := by rw [w64 (by omega) (by omega)]; omega
    simp only [T51_3, cif]
    rw [if_pos (by omega), F39_nat, F39_nat, hw]
    simp only [Option.bind_some, F52]
    rw [if_pos (by unfold lim pairL; simp; omega)]
    simp only [Option.bind_some, Sum.elim_inl]
    have := ih (k + 1) (by omega)
    rw [pairL_succ] at this
    exact this
theorem ifmax (a b : Nat) : (if ((b : Int)) > (a : Int) then (b : Int) else (a : Int)) = ((max a b : Nat) : Int) := by split <;> omega
def join (a b : List Int) : List Int := trim (pairL mxI a b (max a.length b.length))
theorem pairL_len (f : Int → Int → Int) (a b : List Int) (n : Nat) : (pairL f a b n).length = n := by simp [pairL]
theorem F35_eq (a b : List Int) (ha : a.length < 2 ^ 38) (hb : b.length < 2 ^ 38) : F35 a b = some (r1 (join a b)) := by
  unfold F35 F51
  rw [ifmax]
  have := L51_run a b (max a.length b.length) (by omega) (max a.length b.length) 0 (by omega)
  rw [show ((0 : Nat) : Int) = 0 from rfl] at this
  rw [show pairL mxI a b 0 = ([] : List Int) from rfl] at this
  rw [this]
  simp only [Option.bind_some]
  rw [F54_eq _ (by rw [pairL_len]; omega)]
  rfl
theorem gv_pairL (f : Int → Int → Int) (h0 : f 0 0 = 0) (a b : List Int) (k : Nat) : gv (pairL f a b (max a.length b.length)) k = f (gv a k) (gv b k) := by
  rcases Nat.lt_or_ge k (max a.length b.length) with h | h
  · unfold gv pairL
    rw [List.getD_eq_getElem?_getD, List.getElem?_map, List.getElem?_range h]; rfl
  · rw [gv_ge (by rw [pairL_len]; exact h), gv_ge (v := a) (by omega), gv_ge (v := b) (by omega), h0]
theorem gv_join (a b : List Int) (k : Nat) : gv (join a b) k = mxI (gv a k) (gv b k) := by unfold join; rw [gv_trim, gv_pairL _ rfl]
theorem trim_last (a : List Int) : (trim a).length = 0 ∨ gv (trim a) ((trim a).length - 1) ≠ 0 := by
  rw [gv_trim, trim_len]
  exact trimN_nz a a.length
theorem join_len (a b : List Int) : (join a b).length ≤ max a.length b.length := by unfold join; rw [trim_len]; have := trimN_le (pairL mxI a b (max a.length b.length)) (pairL mxI a b (max a.length b.length)).length; rw [pairL_len] at this ⊢; exact this

end Go.IM.V

/- Feeds of four writers: what the printed function tells. -/
set_option linter.unusedVariables false
set_option linter.unusedSimpArgs false
set_option linter.constructorNameAsVariable false
namespace Go.IM.V
open Go Go.IM Go.Proofs
abbrev Ev : Type := Int × Int × Int × Int × ByteArray × List Int × Nat × Int × Unit

/-! ### Events of some writers -/
def upT (t x : Int) : Int := IntKind.wrap .u64 (t + (IntKind.wrap .u64 (1 + (((IntKind.wrap .u64 (IntKind.wrap .u16 (x.tdiv 16))) : Int).tmod 4))))
def kdX (x : Int) : Int := IntKind.wrap .u8 (1 + (((IntKind.wrap .u8 (IntKind.wrap .u16 (x.tdiv 64))) : Int).tmod 4))
def kyX (x : Int) : Int := IntKind.wrap .u8 (97 + (((IntKind.wrap .u8 (IntKind.wrap .u16 (x.tdiv 256))) : Int).tmod 4))
noncomputable def qtI (i : Int) : Nat := ((FloatKind.f64).format.div (FloatKind.nearest .f64 i) (4616189618054758400)).getD 0
noncomputable def evX (w : Int) (n : Nat) (t x i : Int) : Ev :=
  (w, (IntKind.wrap .u64 ((IntKind.wrap .u64 ((n : Nat) : Int)) + 1)), t, kdX x, strL [kyX x], (bif kdX x == 1 then [IntKind.wrap .u8 i] else []), (bif kdX x == 2 then qtI i else bif kdX x == 3 then qtI i else 0), 0, ())
theorem qt_some : ∀ i : Fin 60, ((FloatKind.f64).format.div (FloatKind.nearest .f64 ((i.val : Nat) : Int)) (4616189618054758400)).isSome = true := by decide +kernel
theorem qt_some' {i : Int} (h0 : 0 ≤ i) (h : i < 60) : ((FloatKind.f64).format.div (FloatKind.nearest .f64 i) (4616189618054758400)).isSome = true := by
  have := qt_some ⟨i.toNat, by omega⟩
  rwa [show ((i.toNat : Nat) : Int) = i by omega] at this
theorem lim2 {q : List Ev} (h : q.length < 1000000) : q.length + 1 < lim := by have : lim = 1099511627776 := rfl; omega
theorem condT {α : Type} {p : Prop} [i : Decidable p] {a b r : α} (hp : p) (h : a = r) : (bif decide p then a else b) = r := by rw [decide_eq_true hp]; exact h
theorem wu16 {n : Int} (h0 : 0 ≤ n) (h1 : n < 65536) : IntKind.wrap .u16 n = n := by
  have : IntKind.wrap .u16 n = n % 65536 := by simp [IntKind.wrap, IntKind.bits, IntKind.signed]
  rw [this]; omega
/-- An event of these. -/
def EvF (e : Ev) : Prop := (1 ≤ e.2.2.2.1 ∧ e.2.2.2.1 ≤ 4) ∧ (∃ c, 97 ≤ c ∧ c ≤ 100 ∧ e.2.2.2.2.1 = strL [c]) ∧ (e.2.2.2.2.2.1 = [] ∨ (e.2.2.2.1 = 1 ∧ ∃ c, 0 ≤ c ∧ c < 256 ∧ e.2.2.2.2.2.1 = [c])) ∧ (e.2.2.2.2.2.2.1 = 0 ∨ ((e.2.2.2.1 = 2 ∨ e.2.2.2.1 = 3) ∧ ∃ i : Int, 0 ≤ i ∧ i < 60 ∧ e.2.2.2.2.2.2.1 = qtI i)) ∧ e.2.2.2.2.2.2.2.1 = 0
structure FdOK (w : Int) (k : Nat) (q : List Ev) (t : Int) : Prop where
  len : q.length ≤ k
  t0 : 0 ≤ t
  t1 : t ≤ 4 * k
  who : ∀ (i : Nat) (e : Ev), q[i]? = some e → e.1 = w ∧ e.2.1 = (i : Int) + 1 ∧ 1 ≤ e.2.2.1 ∧ e.2.2.1 ≤ t ∧ EvF e
  rise : ∀ (i j : Nat) (ei ej : Ev), q[i]? = some ei → q[j]? = some ej → i < j → ei.2.2.1 < ej.2.2.1
theorem FdOK.keep {w : Int} {k : Nat} {q : List Ev} {t : Int} (h : FdOK w k q t) : FdOK w (k + 1) q t :=
  ⟨Nat.le_succ_of_le h.len, h.t0, by have := h.t1; omega, h.who, h.rise⟩
theorem FdOK.upto {w : Int} {k k' : Nat} {q : List Ev} {t : Int} (h : FdOK w k q t) (hk : k ≤ k') : FdOK w k' q t :=
  ⟨Nat.le_trans h.len hk, h.t0, by have := h.t1; omega, h.who, h.rise⟩
theorem FdOK.nil (w : Int) : FdOK w 0 [] 0 := ⟨Nat.le_refl _, by omega, by omega, fun i e h => (by cases h), fun i j e f h => (by cases h)⟩
theorem upT_eq {t x : Int} (ht : 0 ≤ t ∧ t ≤ 1000000) (hx : 0 ≤ x ∧ x < 65536) : upT t x = t + (1 + x / 16 % 4) := by
  unfold upT
  have h0 : 0 ≤ x / 16 := Int.ediv_nonneg hx.1 (by omega)
  have h1 : x / 16 < 65536 := by omega
  rw [Int.tdiv_eq_ediv_of_nonneg hx.1, wu16 h0 (by omega), wu64 h0 (by omega), Int.tmod_eq_emod_of_nonneg h0]
  have h2 := Int.emod_nonneg (x / 16) (show (4 : Int) ≠ 0 by omega)
  have h3 := Int.emod_lt_of_pos (x / 16) (show (0 : Int) < 4 by omega)
  rw [wu64 (n := 1 + x / 16 % 4) (by omega) (by omega), wu64 (by omega) (by omega)]
theorem kdX_eq {x : Int} (hx : 0 ≤ x ∧ x < 65536) : kdX x = 1 + x / 64 % 4 := by
  unfold kdX
  have h0 : 0 ≤ x / 64 := Int.ediv_nonneg hx.1 (by omega)
  rw [Int.tdiv_eq_ediv_of_nonneg hx.1, wu16 h0 (by omega)]
  rw [wu8_mod (x / 64), Int.tmod_eq_emod_of_nonneg (by omega)]
  rw [wu8_mod]
  omega
theorem kyX_eq {x : Int} (hx : 0 ≤ x ∧ x < 65536) : kyX x = 97 + x / 256 % 4 := by
  unfold kyX
  have h0 : 0 ≤ x / 256 := Int.ediv_nonneg hx.1 (by omega)
  rw [Int.tdiv_eq_ediv_of_nonneg hx.1, wu16 h0 (by omega)]
  rw [wu8_mod (x / 256), Int.tmod_eq_emod_of_nonneg (by omega)]
  rw [wu8_mod]
  omega
theorem evX_form {w t x i : Int} {n : Nat} (hx : 0 ≤ x ∧ x < 65536) (hi : 0 ≤ i ∧ i < 60) : EvF (evX w n t x i) := by
  have hk := kdX_eq hx
  have hy := kyX_eq hx
  unfold evX EvF
  dsimp only
  refine ⟨by omega, ⟨kyX x, by omega, by omega, rfl⟩, ?_, ?_, rfl⟩
  · cases h1 : kdX x == 1 with
    | false => exact .inl rfl
    | true => exact .inr ⟨by simpa using h1, IntKind.wrap .u8 i, by rw [wu8_mod]; omega, by rw [wu8_mod]; omega, rfl⟩
  · cases h2 : kdX x == 2 with
    | true => exact .inr ⟨.inl (by simpa using h2), i, hi.1, hi.2, rfl⟩
    | false =>
      cases h3 : kdX x == 3 with
      | true => exact .inr ⟨.inr (by simpa using h3), i, hi.1, hi.2, rfl⟩
      | false => exact .inl rfl
theorem app1 {α : Type} {q : List α} {x e : α} {i : Nat} (h : (q ++ [x])[i]? = some e) : q[i]? = some e ∨ (i = q.length ∧ e = x) := by
  rcases Nat.lt_or_ge i q.length with hl | hl
  · rw [List.getElem?_append_left hl] at h; exact .inl h
  · rw [List.getElem?_append_right hl] at h
    rcases Nat.eq_zero_or_pos (i - q.length) with h0 | h0
    · rw [h0] at h; simp at h; exact .inr ⟨by omega, h.symm⟩
    · rw [List.getElem?_eq_none (by simp; omega)] at h; cases h
theorem lt_get? {α : Type} {q : List α} {e : α} {i : Nat} (h : q[i]? = some e) : i < q.length := (List.getElem?_eq_some_iff.1 h).1
theorem FdOK.add {w : Int} {k : Nat} {q : List Ev} {t x i : Int} (h : FdOK w k q t) (hx : 0 ≤ x ∧ x < 65536) (hk : k < 60) (hi : 0 ≤ i ∧ i < 60) : FdOK w (k + 1) (q ++ [evX w q.length (upT t x) x i]) (upT t x) := by
  have ht := upT_eq ⟨h.t0, by have := h.t1; omega⟩ hx
  have h2 := Int.emod_nonneg (x / 16) (show (4 : Int) ≠ 0 by omega)
  have h3 := Int.emod_lt_of_pos (x / 16) (show (0 : Int) < 4 by omega)
  have hl := h.len
  have h0 := h.t0
  refine ⟨by simp; omega, by omega, by have := h.t1; omega, fun j e hj => ?_, fun j j' e e' hj hj' hlt => ?_⟩
  · rcases app1 hj with hj | ⟨rfl, rfl⟩
    · obtain ⟨a, b, c, d, f⟩ := h.who j e hj
      exact ⟨a, b, c, by omega, f⟩
    · refine ⟨rfl, ?_, by show 1 ≤ upT t x; omega, Int.le_refl _, evX_form hx hi⟩
      show IntKind.wrap .u64 (IntKind.wrap .u64 (q.length : Int) + 1) = _
      rw [wu64 (n := (q.length : Int)) (by omega) (by omega), wu64 (by omega) (by omega)]
  · rcases app1 hj with hj | ⟨rfl, rfl⟩
    · rcases app1 hj' with hj' | ⟨rfl, rfl⟩
      · exact h.rise j j' e e' hj hj' hlt
      · have := (h.who j e hj).2.2.2.1
        show _ < upT t x
        omega
    · rcases app1 hj' with hj' | ⟨rfl, rfl⟩
      · have := lt_get? hj'; omega
      · omega
theorem gset {b : List Int} {i j : Nat} {v : Int} (h : i ≠ j) : (b.set i v).getD j 0 = b.getD j 0 := by
  rw [List.getD_eq_getElem?_getD, List.getElem?_set_ne h, ← List.getD_eq_getElem?_getD]
theorem gset_same {b : List Int} {i : Nat} {v : Int} (h : i < b.length) : (b.set i v).getD i 0 = v := by
  rw [List.getD_eq_getElem?_getD, List.getElem?_set_self h]; rfl
def U16s (l : List Int) : Prop := ∀ x ∈ l, 0 ≤ x ∧ x < 65536
theorem U16s.get {l : List Int} (h : U16s l) (k : Nat) : 0 ≤ l.getD k 0 ∧ l.getD k 0 < 65536 := by
  rw [List.getD_eq_getElem?_getD]
  rcases Nat.lt_or_ge k l.length with hk | hk
  · rw [List.getElem?_eq_getElem hk]; exact h _ (List.getElem_mem hk)
  · rw [List.getElem?_eq_none hk]; simp
theorem T11f_4_s0 (a0 : List Int) (k : Int) (b : List Int) (q0 q1 q2 q3 : List Ev) (hk : 0 ≤ k ∧ k < a0.length) (h60 : k < 60) (hb : b.length = 4) (hq : q0.length < 1000000) (hw : (IntKind.wrap .i64 (a0.getD k.toNat 0)).tmod 4 = 0) :
    T11f_4 a0 4 k b q0 q1 q2 q3 = some (.inl ((a0, 4, (), (), IntKind.wrap .i64 (k + 1), ()), (((), (), (), (), ()), (b.set 0 (upT (b.getD 0 0) (a0.getD k.toNat 0)), ()), ()), ((q0 ++ [evX 0 q0.length ((b.set 0 (upT (b.getD 0 0) (a0.getD k.toNat 0))).getD 0 0) (a0.getD k.toNat 0) k]), q1, q2, q3, ()))) := by
  have c1 : decide (k < (a0.length : Int)) = true := decide_eq_true hk.2
  have c2 : decide (k < 60) = true := decide_eq_true h60
  have c3 : decide (0 ≤ k ∧ k < (a0.length : Int)) = true := decide_eq_true hk
  have c4 : decide ((4 : Int) ≠ 0) = true := rfl
  have w0 : decide (((((IntKind.wrap .i64 ((a0).getD (k : Int).toNat (0 : Int))) : Int).tmod 4) : Int) = 0) = true := by rw [hw]; rfl
  have c5 : decide (0 ≤ (0 : Int) ∧ (0 : Int) < ((b.length : Nat) : Int)) = true := decide_eq_true (by omega)
  have c6 : decide ((0 : Int).toNat < b.length) = true := decide_eq_true (by rw [hb]; decide)
  have c7 : ∀ v, decide (0 ≤ (0 : Int) ∧ (0 : Int) < (((b.set (0 : Int).toNat v).length : Nat) : Int)) = true := fun v => decide_eq_true (by rw [List.length_set]; omega)
  have c8 : ∀ v, decide ((0 : Int).toNat < (b.set (0 : Int).toNat v).length) = true := fun v => decide_eq_true (by rw [List.length_set, hb]; decide)
  have c9 := qt_some' hk.1 h60
  unfold T11f_4
  simp only [c1, c2, c3, c4, w0, c5, c6, c7, c8, c9, cond_true, cond_false]
  unfold evX
  unfold kdX
  generalize hkd : (IntKind.wrap .u8 (1 + (((IntKind.wrap .u8 (IntKind.wrap .u16 ((a0.getD k.toNat 0).tdiv 64))) : Int).tmod 4))) = kd
  cases h1 : kd == 1 <;> cases h2 : kd == 2 <;> cases h3 : kd == 3 <;> exact condT (lim2 hq) rfl

theorem T11f_4_s1 (a0 : List Int) (k : Int) (b : List Int) (q0 q1 q2 q3 : List Ev) (hk : 0 ≤ k ∧ k < a0.length) (h60 : k < 60) (hb : b.length = 4) (hq : q1.length < 1000000) (hw : (IntKind.wrap .i64 (a0.getD k.toNat 0)).tmod 4 = 1) :
    T11f_4 a0 4 k b q0 q1 q2 q3 = some (.inl ((a0, 4, (), (), IntKind.wrap .i64 (k + 1), ()), (((), (), (), (), ()), (b.set 1 (upT (b.getD 1 0) (a0.getD k.toNat 0)), ()), ()), (q0, (q1 ++ [evX 1 q1.length ((b.set 1 (upT (b.getD 1 0) (a0.getD k.toNat 0))).getD 1 0) (a0.getD k.toNat 0) k]), q2, q3, ()))) := by
  have c1 : decide (k < (a0.length : Int)) = true := decide_eq_true hk.2
  have c2 : decide (k < 60) = true := decide_eq_true h60
  have c3 : decide (0 ≤ k ∧ k < (a0.length : Int)) = true := decide_eq_true hk
  have c4 : decide ((4 : Int) ≠ 0) = true := rfl
  have w0 : decide (((((IntKind.wrap .i64 ((a0).getD (k : Int).toNat (0 : Int))) : Int).tmod 4) : Int) = 0) = false := by rw [hw]; rfl
  have w1 : decide (((((IntKind.wrap .i64 ((a0).getD (k : Int).toNat (0 : Int))) : Int).tmod 4) : Int) = 1) = true := by rw [hw]; rfl
  have c5 : decide (0 ≤ (1 : Int) ∧ (1 : Int) < ((b.length : Nat) : Int)) = true := decide_eq_true (by omega)
  have c6 : decide ((1 : Int).toNat < b.length) = true := decide_eq_true (by rw [hb]; decide)
  have c7 : ∀ v, decide (0 ≤ (1 : Int) ∧ (1 : Int) < (((b.set (1 : Int).toNat v).length : Nat) : Int)) = true := fun v => decide_eq_true (by rw [List.length_set]; omega)
  have c8 : ∀ v, decide ((1 : Int).toNat < (b.set (1 : Int).toNat v).length) = true := fun v => decide_eq_true (by rw [List.length_set, hb]; decide)
  have c9 := qt_some' hk.1 h60
  unfold T11f_4
  simp only [c1, c2, c3, c4, w0, w1, c5, c6, c7, c8, c9, cond_true, cond_false]
  unfold evX
  unfold kdX
  generalize hkd : (IntKind.wrap .u8 (1 + (((IntKind.wrap .u8 (IntKind.wrap .u16 ((a0.getD k.toNat 0).tdiv 64))) : Int).tmod 4))) = kd
  cases h1 : kd == 1 <;> cases h2 : kd == 2 <;> cases h3 : kd == 3 <;> exact condT (lim2 hq) rfl

theorem T11f_4_s2 (a0 : List Int) (k : Int) (b : List Int) (q0 q1 q2 q3 : List Ev) (hk : 0 ≤ k ∧ k < a0.length) (h60 : k < 60) (hb : b.length = 4) (hq : q2.length < 1000000) (hw : (IntKind.wrap .i64 (a0.getD k.toNat 0)).tmod 4 = 2) :
    T11f_4 a0 4 k b q0 q1 q2 q3 = some (.inl ((a0, 4, (), (), IntKind.wrap .i64 (k + 1), ()), (((), (), (), (), ()), (b.set 2 (upT (b.getD 2 0) (a0.getD k.toNat 0)), ()), ()), (q0, q1, (q2 ++ [evX 2 q2.length ((b.set 2 (upT (b.getD 2 0) (a0.getD k.toNat 0))).getD 2 0) (a0.getD k.toNat 0) k]), q3, ()))) := by
  have c1 : decide (k < (a0.length : Int)) = true := decide_eq_true hk.2
  have c2 : decide (k < 60) = true := decide_eq_true h60
  have c3 : decide (0 ≤ k ∧ k < (a0.length : Int)) = true := decide_eq_true hk
  have c4 : decide ((4 : Int) ≠ 0) = true := rfl
  have w0 : decide (((((IntKind.wrap .i64 ((a0).getD (k : Int).toNat (0 : Int))) : Int).tmod 4) : Int) = 0) = false := by rw [hw]; rfl
  have w1 : decide (((((IntKind.wrap .i64 ((a0).getD (k : Int).toNat (0 : Int))) : Int).tmod 4) : Int) = 1) = false := by rw [hw]; rfl
  have w2 : decide (((((IntKind.wrap .i64 ((a0).getD (k : Int).toNat (0 : Int))) : Int).tmod 4) : Int) = 2) = true := by rw [hw]; rfl
  have c5 : decide (0 ≤ (2 : Int) ∧ (2 : Int) < ((b.length : Nat) : Int)) = true := decide_eq_true (by omega)
  have c6 : decide ((2 : Int).toNat < b.length) = true := decide_eq_true (by rw [hb]; decide)
  have c7 : ∀ v, decide (0 ≤ (2 : Int) ∧ (2 : Int) < (((b.set (2 : Int).toNat v).length : Nat) : Int)) = true := fun v => decide_eq_true (by rw [List.length_set]; omega)
  have c8 : ∀ v, decide ((2 : Int).toNat < (b.set (2 : Int).toNat v).length) = true := fun v => decide_eq_true (by rw [List.length_set, hb]; decide)
  have c9 := qt_some' hk.1 h60
  unfold T11f_4
  simp only [c1, c2, c3, c4, w0, w1, w2, c5, c6, c7, c8, c9, cond_true, cond_false]
  unfold evX
  unfold kdX
  generalize hkd : (IntKind.wrap .u8 (1 + (((IntKind.wrap .u8 (IntKind.wrap .u16 ((a0.getD k.toNat 0).tdiv 64))) : Int).tmod 4))) = kd
  cases h1 : kd == 1 <;> cases h2 : kd == 2 <;> cases h3 : kd == 3 <;> exact condT (lim2 hq) rfl

theorem T11f_4_s3 (a0 : List Int) (k : Int) (b : List Int) (q0 q1 q2 q3 : List Ev) (hk : 0 ≤ k ∧ k < a0.length) (h60 : k < 60) (hb : b.length = 4) (hq : q3.length < 1000000) (hw : (IntKind.wrap .i64 (a0.getD k.toNat 0)).tmod 4 = 3) :
    T11f_4 a0 4 k b q0 q1 q2 q3 = some (.inl ((a0, 4, (), (), IntKind.wrap .i64 (k + 1), ()), (((), (), (), (), ()), (b.set 3 (upT (b.getD 3 0) (a0.getD k.toNat 0)), ()), ()), (q0, q1, q2, (q3 ++ [evX 3 q3.length ((b.set 3 (upT (b.getD 3 0) (a0.getD k.toNat 0))).getD 3 0) (a0.getD k.toNat 0) k]), ()))) := by
  have c1 : decide (k < (a0.length : Int)) = true := decide_eq_true hk.2
  have c2 : decide (k < 60) = true := decide_eq_true h60
  have c3 : decide (0 ≤ k ∧ k < (a0.length : Int)) = true := decide_eq_true hk
  have c4 : decide ((4 : Int) ≠ 0) = true := rfl
  have w0 : decide (((((IntKind.wrap .i64 ((a0).getD (k : Int).toNat (0 : Int))) : Int).tmod 4) : Int) = 0) = false := by rw [hw]; rfl
  have w1 : decide (((((IntKind.wrap .i64 ((a0).getD (k : Int).toNat (0 : Int))) : Int).tmod 4) : Int) = 1) = false := by rw [hw]; rfl
  have w2 : decide (((((IntKind.wrap .i64 ((a0).getD (k : Int).toNat (0 : Int))) : Int).tmod 4) : Int) = 2) = false := by rw [hw]; rfl
  have w3 : decide (((((IntKind.wrap .i64 ((a0).getD (k : Int).toNat (0 : Int))) : Int).tmod 4) : Int) = 3) = true := by rw [hw]; rfl
  have c5 : decide (0 ≤ (3 : Int) ∧ (3 : Int) < ((b.length : Nat) : Int)) = true := decide_eq_true (by omega)
  have c6 : decide ((3 : Int).toNat < b.length) = true := decide_eq_true (by rw [hb]; decide)
  have c7 : ∀ v, decide (0 ≤ (3 : Int) ∧ (3 : Int) < (((b.set (3 : Int).toNat v).length : Nat) : Int)) = true := fun v => decide_eq_true (by rw [List.length_set]; omega)
  have c8 : ∀ v, decide ((3 : Int).toNat < (b.set (3 : Int).toNat v).length) = true := fun v => decide_eq_true (by rw [List.length_set, hb]; decide)
  have c9 := qt_some' hk.1 h60
  unfold T11f_4
  simp only [c1, c2, c3, c4, w0, w1, w2, w3, c5, c6, c7, c8, c9, cond_true, cond_false]
  unfold evX
  unfold kdX
  generalize hkd : (IntKind.wrap .u8 (1 + (((IntKind.wrap .u8 (IntKind.wrap .u16 ((a0.getD k.toNat 0).tdiv 64))) : Int).tmod 4))) = kd
  cases h1 : kd == 1 <;> cases h2 : kd == 2 <;> cases h3 : kd == 3 <;> exact condT (lim2 hq) rfl

theorem L11f_4_run (a0 : List Int) (ha : U16s a0) : ∀ (d k : Nat) (b : List Int) (q0 q1 q2 q3 : List Ev), k + d = min a0.length 60 → b.length = 4 → FdOK 0 k q0 (b.getD 0 0) → FdOK 1 k q1 (b.getD 1 0) → FdOK 2 k q2 (b.getD 2 0) → FdOK 3 k q3 (b.getD 3 0) →
    ∃ (b' : List Int) (q0' q1' q2' q3' : List Ev), L11f_4 a0 4 (k : Nat) b q0 q1 q2 q3 = some ((), (((), (), (), (), ()), (b', ()), ()), (q0', q1', q2', q3', ())) ∧ b'.length = 4 ∧ FdOK 0 60 q0' (b'.getD 0 0) ∧ FdOK 1 60 q1' (b'.getD 1 0) ∧ FdOK 2 60 q2' (b'.getD 2 0) ∧ FdOK 3 60 q3' (b'.getD 3 0) := by
  intro d
  induction d with
  | zero =>
    intro k b q0 q1 q2 q3 hk hb f0 f1 f2 f3
    rw [L11f_4_eq]
    refine ⟨b, q0, q1, q2, q3, ?_, hb, f0.upto (by omega), f1.upto (by omega), f2.upto (by omega), f3.upto (by omega)⟩
    unfold T11f_4
    by_cases h : (k : Int) < (a0.length : Int)
    · rw [decide_eq_true h, show decide ((k : Int) < 60) = false from decide_eq_false (by omega)]; rfl
    · rw [decide_eq_false h]; rfl
  | succ d ih =>
    intro k b q0 q1 q2 q3 hk hb f0 f1 f2 f3
    rw [L11f_4_eq]
    have hx := ha.get k
    have hw' : (IntKind.wrap .i64 (a0.getD ((k : Nat) : Int).toNat 0)).tmod 4 = a0.getD k 0 % 4 := by
      rw [Int.toNat_natCast, w64 (by omega) (by omega), Int.tmod_eq_emod_of_nonneg hx.1]
    have hor : a0.getD k 0 % 4 = 0 ∨ a0.getD k 0 % 4 = 1 ∨ a0.getD k 0 % 4 = 2 ∨ a0.getD k 0 % 4 = 3 := by omega
    rcases hor with h0 | h1 | h2 | h3
    · have hs := T11f_4_s0 a0 (k : Nat) b q0 q1 q2 q3 ⟨by omega, by omega⟩ (by omega) hb (by have := f0.len; omega) (by rw [hw', h0])
      rw [hs]
      simp only [Option.bind_some, Sum.elim_inl]
      rw [gset_same (by omega), show IntKind.wrap .i64 ((k : Nat) + 1 : Int) = ((k + 1 : Nat) : Int) by rw [w64 (by omega) (by omega)]; rfl, Int.toNat_natCast]
      exact ih (k + 1) _ _ _ _ _ (by omega) (by rw [List.length_set]; exact hb) (by rw [gset_same (by omega)]; exact f0.add hx (by omega) ⟨by omega, by omega⟩) (by rw [gset (by decide)]; exact f1.keep) (by rw [gset (by decide)]; exact f2.keep) (by rw [gset (by decide)]; exact f3.keep)
    · have hs := T11f_4_s1 a0 (k : Nat) b q0 q1 q2 q3 ⟨by omega, by omega⟩ (by omega) hb (by have := f1.len; omega) (by rw [hw', h1])
      rw [hs]
      simp only [Option.bind_some, Sum.elim_inl]
      rw [gset_same (by omega), show IntKind.wrap .i64 ((k : Nat) + 1 : Int) = ((k + 1 : Nat) : Int) by rw [w64 (by omega) (by omega)]; rfl, Int.toNat_natCast]
      exact ih (k + 1) _ _ _ _ _ (by omega) (by rw [List.length_set]; exact hb) (by rw [gset (by decide)]; exact f0.keep) (by rw [gset_same (by omega)]; exact f1.add hx (by omega) ⟨by omega, by omega⟩) (by rw [gset (by decide)]; exact f2.keep) (by rw [gset (by decide)]; exact f3.keep)
    · have hs := T11f_4_s2 a0 (k : Nat) b q0 q1 q2 q3 ⟨by omega, by omega⟩ (by omega) hb (by have := f2.len; omega) (by rw [hw', h2])
      rw [hs]
      simp only [Option.bind_some, Sum.elim_inl]
      rw [gset_same (by omega), show IntKind.wrap .i64 ((k : Nat) + 1 : Int) = ((k + 1 : Nat) : Int) by rw [w64 (by omega) (by omega)]; rfl, Int.toNat_natCast]
      exact ih (k + 1) _ _ _ _ _ (by omega) (by rw [List.length_set]; exact hb) (by rw [gset (by decide)]; exact f0.keep) (by rw [gset (by decide)]; exact f1.keep) (by rw [gset_same (by omega)]; exact f2.add hx (by omega) ⟨by omega, by omega⟩) (by rw [gset (by decide)]; exact f3.keep)
    · have hs := T11f_4_s3 a0 (k : Nat) b q0 q1 q2 q3 ⟨by omega, by omega⟩ (by omega) hb (by have := f3.len; omega) (by rw [hw', h3])
      rw [hs]
      simp only [Option.bind_some, Sum.elim_inl]
      rw [gset_same (by omega), show IntKind.wrap .i64 ((k : Nat) + 1 : Int) = ((k + 1 : Nat) : Int) by rw [w64 (by omega) (by omega)]; rfl, Int.toNat_natCast]
      exact ih (k + 1) _ _ _ _ _ (by omega) (by rw [List.length_set]; exact hb) (by rw [gset (by decide)]; exact f0.keep) (by rw [gset (by decide)]; exact f1.keep) (by rw [gset (by decide)]; exact f2.keep) (by rw [gset_same (by omega)]; exact f3.add hx (by omega) ⟨by omega, by omega⟩)

theorem F11_feeds (a0 : List Int) (ha : U16s a0) : ∃ (b' : List Int) (q0' q1' q2' q3' : List Ev), F11 a0 = some (([q0', q1', q2', q3'], ()), (), ()) ∧ FdOK 0 60 q0' (b'.getD 0 0) ∧ FdOK 1 60 q1' (b'.getD 1 0) ∧ FdOK 2 60 q2' (b'.getD 2 0) ∧ FdOK 3 60 q3' (b'.getD 3 0) := by
  obtain ⟨b', q0', q1', q2', q3', h, _, hh⟩ := L11f_4_run a0 ha (min a0.length 60) 0 (List.replicate 4 0) [] [] [] [] (by omega) (by simp) (FdOK.nil _) (FdOK.nil _) (FdOK.nil _) (FdOK.nil _)
  refine ⟨b', q0', q1', q2', q3', ?_, hh⟩
  unfold F11 F11f
  have h' : L11f_4 a0 4 0 (List.replicate (4 : Int).toNat 0) [] [] [] [] = _ := h
  rw [h']
  rfl

end Go.IM.V

/- Matrices: what the printed functions tell. -/
set_option linter.unusedVariables false
set_option linter.unusedSimpArgs false
set_option linter.constructorNameAsVariable false
namespace Go.IM.V
open Go Go.IM Go.Proofs

abbrev Rw : Type := List Int × Int × Unit
def rw0 : Rw := ([], 0, ())
abbrev gr (R : List Rw) (n : Nat) : Rw := R.getD n ([], 0, ())
def RwOK (r : Rw) : Prop := Vok r.1 ∧ r.1.length ≤ 64 ∧ 0 ≤ r.2.1 ∧ r.2.1 < 18446744073709551616
def RsOK (R : List Rw) : Prop := R.length = 64 ∧ ∀ n, RwOK (gr R n)
theorem gr_set {R : List Rw} {n k : Nat} {r : Rw} (h : n < R.length) : gr (R.set n r) k = if k = n then r else gr R k := by
  unfold gr
  rw [List.getD_eq_getElem?_getD, List.getElem?_set]
  by_cases e : n = k
  · subst e; simp [h]
  · rw [if_neg e, if_neg (Ne.symm e), ← List.getD_eq_getElem?_getD]
/-- What a row tells more than another one. -/
structure Up (x y : Rw) (r : List Int) : Prop where
  tm : x.2.1 ≤ y.2.1
  ge : ∀ k, gv x.1 k ≤ gv y.1 k
  le : ∀ k, gv y.1 k = gv x.1 k ∨ gv y.1 k ≤ gv r k
theorem Up.rfl' (x : Rw) (r : List Int) : Up x x r := ⟨Int.le_refl _, fun _ => Int.le_refl _, fun _ => .inl rfl⟩
theorem mxI_or (x y : Int) : x ≤ mxI x y ∧ (mxI x y = x ∨ mxI x y ≤ y) := by unfold mxI; split <;> omega
theorem join_ok {a b : List Int} (ha : Vok a) (hb : Vok b) : Vok (join a b) := by
  intro x hx
  obtain ⟨k, hk, rfl⟩ := List.getElem_of_mem hx
  have e : (join a b)[k] = gv (join a b) k := by unfold gv; rw [List.getD_eq_getElem?_getD, List.getElem?_eq_getElem hk]; rfl
  rw [e, gv_join]
  have := ha.gv k; have := hb.gv k
  unfold mxI; split <;> omega
/-- Raise. -/
def rse (R : List Rw) (n : Nat) (v : List Int) (t : Int) : Bool × List Rw :=
  if (within (join (gr R n).1 v) (gr R n).1 && within (gr R n).1 (join (gr R n).1 v)) = true ∧ t ≤ (gr R n).2.1 then (false, R)
  else (true, (R.set n (join (gr R n).1 v, (gr R n).2.1, ())).set n ((gr (R.set n (join (gr R n).1 v, (gr R n).2.1, ())) n).1, (if t > (gr R n).2.1 then t else (gr R n).2.1), ()))
theorem F13_eq (R : List Rw) (hR : RsOK R) (n : Nat) (hn : n < 64) (v : List Int) (t : Int) (u : Unit) (hl : v.length ≤ 8) :
    F13 ((n : Int), v, t, u) R = some (((rse R n v t).1, ()), (((rse R n v t).2, ()), ()), ()) := by
  obtain ⟨hlen, hrow⟩ := hR
  have hx := hrow n
  have g1 : decide ((n : Int) < 0) = false := decide_eq_false (by omega)
  have g2 : decide ((n : Int) ≥ 64) = false := decide_eq_false (by omega)
  have g3 : decide (0 ≤ (n : Int) ∧ (n : Int) < ((64 : Nat) : Int)) = true := decide_eq_true (by omega)
  have g4 : decide (((n : Nat) : Int).toNat < R.length) = true := decide_eq_true (by omega)
  have hmin : (if (64 : Int) < (v.length : Int) then 64 else (v.length : Int)) = (v.length : Int) := if_neg (by omega)
  have g5 : decide (0 ≤ (v.length : Int) ∧ (v.length : Int) ≤ (v.length : Int)) = true := decide_eq_true (by omega)
  have htk : v.take ((v.length : Int)).toNat = v := by rw [Int.toNat_natCast, List.take_length]
  have g6 : ∀ r, decide (((n : Nat) : Int).toNat < (R.set ((n : Nat) : Int).toNat r).length) = true := fun r => decide_eq_true (by rw [List.length_set]; omega)
  have g7 : (!(List.isEmpty R)) = true := by
    cases R with
    | nil => simp at hlen
    | cons => rfl
  unfold F13
  simp only [g1, g2, g3, g4, hmin, g5, htk, g6, g7, cond_true, cond_false]
  rw [F35_eq _ _ (by simp only [Int.toNat_natCast]; show (gr R n).1.length < _; have := hx.2.1; omega) (by omega)]
  simp only [Option.bind_some, Int.toNat_natCast]
  have hjl : (join (gr R n).1 v).length ≤ 64 := by
    have := join_len (gr R n).1 v
    have := hx.2.1
    omega
  rw [F36_eq _ _ (by show (join (gr R n).1 v).length < _; omega) (by have := hx.2.1; show (gr R n).1.length < _; omega)]
  simp only [Option.bind_some]
  unfold rse
  cases hb : (within (join (gr R n).1 v) (gr R n).1 && within (gr R n).1 (join (gr R n).1 v)) with
  | true =>
    simp only [cond_true]
    rw [cif]
    by_cases hq : t ≤ (gr R n).2.1
    · rw [if_pos hq]
      simp only [hq, and_self, if_true]
    · rw [if_neg hq]
      simp only [hq, and_false, if_false]
  | false =>
    simp only [cond_false, Bool.false_eq_true, false_and, if_false]
theorem rse_up (R : List Rw) (hR : RsOK R) (n : Nat) (hn : n < 64) (v : List Int) (t : Int) (hv : Vok v) (hl : v.length ≤ 8) (ht : 0 ≤ t ∧ t < 18446744073709551616) :
    RsOK (rse R n v t).2 ∧ Up (gr R n) (gr (rse R n v t).2 n) v ∧ ∀ k, k ≠ n → gr (rse R n v t).2 k = gr R k := by
  obtain ⟨hlen, hrow⟩ := hR
  have hx := hrow n
  have hjl : (join (gr R n).1 v).length ≤ 64 := by
    have := join_len (gr R n).1 v
    have := hx.2.1
    omega
  have hmx : (if t > (gr R n).2.1 then t else (gr R n).2.1) ≥ (gr R n).2.1 ∧ 0 ≤ (if t > (gr R n).2.1 then t else (gr R n).2.1) ∧ (if t > (gr R n).2.1 then t else (gr R n).2.1) < 18446744073709551616 := by
    have := hx.2.2; split <;> omega
  have hset : ∀ x : Rw, RwOK x → Up (gr R n) x v → ∃ R', ((R.set n (join (gr R n).1 v, (gr R n).2.1, ())).set n x) = R' ∧ RsOK R' ∧ Up (gr R n) (gr R' n) v ∧ ∀ k, k ≠ n → gr R' k = gr R k := by
    intro x hxo hup
    refine ⟨_, rfl, ⟨by simp [hlen], fun k => ?_⟩, ?_, fun k hk => ?_⟩
    · rw [gr_set (by simp; omega)]
      split
      · exact hxo
      · rw [gr_set (by omega)]; rw [if_neg (by assumption)]; exact hrow k
    · rw [gr_set (by simp; omega), if_pos rfl]; exact hup
    · rw [gr_set (by simp; omega), if_neg hk, gr_set (by omega), if_neg hk]
  have hgg : gr (R.set n (join (gr R n).1 v, (gr R n).2.1, ())) n = (join (gr R n).1 v, (gr R n).2.1, ()) := by rw [gr_set (by omega), if_pos rfl]
  have hup : Up (gr R n) (join (gr R n).1 v, (if t > (gr R n).2.1 then t else (gr R n).2.1), ()) v :=
    ⟨hmx.1, fun k => by show _ ≤ gv (join _ _) k; rw [gv_join]; exact (mxI_or _ _).1, fun k => by show gv (join _ _) k = _ ∨ gv (join _ _) k ≤ _; rw [gv_join]; exact (mxI_or _ _).2⟩
  have hro : RwOK (join (gr R n).1 v, (if t > (gr R n).2.1 then t else (gr R n).2.1), ()) := ⟨join_ok hx.1 hv, hjl, hmx.2.1, hmx.2.2⟩
  obtain ⟨R', e1, e2, e3, e4⟩ := hset _ hro hup
  unfold rse
  split
  · exact ⟨⟨hlen, hrow⟩, Up.rfl' _ _, fun _ _ => rfl⟩
  · rw [hgg]
    dsimp only
    rw [e1]
    exact ⟨e2, e3, e4⟩
end Go.IM.V

/- MatrixRises: the plain law. -/
set_option linter.unusedVariables false
set_option linter.unusedSimpArgs false
set_option linter.constructorNameAsVariable false
namespace Go.IM.V
open Go Go.IM Go.Proofs

abbrev ls (qs : List (List Ev)) (w : Nat) : List Ev := qs.getD w []
abbrev e0 : Ev := (0, 0, 0, 0, ByteArray.empty, [], 0, 0, ())
structure KnOK (qs : List (List Ev)) : Prop where
  size : qs.length ≤ 64
  len : ∀ w, (ls qs w).length ≤ 60
  tm : ∀ (w i : Nat), i < (ls qs w).length → 1 ≤ ((ls qs w).getD i e0).2.2.1 ∧ ((ls qs w).getD i e0).2.2.1 ≤ 1000
  rise : ∀ (w i j : Nat), i < j → j < (ls qs w).length → ((ls qs w).getD i e0).2.2.1 < ((ls qs w).getD j e0).2.2.1
def lk (qs : List (List Ev)) (w : Nat) (h : Int) : Int := if h ≥ (ls qs w).length then 9223372036854775807 else ((ls qs w).getD h.toNat e0).2.2.1 - 1
theorem lk_bd {qs : List (List Ev)} (hq : KnOK qs) (w : Nat) {h : Int} (h0 : 0 ≤ h) : 0 ≤ lk qs w h ∧ lk qs w h ≤ 9223372036854775807 := by
  unfold lk
  split
  · omega
  · have := hq.tm w h.toNat (by omega); omega
theorem lk_mono {qs : List (List Ev)} (hq : KnOK qs) (w : Nat) {h h' : Int} (h0 : 0 ≤ h) (hle : h ≤ h') : lk qs w h ≤ lk qs w h' := by
  by_cases e : h = h'
  · rw [e]; exact Int.le_refl _
  have hb := lk_bd hq w h0
  unfold lk at *
  by_cases h2 : h' ≥ (ls qs w).length
  · rw [if_pos h2]; exact hb.2
  · rw [if_neg h2, if_neg (by omega)]
    have := hq.rise w h.toNat h'.toNat (by omega) (by omega)
    omega
theorem F55_eq (qs : List (List Ev)) (w : Nat) : F55 ([], qs, ()) (w : Int) = some (r1 (ls qs w)) := by
  unfold F55
  simp only [cif]
  by_cases h : qs.length ≤ w
  · rw [if_pos (by omega)]
    unfold ls
    rw [List.getD_eq_getElem?_getD, List.getElem?_eq_none h]; rfl
  · rw [if_neg (by omega), if_pos (by omega), Int.toNat_natCast]
theorem F40_eq {qs : List (List Ev)} (hq : KnOK qs) (w : Nat) : F40 ([], qs, ()) (w : Int) = some (r1 ((ls qs w).length : Int)) := by
  have := hq.len w
  unfold F40
  rw [F39_nat]
  simp only [Option.bind_some]
  rw [F55_eq]
  simp only [Option.bind_some]
  rw [wu64 (n := ((ls qs w).length : Int)) (by omega) (by omega), show gv [] w = 0 from rfl, wu64 (by omega) (by omega)]
  simp
theorem F38_eq {qs : List (List Ev)} (hq : KnOK qs) (w : Nat) {h : Int} (h0 : 0 ≤ h ∧ h < 18446744073709551616) : F38 ([], qs, ()) (w : Int) h = some (r1 (lk qs w h)) := by
  unfold F38
  rw [F40_eq hq]
  simp only [Option.bind_some, cif]
  unfold lk
  by_cases h1 : h ≥ (ls qs w).length
  · rw [if_pos h1, if_pos h1]
  · rw [if_neg h1, if_neg h1, F39_nat]
    simp only [Option.bind_some]
    rw [show gv [] w = 0 from rfl, if_neg (by omega), F55_eq]
    simp only [Option.bind_some]
    rw [show h - 0 = h by omega, wu64 h0.1 h0.2, if_pos (by constructor <;> omega)]
    have := hq.tm w h.toNat (by omega)
    unfold e0 at this
    rw [wu64 (by omega) (by omega)]
def mnS (x s : Int) : Int := if x < s then x else s
def inF (qs : List (List Ev)) (v : List Int) : Nat → Nat → Int → Int
  | 0, _, s => s
  | d + 1, w, s => inF qs v d (w + 1) (mnS (lk qs w (gv v w)) s)
theorem L14b_run {qs : List (List Ev)} (hq : KnOK qs) (a1 a13 : List Int) (a9 a14 a15 : Int) (v : List Int) (hv : Vok v) (R : List Rw) : ∀ (d k : Nat) (s : Int), k + d = 64 →
    L14_9 a1 s a9 v a13 a14 a15 (k : Nat) R [] qs = some ((inF qs v d k s, ()), ((R, ()), ([], qs, ()), ()), ()) := by
  intro d
  induction d with
  | zero =>
    intro k s hk
    rw [L14_9_eq]
    unfold T14_9
    rw [decide_eq_false (by omega)]
    rfl
  | succ d ih =>
    intro k s hk
    rw [L14_9_eq]
    unfold T14_9
    rw [decide_eq_true (by omega), F39_nat]
    simp only [cond_true, Option.bind_some]
    rw [F38_eq hq k (hv.gv k)]
    simp only [Option.bind_some, Sum.elim_inl]
    rw [show IntKind.wrap .i64 ((k : Nat) + 1 : Int) = ((k + 1 : Nat) : Int) by rw [w64 (by omega) (by omega)]; rfl]
    exact ih (k + 1) _ (by omega)
theorem F37_row (R : List Rw) (hR : RsOK R) (n : Nat) (hn : n < 64) : F37 (n : Int) R = some ((((n : Int), trim (gr R n).1, (gr R n).2.1, ()), ()), ((R, ()), ()), ()) := by
  have hl := hR.1
  have g1 : decide ((n : Int) < 0) = false := decide_eq_false (by omega)
  have g2 : decide ((n : Int) ≥ 64) = false := decide_eq_false (by omega)
  have g3 : decide (0 ≤ (n : Int) ∧ (n : Int) < ((64 : Nat) : Int)) = true := decide_eq_true (by omega)
  have g4 : decide (((n : Nat) : Int).toNat < R.length) = true := decide_eq_true (by omega)
  unfold F37
  simp only [g1, g2, g3, g4, cond_true, cond_false]
  rw [F54_eq _ (by simp only [Int.toNat_natCast]; show (gr R n).1.length < _; have := (hR.2 n).2.1; omega)]
  rfl
def stB (qs : List (List Ev)) (R : List Rw) (n : Nat) (s : Int) : Int :=
  if gv (trim (gr R n).1) n > (ls qs n).length then 0 else inF qs (trim (gr R n).1) 64 0 (mnS (gr R n).2.1 s)
def outF (qs : List (List Ev)) (R : List Rw) : List Int → Int → Int
  | [], s => s
  | n :: l, s => outF qs R l (stB qs R n.toNat s)
theorem Vok.trim {v : List Int} (h : Vok v) : Vok (trim v) := fun x hx => h x (List.mem_of_mem_take hx)
theorem L14_run {qs : List (List Ev)} (hq : KnOK qs) (who : List Int) (hw : ∀ x ∈ who, 0 ≤ x ∧ x < 64) (hwl : who.length < 1000) (R : List Rw) (hR : RsOK R) : ∀ (d k : Nat) (s : Int), k + d = who.length →
    L14_3 who s who (who.length : Nat) (k : Nat) R [] qs = some ((outF qs R (who.drop k) s, ()), ((R, ()), ([], qs, ()), ()), ()) := by
  intro d
  induction d with
  | zero =>
    intro k s hk
    rw [L14_3_eq]
    unfold T14_3
    rw [decide_eq_false (by omega), List.drop_eq_nil_of_le (by omega)]
    rfl
  | succ d ih =>
    intro k s hk
    rw [L14_3_eq]
    unfold T14_3
    have hkl : k < who.length := by omega
    have hn := hw who[k] (List.getElem_mem hkl)
    have hg : who.getD ((k : Nat) : Int).toNat 0 = ((who[k].toNat : Nat) : Int) := by
      rw [Int.toNat_natCast, List.getD_eq_getElem?_getD, List.getElem?_eq_getElem hkl]
      show who[k] = _
      omega
    rw [decide_eq_true (by omega), decide_eq_true (by omega), hg, List.drop_eq_getElem_cons hkl]
    generalize hm : who[k].toNat = n at *
    have hn64 : n < 64 := by omega
    rw [F37_row R hR n hn64]
    simp only [cond_true, Option.bind_some]
    have h9 := L14b_run hq who who (n : Int) (who.length : Nat) (k : Nat) (V.trim (gr R n).1) (hR.2 n).1.trim R 64 0 (mnS (gr R n).2.1 s) (by omega)
    have h9' : L14_9 who (if (gr R n).2.1 < s then (gr R n).2.1 else s) (n : Int) (V.trim (gr R n).1) who (who.length : Nat) (k : Nat) 0 R [] qs = _ := h9
    rw [h9']
    simp only [Option.bind_some]
    rw [F39_nat]
    simp only [Option.bind_some]
    rw [F40_eq hq]
    simp only [Option.bind_some]
    have e : outF qs R (who[k] :: who.drop (k + 1)) s = outF qs R (who.drop (k + 1)) (stB qs R n s) := by
      simp only [outF, hm]
    rw [e]
    unfold stB
    rw [show IntKind.wrap .i64 ((k : Nat) + 1 : Int) = ((k + 1 : Nat) : Int) by rw [w64 (by omega) (by omega)]; rfl]
    by_cases hx : gv (V.trim (gr R n).1) n > (ls qs n).length
    · rw [decide_eq_true hx, if_pos hx]
      simp only [cond_true, Option.bind_some, Sum.elim_inl]
      exact ih (k + 1) _ (by omega)
    · rw [decide_eq_false hx, if_neg hx]
      simp only [cond_false, Option.bind_some, Sum.elim_inl]
      exact ih (k + 1) _ (by omega)
theorem F14_gen {qs : List (List Ev)} (hq : KnOK qs) (n : Int) (who : List Int) (hw : ∀ x ∈ n :: who, 0 ≤ x ∧ x < 64) (hwl : (n :: who).length < 1000) (R : List Rw) (hR : RsOK R) : F14 (n :: who) ([], qs, ()) R = some ((outF qs R (n :: who) 9223372036854775807, ()), ((R, ()), ()), ()) := by
  unfold F14
  have h := L14_run hq (n :: who) hw hwl R hR (n :: who).length 0 9223372036854775807 (by omega)
  have h' : L14_3 (n :: who) 9223372036854775807 (n :: who) (((n :: who).length : Nat) : Int) 0 R [] qs = _ := h
  rw [h']
  simp only [Option.bind_some]
  have hz : ((((n :: who).length : Nat) : Int) == 0) = false := by rw [beq_eq_false_iff_ne]; simp only [List.length_cons]; omega
  rw [hz]
  rfl
abbrev who4 : List Int := [0, 1, 2, 3]
theorem F14_eq {qs : List (List Ev)} (hq : KnOK qs) (R : List Rw) (hR : RsOK R) : F14 who4 ([], qs, ()) R = some ((outF qs R who4 9223372036854775807, ()), ((R, ()), ()), ()) := F14_gen hq 0 [1, 2, 3] (by decide) (by decide) R hR

/-! ### More tells no less -/
theorem mnS_mono {x y s t : Int} (h : x ≤ y) (h2 : s ≤ t) : mnS x s ≤ mnS y t := by unfold mnS; split <;> split <;> omega
theorem mnS_nn {x s : Int} (h : 0 ≤ x) (h2 : 0 ≤ s) : 0 ≤ mnS x s := by unfold mnS; split <;> omega
theorem inF_mono {qs : List (List Ev)} (hq : KnOK qs) {v v' : List Int} (hv : ∀ k, 0 ≤ gv v k) (h : ∀ k, gv v k ≤ gv v' k) : ∀ (d w : Nat) {s t : Int}, s ≤ t → inF qs v d w s ≤ inF qs v' d w t
  | 0, _, s, t, hst => hst
  | d + 1, w, s, t, hst => inF_mono hq hv h d (w + 1) (mnS_mono (lk_mono hq w (hv w) (h w)) hst)
theorem inF_nn {qs : List (List Ev)} (hq : KnOK qs) {v : List Int} (hv : ∀ k, 0 ≤ gv v k) : ∀ (d w : Nat) {s : Int}, 0 ≤ s → 0 ≤ inF qs v d w s
  | 0, _, s, hs => hs
  | d + 1, w, s, hs => inF_nn hq hv d (w + 1) (mnS_nn (lk_bd hq w (hv w)).1 hs)
theorem stB_nn {qs : List (List Ev)} (hq : KnOK qs) {R : List Rw} (hR : RsOK R) (n : Nat) {s : Int} (hs : 0 ≤ s) : 0 ≤ stB qs R n s := by
  unfold stB
  split
  · omega
  · exact inF_nn hq (fun k => by rw [gv_trim]; exact ((hR.2 n).1.gv k).1) _ _ (mnS_nn (hR.2 n).2.2.1 hs)
theorem stB_mono {qs : List (List Ev)} (hq : KnOK qs) {R R' : List Rw} (hR : RsOK R) (hR' : RsOK R') {n : Nat} {v : List Int} (hu : Up (gr R n) (gr R' n) v) (hg : gv v n ≤ (ls qs n).length) {s t : Int} (h0 : 0 ≤ s) (hst : s ≤ t) : stB qs R n s ≤ stB qs R' n t := by
  by_cases hx : gv (V.trim (gr R n).1) n > (ls qs n).length
  · have : stB qs R n s = 0 := by unfold stB; rw [if_pos hx]
    rw [this]
    exact stB_nn hq hR' n (by omega)
  · have hx' : ¬ gv (V.trim (gr R' n).1) n > (ls qs n).length := by
      rw [gv_trim] at hx ⊢
      rcases hu.le n with e | e <;> omega
    unfold stB
    rw [if_neg hx, if_neg hx']
    exact inF_mono hq (fun k => by rw [gv_trim]; exact ((hR.2 n).1.gv k).1) (fun k => by rw [gv_trim, gv_trim]; exact hu.ge k) _ _ (mnS_mono hu.tm hst)
theorem outF_mono {qs : List (List Ev)} (hq : KnOK qs) {R R' : List Rw} (hR : RsOK R) (hR' : RsOK R') {m : Nat} {v : List Int} (hu : Up (gr R m) (gr R' m) v) (hg : gv v m ≤ (ls qs m).length) (hk : ∀ k, k ≠ m → gr R' k = gr R k) : ∀ (l : List Int) {s t : Int}, 0 ≤ s → s ≤ t → outF qs R l s ≤ outF qs R' l t
  | [], s, t, _, hst => hst
  | n :: l, s, t, h0, hst => by
    simp only [outF]
    refine outF_mono hq hR hR' hu hg hk l (stB_nn hq hR _ h0) ?_
    by_cases e : n.toNat = m
    · rw [e]; exact stB_mono hq hR hR' hu hg h0 hst
    · have hsame := hk _ e
      by_cases hx : gv (V.trim (gr R n.toNat).1) n.toNat > (ls qs n.toNat).length
      · have : stB qs R n.toNat s = 0 := by unfold stB; rw [if_pos hx]
        rw [this]
        exact stB_nn hq hR' _ (by omega)
      · unfold stB
        rw [hsame, if_neg hx, if_neg hx]
        exact inF_mono hq (fun k => by rw [gv_trim]; exact ((hR.2 _).1.gv k).1) (fun k => Int.le_refl _) _ _ (mnS_mono (Int.le_refl _) hst)
theorem KnOK.of {qs : List (List Ev)} (hs : qs.length ≤ 64) (h : ∀ q ∈ qs, ∃ (w : Int) (t : Int), FdOK w 60 q t) : KnOK qs := by
  have hall : ∀ w, ∃ (a : Int) (t : Int), FdOK a 60 (ls qs w) t := by
    intro w
    unfold ls
    rw [List.getD_eq_getElem?_getD]
    rcases Nat.lt_or_ge w qs.length with hl | hl
    · rw [List.getElem?_eq_getElem hl]; exact h _ (List.getElem_mem hl)
    · rw [List.getElem?_eq_none hl]; exact ⟨0, 0, (FdOK.nil 0).upto (by omega)⟩
  have hget : ∀ (q : List Ev) (i : Nat), i < q.length → q[i]? = some (q.getD i e0) := by
    intro q i hi
    rw [List.getD_eq_getElem?_getD, List.getElem?_eq_getElem hi]; rfl
  refine ⟨hs, fun w => ?_, fun w i hi => ?_, fun w i j hij hj => ?_⟩
  · obtain ⟨a, t, hf⟩ := hall w; exact hf.len
  · obtain ⟨a, t, hf⟩ := hall w
    obtain ⟨_, _, h1, h2, _⟩ := hf.who i _ (hget _ i hi)
    have := hf.t1
    omega
  · obtain ⟨a, t, hf⟩ := hall w
    exact hf.rise i j _ _ (hget _ i (by omega)) (hget _ j hj) hij
theorem rs0 : RsOK (List.replicate 64 (([] : List Int), (0 : Int), ())) := by
  refine ⟨by simp, fun n => ?_⟩
  have : gr (List.replicate 64 (([] : List Int), (0 : Int), ())) n = ([], 0, ()) := by
    unfold gr
    rw [List.getD_eq_getElem?_getD, List.getElem?_replicate]
    split <;> rfl
  rw [this]
  exact ⟨fun x hx => (by cases hx), by decide, by decide, by decide⟩
theorem F12_eq : F12 = some (((), ()), ((List.replicate 64 (([] : List Int), (0 : Int), ()), ()), ()), ()) := rfl
theorem F10_eq : F10 = some (r1 true) := by
  have v1 : Vok [1] := by intro x hx; simp at hx; omega
  obtain ⟨r1', _⟩ := rse_up _ rs0 0 (by decide) [1] 5 v1 (by decide) (by decide)
  obtain ⟨r2', _⟩ := rse_up _ r1' 1 (by decide) [1] 7 v1 (by decide) (by decide)
  unfold F10
  rw [F12_eq]
  simp only [Option.bind_some]
  have h1 := F13_eq _ rs0 0 (by decide) [1] 5 () (by decide)
  rw [show (((0 : Nat) : Int)) = 0 from rfl] at h1
  rw [h1]
  simp only [Option.bind_some]
  have h2 := F13_eq _ r1' 1 (by decide) [1] 7 () (by decide)
  rw [show (((1 : Nat) : Int)) = 1 from rfl] at h2
  rw [h2]
  simp only [Option.bind_some]
  have hq : KnOK [[((0 : Int), 1, 3, 0, ByteArray.empty, [], 0, 0, ())]] := by
    refine ⟨by decide, fun w => ?_, fun w i hi => ?_, fun w i j hij hj => ?_⟩
    · match w with
      | 0 => decide
      | w + 1 => exact Nat.zero_le _
    · match w, i with
      | 0, 0 => decide
      | 0, i + 1 => simp [ls] at hi
      | w + 1, i => simp [ls] at hi
    · match w with
      | 0 => simp [ls] at hj; omega
      | w + 1 => simp [ls] at hj
  have b1 : (rse (List.replicate 64 (([] : List Int), (0 : Int), ())) 0 [1] 5).1 = true := by decide +kernel
  have b2 : (rse (rse (List.replicate 64 (([] : List Int), (0 : Int), ())) 0 [1] 5).2 1 [1] 7).1 = true := by decide +kernel
  rw [b1, b2]
  simp only [cond_true]
  have h3 := F14_gen hq 0 [1] (by decide) (by decide) _ r2'
  rw [h3]
  simp only [Option.bind_some]
  have h4 : outF [[((0 : Int), 1, 3, 0, ByteArray.empty, [], 0, 0, ())]] (rse (rse (List.replicate 64 (([] : List Int), (0 : Int), ())) 0 [1] 5).2 1 [1] 7).2 [0, 1] 9223372036854775807 = 5 := by decide +kernel
  rw [h4]
  rfl
end Go.IM.V

/- MatrixRises. -/
set_option linter.unusedVariables false
set_option linter.unusedSimpArgs false
set_option linter.constructorNameAsVariable false
namespace Go.IM.V
open Go Go.IM Go.Proofs

theorem nd4 (x : Int) : ∃ n : Nat, n < 4 ∧ IntKind.wrap .i64 ((IntKind.wrap .u64 x).tmod 4) = (n : Int) := by
  have h := wu64_mod x
  have h0 : 0 ≤ IntKind.wrap .u64 x := by rw [h]; omega
  have h1 := Int.emod_nonneg (IntKind.wrap .u64 x) (show (4 : Int) ≠ 0 by omega)
  have h2 := Int.emod_lt_of_pos (IntKind.wrap .u64 x) (show (0 : Int) < 4 by omega)
  refine ⟨(IntKind.wrap .u64 x % 4).toNat, by omega, ?_⟩
  rw [Int.tmod_eq_emod_of_nonneg h0, w64 (by omega) (by omega)]
  omega
abbrev InR : Type := Int × List Int × Int × Unit
def InOK (r : InR) : Prop := Vok r.2.1 ∧ 0 ≤ r.2.2.1 ∧ r.2.2.1 < 18446744073709551616
theorem L3_run (a1 : List InR) (ha : ∀ r ∈ a1, InOK r) (hl : a1.length < 2 ^ 40) (a7 : List (List Ev)) (b0 : Int) (b1 : List Int) (b2 : Int) : ∀ (d k : Nat) (R : List Rw), k + d = a1.length → RsOK R →
    (∃ R', L3_6 a1 a7 (k : Nat) b0 b1 b2 R = some (.inl ((true, ()), ((b0, b1, b2, ()), (R', ()), ()), ()))) ∨ (∃ R', L3_6 a1 a7 (k : Nat) b0 b1 b2 R = some (.inr ((), ((b0, b1, b2, ()), (R', ()), ()), ())) ∧ RsOK R') := by
  intro d
  induction d with
  | zero =>
    intro k R hk hR
    right
    refine ⟨R, ?_, hR⟩
    rw [L3_6_eq]
    unfold T3_6
    rw [decide_eq_false (by omega)]
    rfl
  | succ d ih =>
    intro k R hk hR
    rw [L3_6_eq]
    unfold T3_6
    have hkl : k < a1.length := by omega
    have hr := ha a1[k] (List.getElem_mem hkl)
    have hg : a1.getD ((k : Nat) : Int).toNat ((0 : Int), ([], ((0 : Int), ()))) = a1[k] := by
      rw [Int.toNat_natCast, List.getD_eq_getElem?_getD, List.getElem?_eq_getElem hkl]; rfl
    rw [decide_eq_true (by omega), decide_eq_true (by omega), hg]
    simp only [cond_true]
    generalize a1[k] = r at *
    by_cases h8 : (r.2.1.length : Int) > 8
    · left
      rw [decide_eq_true h8]
      exact ⟨R, rfl⟩
    · rw [decide_eq_false h8]
      obtain ⟨n, hn, he⟩ := nd4 r.1
      simp only [cond_false]
      rw [he, F13_eq R hR n (by omega) r.2.1 r.2.2.1 () (by omega)]
      simp only [Option.bind_some, Sum.elim_inl]
      rw [show IntKind.wrap .i64 ((k : Nat) + 1 : Int) = ((k + 1 : Nat) : Int) by rw [w64 (by omega) (by omega)]; rfl]
      exact ih (k + 1) _ (by omega) (rse_up R hR n (by omega) r.2.1 r.2.2.1 hr.1 (by omega) hr.2).1
theorem matrixRises_pure (a0 : List Int) (a1 : List InR) (a2 : InR) (h0 : U16s a0) (h1 : ∀ r ∈ a1, InOK r) (h2 : InOK a2) : F3 a0 a1 a2 = some (r1 true) := by
  unfold F3
  rw [F10_eq]
  simp only [Option.bind_some, Bool.not_true, cond_false]
  rw [cif]
  split
  · rfl
  rw [cif]
  split
  · rfl
  rw [cif]
  split
  · rfl
  rename_i hl0 hl1 hl2
  obtain ⟨b', q0, q1, q2, q3, hF, f0, f1, f2, f3⟩ := F11_feeds a0 h0
  have hq : KnOK [q0, q1, q2, q3] := KnOK.of (by simp) (by
    intro q hq
    simp only [List.mem_cons, List.not_mem_nil, or_false] at hq
    rcases hq with rfl | rfl | rfl | rfl
    · exact ⟨_, _, f0⟩
    · exact ⟨_, _, f1⟩
    · exact ⟨_, _, f2⟩
    · exact ⟨_, _, f3⟩)
  rw [hF, F12_eq]
  simp only [Option.bind_some]
  rcases L3_run a1 h1 (by omega) [q0, q1, q2, q3] a2.1 a2.2.1 a2.2.2.1 a1.length 0 _ (by omega) rs0 with ⟨R', hL⟩ | ⟨R, hL, hR⟩
  · rw [show (((0 : Nat) : Int)) = 0 from rfl] at hL
    rw [hL]
    rfl
  rw [show (((0 : Nat) : Int)) = 0 from rfl] at hL
  rw [hL]
  simp only [Option.bind_some, Sum.elim_inr]
  rw [F14_eq hq R hR]
  simp only [Option.bind_some]
  obtain ⟨n, hn, he⟩ := nd4 a2.1
  rw [he, F15_nat]
  simp only [Option.bind_some]
  have hlen := hq.len n
  have hll : ((([q0, q1, q2, q3] : List (List Ev)).getD ((n : Nat) : Int).toNat [])).length = (ls [q0, q1, q2, q3] n).length := by rw [Int.toNat_natCast]
  rw [decide_eq_true (by simp only [List.length_cons, List.length_nil]; omega), hll, wu64 (n := ((ls [q0, q1, q2, q3] n).length : Int)) (by omega) (by omega)]
  simp only [cond_true]
  rw [cif]
  split
  · rfl
  rename_i hg
  rw [F13_eq R hR n (by omega) a2.2.1 a2.2.2.1 () (by omega)]
  simp only [Option.bind_some]
  obtain ⟨hR', hU, hk⟩ := rse_up R hR n (by omega) a2.2.1 a2.2.2.1 h2.1 (by omega) h2.2
  rw [F14_eq hq _ hR']
  simp only [Option.bind_some]
  have := outF_mono hq hR hR' hU (by omega) hk who4 (s := 9223372036854775807) (t := 9223372036854775807) (by omega) (Int.le_refl _)
  rw [decide_eq_true this]
end Go.IM.V
