/- What the code of a law comes to, and what that tells: part 1. Lemmas alone; no conditions. -/
import Derived.Test.YtinknnimmpcddaaProg
import Derived.KernelRfl
import Derived.Test.YtinknnimmpcddaaImM5
import Derived.Test.YtinknnimmpcddaaImM2
set_option linter.unusedVariables false
set_option linter.unusedSimpArgs false
set_option linter.constructorNameAsVariable false
namespace Go.IM.V
open Go Go.IM
variable {P : Program} {m m1 : M} {S0 : Nat → Prop} {env env1 : Env} {X Y : Cx}
theorem repC_φ {p : Nat → Prop} {S1 : Nat → Prop} {c : Cl} {w : Value} (h : repC P X c w) : repC P { X with env := { X.env with φ := p }, S0 := S1 } c w := by cases c <;> exact h
theorem repCs_φ {p : Nat → Prop} {S1 : Nat → Prop} : ∀ {cs : List Cl} {ws : List Value}, repCs P X cs ws → repCs P { X with env := { X.env with φ := p }, S0 := S1 } cs ws := by
  intro cs
  induction cs with
  | nil => intro ws h; cases ws <;> exact h
  | cons c cs ih => intro ws h; cases ws with
    | nil => exact h
    | cons w ws => exact ⟨repC_φ h.1, ih h.2⟩
theorem repS_φ {p : Nat → Prop} {S1 : Nat → Prop} {s : V.S1} {w : Value} (h : repS P X s w) : repS P { X with env := { X.env with φ := p }, S0 := S1 } s w := by
  cases s with
  | x => trivial
  | s c => exact repC_φ (c := c) h
  | a cs => obtain ⟨b, h1, h2⟩ := h; exact ⟨b, h1, repCs_φ h2⟩
theorem repSlots_φ {p : Nat → Prop} {S1 : Nat → Prop} {av : Nat → Value} : ∀ {l : List (Nat × V.S1)}, repSlots P X av l → repSlots P { X with env := { X.env with φ := p }, S0 := S1 } av l := by
  intro l
  induction l with
  | nil => intro h; trivial
  | cons q l ih => intro h; exact ⟨repS_φ h.1, ih h.2⟩
theorem repSlots_le {X Y : Cx} (hle : CxLe X Y) {av : Nat → Value} : ∀ {l : List (Nat × S1)}, repSlots P X av l → repSlots P Y av l := by
  intro l
  induction l with
  | nil => intro _; trivial
  | cons p l ih => intro h; exact ⟨h.1.le hle, ih h.2⟩
theorem start_nobox {t : Tm} (ht : t.bx = []) {x : t.E} (hT : RelT P (t.cx x S0 env m) (t.inst 0 x).bx) {S1 : Nat → Prop} (hS : ∀ i, S1 i → S0 i ∨ env.φ i) :
    RelT P (t.cx x S1 { env with φ := fun _ => False } m) (t.inst 0 x).bx ∧ (∀ i, ¬ Wb (t.cx x S1 { env with φ := fun _ => False } m) i) ∧
      ∀ {av : Nat → Value} {l : List (Nat × V.S1)}, repSlots P (t.cx x S0 env m) av l → repSlots P (t.cx x S1 { env with φ := fun _ => False } m) av l := by
  have hbx : (t.inst 0 x).bx = [] := by
    have h : (bxI id id t.bx x.2.1).length = 0 := by rw [bxI_len, ht]; rfl
    exact List.eq_nil_of_length_eq_zero h
  have hSle : ∀ i, (t.inst 0 x).S S1 { env with φ := fun _ => False } i → (t.inst 0 x).S S0 env i := by
    intro i w
    rcases w with w | ⟨j, hj, _⟩ | w
    · rcases hS i w with w | w
      · exact .inl w
      · exact .inr (.inr w)
    · rw [hbx] at hj; exact absurd hj (Nat.not_lt_zero _)
    · exact w.elim
  have hmono : Mono ((t.inst 0 x).S S0 env) m ((t.inst 0 x).S S1 { env with φ := fun _ => False }) m := fun i r hr hn => ⟨hr, fun w => hn (hSle i w)⟩
  have hnj : ∀ j, ¬ j < (t.inst 0 x).bx.length := fun j hj => by rw [hbx] at hj; exact Nat.not_lt_zero _ hj
  refine ⟨⟨hT.free, hT.bar, rfl, rfl, rfl, fun j hj => absurd hj (hnj j), fun i w => hT.slt i (hSle i w), fun j b hb => ?_, hT.bfd, fun j cs hcs => ?_, fun j j' hj => absurd hj (hnj j), fun i w => w.elim, fun j hj => absurd hj (hnj j), hT.rts, hT.unq⟩, fun i w => ?_, ?_⟩
  · exact BufOK.le (Wb := fun _ => False) (Wl := fun _ => False) (X := t.cx x S0 env m) (Y := t.cx x S1 { env with φ := fun _ => False } m) (Fr2.refl hT.free) hmono (fun _ w => w.elim) rfl (hT.bf j b hb) (fun _ _ _ w => w)
  · rw [hbx] at hcs; cases hcs
  · rcases w with ⟨j, hj, _⟩ | w
    · exact hnj j hj
    · exact w
  · intro av l h
    have hle : CxLe (t.cx x S0 env m) { t.cx x S1 { env with φ := fun _ => False } m with env := env, S0 := fun _ => False } :=
      ⟨hmono, Nat.le_refl _, fun _ _ => rfl, fun j b hb => ⟨b.live, hb, rfl⟩, fun _ _ h => h, fun _ _ _ h => h, fun _ w => w.elim, fun _ w => w, Nat.le_refl _, fun _ _ h => h⟩
    exact repSlots_φ (p := fun _ => False) (S1 := S1) (repSlots_le hle h)
def thTm (e : Ty) (n : Nat) : Tm := { sl := [(0, .sb (.l e) n 0)], bx := [(List.range n).map .o], bf := List.replicate n e }
def liTm (e : Ty) : Tm := { sl := [(0, .v (.l (.l e)))] }
def bfL {e : Ty} : (n : Nat) → BfE (List.replicate n e) → List (List e.El)
  | 0, _ => []
  | n + 1, x => x.1 :: bfL n x.2
theorem bfL_len {e : Ty} : ∀ {n : Nat} {x : BfE (List.replicate n e)}, (bfL n x).length = n
  | 0, _ => rfl
  | n + 1, x => by show (_ :: _).length = _; rw [List.length_cons, bfL_len]
theorem bfI_bfL {e : Ty} : ∀ {n : Nat} {x : BfE (List.replicate n e)} {k : Nat} {xs : List e.El}, (bfL n x)[k]? = some xs → (bfI (List.replicate n e) x)[k]? = some ⟨e, xs, true, false⟩
  | 0, _, _, _, h => by cases h
  | n + 1, x, 0, xs, h => by cases h; rfl
  | n + 1, x, k + 1, xs, h => bfI_bfL (n := n) (x := x.2) (k := k) h
theorem thaw {k : FuncId} {ins : Tm} (hi : ins.bx = []) (hf : ins.bf = []) {e : Ty} {n : Nat} (hn : 0 < n) {F : ins.E → Option (OT.ret (thTm e n)).E} (h : Con.OK P k ⟨ins, .ret (thTm e n), F⟩) :
    Con.OK P k ⟨ins, .ret (liTm e), fun x => (F x).map fun y => ((bfL n y.2.2, ()), (), ())⟩ := by
  intro x y2 hF S0 env m args hT hB hsl
  simp only [Option.map_eq_some_iff] at hF
  obtain ⟨y, hy, rfl⟩ := hF
  obtain ⟨hT', hW', hsl'⟩ := start_nobox hi hT (S1 := fun i => S0 i ∨ env.φ i) (fun _ w => w)
  obtain ⟨c, m1, env1, hcal, hend, v, rfl, hv⟩ := h x y hy _ _ m args hT' (fun i w => absurd w (hW' i)) (hsl' hsl)
  have hfr := hend.fr
  have hwl' : ∀ i, ¬ Wl (ins.cx x (fun i => S0 i ∨ env.φ i) { env with φ := fun _ => False } m) i := by
    rintro i ⟨j, b, hb, _⟩
    have hb' : (bfI ins.bf x.2.2)[j]? = some b := hb
    have : ∀ {l : List Ty} {z : BfE l}, l = [] → bfI l z = [] := by intro l z hl; subst hl; rfl
    rw [this hf] at hb'; cases hb'
  have hnxt : m.nxt ≤ m1.nxt := hfr.nxt
  have hS0 : ∀ i, S0 i ∨ env.φ i → i < m.nxt := fun i w => hT.slt i (w.elim .inl (fun w => .inr (.inr w)))
  have hbx0 : ((thTm e n).inst 0 y).bx[0]? = some ((List.range n).map .o) := by
    show (bxI id id [(List.range n).map Pt.o] y.2.1)[0]? = _
    have : ∀ (l : List Nat) (z : CeE (l.map Pt.o)), ceI id id (l.map Pt.o) z = l.map Cl.o := by
      intro l
      induction l with
      | nil => intro z; rfl
      | cons a l ih => intro z; show _ :: _ = _ :: _; rw [ih]; rfl
    show some (ceI id id ((List.range n).map Pt.o) y.2.1.1) = _
    rw [this]
  have hrun : isRun ((List.range n).map Cl.o) = false := by
    cases n with
    | zero => rfl
    | succ n => cases n with
      | zero => rfl
      | succ n => rw [List.range_succ_eq_map, List.range_succ_eq_map]; rfl
  have hhas : hasOf ((thTm e n).inst 0 y).bx 0 = true := (hasOf_get hbx0).trans (has1_cel hrun)
  obtain ⟨kb, cc, eo, fr, b1, b2, b3, b4, b5, b6⟩ := (hend.T.bx 0 _ hbx0).cel hrun
  obtain ⟨_, ⟨v1, v2⟩, v3⟩ := hv
  obtain ⟨v4, eo', v5, v6⟩ := v3 hhas
  have hrow : m1.row (env1.β 0) = some (cc, eo) := row_of b1 b2
  have hty : eo' = eo := by
    have h5 : m1.typ (env1.β 0) = some eo' := v5
    unfold M.typ at h5
    have h7 : m1.get (env1.β 0) = some kb := alive_get b1
    rw [h7] at h5
    have h6 : otyp kb.obj = some eo' := h5
    rw [b2] at h6; cases h6; rfl
  subst hty
  have hβ : m.nxt ≤ env1.β 0 := by
    rcases hend.wb (env1.β 0) (.inl ⟨0, by show 0 < ((thTm e n).inst 0 y).bx.length; exact lt_of_get hbx0, hhas, rfl⟩) with w | w
    · exact absurd w (hW' _)
    · exact w
  have hS1 : ∀ i, S0 i ∨ env.φ i → ((thTm e n).inst 0 y).S (fun i => S0 i ∨ env.φ i) env1 i := fun i w => .inl w
  let env2 : Env := { τ := fun _ => none, β := fun _ => 0, φ := env.φ }
  let t2 : Tm := liTm e
  let y2 : t2.E := ((bfL n y.2.2, ()), (), ())
  have hS2 : ∀ i, (t2.inst 0 y2).S S0 env2 i → S0 i ∨ env.φ i := by
    intro i w
    rcases w with w | ⟨j, hj, _⟩ | w
    · exact .inl w
    · exact absurd hj (Nat.not_lt_zero _)
    · exact .inr w
  refine ⟨.ret v, m1, env2, hcal, ⟨hfr.mono (fun i w => absurd w (hW' i)) (fun i w => absurd w (hwl' i)), ⟨hend.T.free, hend.T.bar, rfl, rfl, rfl, fun j hj => absurd hj (Nat.not_lt_zero _), fun i w => Nat.lt_of_lt_of_le (hS0 i (hS2 i w)) hnxt, fun j b hb => (by cases hb), fun j j' b b' i hb => (by cases hb), fun j cs hcs => (by cases hcs), fun j j' hj => absurd hj (Nat.not_lt_zero _), fun i w => .inr (.inr w), fun j hj => absurd hj (Nat.not_lt_zero _), hend.T.rts, hend.T.unq⟩,
    fun j hj => ?_, fun i w => ?_, fun i w => ?_, fun j hj => ?_, fun j L hj => ?_, fun i w => w⟩, v, rfl, ?_⟩
  · have : (ins.inst 0 x).bx.length = 0 := by show (bxI id id ins.bx x.2.1).length = 0; rw [bxI_len, hi]; rfl
    exact absurd (show j < (ins.inst 0 x).bx.length from hj) (by omega)
  · rcases w with ⟨j, hj, _⟩ | w
    · exact absurd hj (Nat.not_lt_zero _)
    · exact .inl (.inr w)
  · obtain ⟨j, b, hb, _⟩ := w; cases hb
  · have : (ins.inst 0 x).bx.length = 0 := by show (bxI id id ins.bx x.2.1).length = 0; rw [bxI_len, hi]; rfl
    exact absurd (show j < (ins.inst 0 x).bx.length from hj) (by omega)
  · have : (ins.inst 0 x).bx.length = 0 := by show (bxI id id ins.bx x.2.1).length = 0; rw [bxI_len, hi]; rfl
    exact absurd (show j < (ins.inst 0 x).bx.length from hj) (by omega)
  ·
    have hmono : Mono (((thTm e n).inst 0 y).S (fun i => S0 i ∨ env.φ i) env1) m1 ((t2.inst 0 y2).S S0 env2) m1 := fun i r hr hn => ⟨hr, fun w => hn (hS1 i (hS2 i w))⟩
    show repL P ((t2.inst 0 y2).S S0 env2) m1 (Ty.l e).n (repE P ((t2.inst 0 y2).S S0 env2) m1 (.l e)) (bfL n y.2.2) v
    have hlen : (bfL n y.2.2).length = n := bfL_len
    have hcc : cc.size = n := by
      have := repCs_len b6
      simp at this
      exact this.symm
    refine .inr ⟨env1.β 0, 0, none, n, ?_, Nat.le_of_eq hlen, .inr ⟨cc, eo', hrow, fun w => ?_, v6, ?_, fun q xs hq => ?_⟩⟩
    · exact v4.trans (congrArg (fun q => Value.slice (some ⟨env1.β 0, 0, none⟩) q n) hlen.symm)
    · have := hS0 _ (hS2 _ w); omega
    · exact Nat.le_trans (Nat.le_of_eq (by rw [Nat.zero_add]; exact (Nat.mul_one _).trans hlen)) (Nat.le_of_eq hcc.symm)
    · have hqn : q < n := Nat.lt_of_lt_of_eq (lt_of_get hq) hlen
      obtain ⟨w, hw, hwr⟩ := repCs_get b6 (k := q) (c := .o q) (by rw [List.getElem?_map, List.getElem?_range hqn]; rfl)
      have hex : (cc.extract (0 + q * (Ty.l e).n) (0 + q * (Ty.l e).n + (Ty.l e).n)).toList = [w] := by
        show (cc.extract (0 + q * 1) (0 + q * 1 + 1)).toList = [w]
        apply List.ext_getElem?
        intro r
        rw [Array.getElem?_toList, Array.getElem?_extract]
        rw [Array.getElem?_toList] at hw
        by_cases hr : r < 1
        · obtain rfl : r = 0 := by omega
          rw [if_pos (by omega)]
          simpa using hw
        · rw [if_neg (by omega), List.getElem?_eq_none (by simp; omega)]
      rw [hex]
      refine ⟨w, rfl, ?_⟩
      obtain ⟨b, hb, hbw⟩ := hwr
      have hb' : (bfI (List.replicate n e) y.2.2)[q]? = some b := hb
      rw [bfI_bfL hq] at hb'
      cases hb'
      have := buf_repL (hend.T.bf q _ hb) hbw
      exact repL.mono (P := P) (n := e.n) hmono (fun _ _ z => repE.mono hmono z) this
def hoIn (k : IntKind) : Tm := { sl := [(0, .o 0)], bf := [.i k] }
def hoTm (k : IntKind) : Tm := { sl := [(0, .m (.i k) 0)], bx := [[.r (.i k)]] }
theorem BufOK.at {X : Cx} {j i : Nat} {b : Bf} (h : BufOK P X j b) (hi : X.env.τ j = some i) : 0 < b.e.n ∧ ¬ X.S i ∧ ∃ k c e fr, X.m.alive i = some k ∧ k.obj = .cells c e fr ∧ P.cellsOf e = b.e.n ∧ k.ro = false ∧ c.size = b.xs.length * b.e.n ∧
      (∀ (q : Nat) (x : b.e.El), b.xs[q]? = some x → repE P X.S X.m b.e x (c.extract (q * b.e.n) (q * b.e.n + b.e.n)).toList) ∧ (b.live = true → k.sup = false ∧ k.root ≤ X.m.nxt) := by
  obtain ⟨h1, h2⟩ := h
  rw [hi] at h2
  exact ⟨h1, h2⟩
theorem BufOK.nil {X : Cx} {j : Nat} {b : Bf} (h : BufOK P X j b) (hi : X.env.τ j = none) : b.cap = false → b.xs = [] := by
  obtain ⟨h1, h2⟩ := h
  rw [hi] at h2
  exact h2
theorem heat {k : FuncId} {ins : Tm} (hi : ins.bx = []) (hf : ins.bf = []) {ik : IntKind} {F : ins.E → Option (OT.ret (hoIn ik)).E} (h : Con.OK P k ⟨ins, .ret (hoIn ik), F⟩) :
    Con.OK P k ⟨ins, .ret (hoTm ik), fun x => (F x).bind fun y => bif List.isEmpty (α := Int) y.2.2.1 then none else some (((), ()), (((y.2.2.1, ()), ()), ()))⟩ := by
  intro x y2 hF S0 env m args hT hB hsl
  simp only [Option.bind_eq_some_iff] at hF
  obtain ⟨y, hy, hF⟩ := hF
  cases hxe : List.isEmpty (α := Int) y.2.2.1 with
  | true => rw [hxe] at hF; cases hF
  | false =>
  rw [hxe] at hF
  simp only [cond_false, Option.some.injEq] at hF
  subst hF
  have hne : (y.2.2.1 : List Int) ≠ [] := fun q => by rw [show (y.2.2.1 : List Int) = [] from q] at hxe; cases hxe
  obtain ⟨hT', hW', hsl'⟩ := start_nobox hi hT (S1 := fun i => S0 i ∨ env.φ i) (fun _ w => w)
  obtain ⟨c, m1, env1, hcal, hend0, v, rfl, hv0⟩ := h x _ hy _ _ m args hT' (fun i w => absurd w (hW' i)) (hsl' hsl)
  have hend : Ended P (ins.cx x (fun i => S0 i ∨ env.φ i) { env with φ := fun _ => False } m) (fun i => S0 i ∨ env.φ i) env1 m1 (hoIn ik) y := hend0
  have hv : repC P ((hoIn ik).cx y (fun i => S0 i ∨ env.φ i) env1 m1) (.o 0) v := hv0
  clear hend0 hv0
  have hwl' : ∀ i, ¬ Wl (ins.cx x (fun i => S0 i ∨ env.φ i) { env with φ := fun _ => False } m) i := by
    rintro i ⟨j, b, hb, _⟩
    have hb' : (bfI ins.bf x.2.2)[j]? = some b := hb
    have : ∀ {l : List Ty} {z : BfE l}, l = [] → bfI l z = [] := by intro l z hl; subst hl; rfl
    rw [this hf] at hb'; cases hb'
  have hfr0 : Fr2 (fun _ => False) (fun _ => False) m m1 := hend.fr.mono (fun i w => hW' i w) (fun i w => absurd w (hwl' i))
  have hnxt : m.nxt ≤ m1.nxt := hfr0.nxt
  have hS0 : ∀ i, S0 i ∨ env.φ i → i < m.nxt := fun i w => hT.slt i (w.elim .inl (fun w => .inr (.inr w)))
  obtain ⟨b, hb, hbw⟩ := hv
  have hbe : b = ⟨.i ik, y.2.2.1, true, false⟩ := by
    have hb1 : (bfI [Ty.i ik] y.2.2)[0]? = some b := hb
    simp only [bfI, List.getElem?_cons_zero, Option.some.injEq] at hb1
    exact hb1.symm
  subst hbe
  have hB0 := hend.T.bf 0 _ hb
  cases hτ : env1.τ 0 with
  | none => exact absurd (hB0.nil hτ rfl) hne
  | some i =>
  obtain ⟨hpos, hSi, kb, cc, eo, fr, b1, b2, b3, b4, b5, b6, b7⟩ := hB0.at hτ
  obtain ⟨b8, b9⟩ := b7 rfl
  have hw : v = .slice (some ⟨i, 0, none⟩) (List.length (α := Int) y.2.2.1) (List.length (α := Int) y.2.2.1) := by
    have : bufW P ((hoIn ik).cx y (fun i => S0 i ∨ env.φ i) env1 m1) ⟨.i ik, y.2.2.1, true, false⟩ (some i) v := by rw [← hτ]; exact hbw
    exact this
  have hilt : i < m1.nxt := alive_lt hfr0.free b1
  have hin : m.nxt ≤ i := by
    rcases hend.wl i ⟨0, _, hb, rfl, hτ⟩ with w | w | w
    · exact absurd w (hwl' i)
    · exact absurd w (hW' i)
    · exact w
  have hgi : m1.get i = some kb := alive_get b1
  have hrn : m.nxt ≤ kb.root := by
    rcases hfr0.new i kb hgi hin with w | ⟨_, _, _, w, _⟩
    · exact w
    · exact w.elim id id |>.elim
  have hfam : ∀ j b, m1.get j = some b → b.root = kb.root → m.nxt ≤ j := by
    intro j b hj hr
    rcases Nat.lt_or_ge j m.nxt with q | q
    · obtain ⟨b0, g1, g2, _⟩ := hfr0.old j b hj q
      rcases g2 with g2 | ⟨_, _, g2⟩
      · have := hT.rts.lt hT.free g1
        have h3 : b0.root < m.nxt := this
        omega
      · exact g2.elim
    · exact q
  let eld : Nat → Prop := fun j => j ≠ i ∧ ∃ b, m1.get j = some b ∧ b.root = kb.root
  let env2 : Env := { τ := fun _ => none, β := fun _ => i, φ := fun j => env.φ j ∨ eld j }
  let t2 : Tm := hoTm ik
  let y2 : t2.E := (((), ()), (((y.2.2.1, ()), ()), ()))
  have hbx : (t2.inst 0 y2).bx = [[.r false (.i ik) y.2.2.1]] := rfl
  have hhas : ∀ j, j < 1 → hasOf (t2.inst 0 y2).bx j = true := by
    intro j hj
    obtain rfl : j = 0 := by omega
    exact (hasOf_get (bx := (t2.inst 0 y2).bx) (j := 0) rfl).trans (has1_run (e := .i ik) hne)
  have hS2 : ∀ q, (t2.inst 0 y2).S S0 env2 q → (S0 q ∨ env.φ q) ∨ q = i ∨ eld q := by
    intro q w
    rcases w with w | ⟨_, _, _, w⟩ | w | w
    · exact .inl (.inl w)
    · exact .inr (.inl w.symm)
    · exact .inl (.inr w)
    · exact .inr (.inr w)
  have hXnb : ∀ j, ¬ j < (ins.inst 0 x).bx.length := by
    intro j hj
    have : (ins.inst 0 x).bx.length = 0 := by show (bxI id id ins.bx x.2.1).length = 0; rw [bxI_len, hi]; rfl
    omega
  refine ⟨.ret v, m1, env2, hcal, ⟨hfr0.mono (fun _ w => w.elim) (fun _ w => w.elim), ⟨hfr0.free, hend.T.bar, rfl, rfl, rfl, fun j hj hh => .inr (.inl ⟨j, hj, hh, rfl⟩), fun q w => ?_, fun j b hb => (by cases hb), fun j j' b b' i hb => (by cases hb), fun j cs hcs => ?_, fun j j' hj hj' _ _ _ => ?_, fun q w => .inr (.inr w), fun j hj hh w => ?_, hend.T.rts, hend.T.unq⟩,
    fun j hj => absurd hj (hXnb j), fun q w => ?_, fun q w => ?_, fun j hj => absurd hj (hXnb j), fun j L hj => absurd hj (hXnb j), fun q w => .inl w⟩, v, rfl, ?_⟩
  · rcases hS2 q w with w | rfl | ⟨_, b, w, _⟩
    · exact Nat.lt_of_lt_of_le (hS0 q w) hnxt
    · exact hilt
    · exact get_lt hfr0.free w
  · have hj0 : j = 0 := by
      have : j < 1 := lt_of_get (l := (t2.inst 0 y2).bx) hcs
      omega
    subst hj0
    have hcs' : some [Cl.r false (.i ik) y.2.2.1] = some cs := hcs
    cases hcs'
    refine ⟨⟨hpos, fun _ => ⟨kb, cc, eo, fr, b1, b2, b4, b8, ⟨b9, fun q => by cases q⟩, fun _ => b3, b5, fun q z hz => ?_, ?_, fun j b hj hr => ?_⟩⟩, fun q => by cases q⟩
    · exact b6 q z hz
    · exact hend.T.rts i kb hgi
    · by_cases hji : j = i
      · exact .inl hji
      · refine .inr ⟨.inr ⟨hji, b, hj, hr⟩, ?_⟩
        cases hs : b.sup with
        | true => rfl
        | false => exact absurd (hend.T.unq.one j i b kb hj hgi hr hs b8) hji
  · have h1 : j < 1 := hj
    have h2 : j' < 1 := hj'
    omega
  · rcases w with w | ⟨w, _⟩
    · have h2 := hS0 i (.inr w)
      omega
    · exact w rfl
  · rcases w with ⟨j, hj, _, w⟩ | w | ⟨_, b, w, hr⟩
    · right
      have hw : i = q := w
      show m.nxt ≤ q
      omega
    · exact .inl (.inr w)
    · exact .inr (hfam q b w hr)
  · obtain ⟨j, b, hb, _⟩ := w; cases hb
  · refine ⟨Nat.zero_lt_one, ⟨by rw [hw]; rfl, by rw [hw]; exact .inr hilt⟩, fun L hL => ?_⟩
    have hL' : some (List.length (α := Int) y.2.2.1) = some L := hL
    cases hL'
    refine ⟨fun q => absurd (List.eq_nil_of_length_eq_zero q) hne, fun _ => hw⟩
end Go.IM.V
namespace Go.IM.V
open Go Go.IM Go.Proofs
abbrev DRw : Type := (Int × ((List Int) × (Int × Unit)))
abbrev tDRw : Ty := (.p (.i .i64) (.p (.l (.i .u64)) (.p (.i .u64) .u)))
abbrev DEv : Type := (Int × (Int × (Int × (Int × (ByteArray × ((List Int) × (Nat × (Int × Unit))))))))
abbrev tDEv : Ty := (.p (.i .i64) (.p (.i .u64) (.p (.i .u64) (.p (.i .u8) (.p .s (.p (.l (.i .u8)) (.p (.f .f64) (.p (.i .i64) .u))))))))
abbrev DLt : Type := (Int × (Int × (Int × (Bool × (Int × ((List Int) × ((List DRw) × ((List DEv) × (Int × (Int × (Int × DRw)))))))))))
abbrev tDLt : Ty := (.p (.i .u8) (.p (.i .i64) (.p (.i .i64) (.p .b (.p (.i .u64) (.p (.l (.i .u64)) (.p (.l tDRw) (.p (.l tDEv) (.p (.i .u64) (.p (.i .u64) (.p (.i .u32) (.p (.i .u64) (.p (.l (.i .u8)) (.p (.i .i64) .u))))))))))))))
noncomputable def l72_7 : Code := (.seq (.region 7 (regOf Try.f72 7) false) (.seq (.cond (.tmp 18) .skip (.exit 2)) (.seq (.block 3 (.seq (.region 8 (regOf Try.f72 8) false) (.seq (.region 9 (regOf Try.f72 9) false) (.region 10 (regOf Try.f72 10) false)))) (.region 11 (regOf Try.f72 11) false))))
noncomputable def l72_3 : Code := (.seq (.region 3 (regOf Try.f72 3) false) (.seq (.cond (.tmp 10) .skip (.exit 0)) (.seq (.block 1 (.seq (.region 4 (regOf Try.f72 4) false) (.seq (.region 5 (regOf Try.f72 5) false) (.seq (.region 6 (regOf Try.f72 6) false) (.block 2 (.loop l72_7)))))) (.region 12 (regOf Try.f72 12) false))))
noncomputable def b72 : Code := (.seq (.region 0 (regOf Try.f72 0) false) (.seq (.region 1 (regOf Try.f72 1) false) (.seq (.seq (.region 2 (regOf Try.f72 2) false) (.block 0 (.loop l72_3))) (.seq (.region 13 (regOf Try.f72 13) false) .ret))))
theorem body72 : Try.f72.body = some b72 := by kernel_rfl
noncomputable def C72_7 : Tab := []
theorem C72_7_ok : TabOK Try.prog C72_7 := trivial
noncomputable def LO72_7 : Tab := []
noncomputable def i72_7 : Tm := { sl := [(3, .v (.i .u32)), (7, .v (.l (.i .u8))), (8, .v (.i .i64)), (9, .v (.i .i64)), (17, .v (.i .i64))], bx := [], bf := [] }
noncomputable def o72_7 : OT := (.exit 2 { sl := [(3, .v (.i .u32))], bx := [], bf := [] })
noncomputable def T72_7 (a3 : Int) (a7 : (List Int)) (a8 : Int) (a9 : Int) (a17 : Int) : Option (((Int × ((List Int) × (Int × (Int × (Int × Unit))))) × Unit × Unit) ⊕ ((Int × Unit) × Unit × Unit)) :=
  (bif (decide ((a17 : Int) < 8)) then (some (.inl (((iXor .u32 (iShr .u32 a3 1) (IntKind.wrap .u32 (2197175160 * (iAnd .u32 a3 1)))), a7, a8, a9, (IntKind.wrap .i64 (a17 + 1)), ()), (), ()))) else (some (.inr ((a3, ()), (), ()))))
noncomputable def L72_7 (a3 : Int) (a7 : (List Int)) (a8 : Int) (a9 : Int) (a17 : Int) : Option ((Int × Unit) × Unit × Unit) := loopF (fun x : ((Int × ((List Int) × (Int × (Int × (Int × Unit))))) × Unit × Unit) => T72_7 x.1.1 x.1.2.1 x.1.2.2.1 x.1.2.2.2.1 x.1.2.2.2.2.1) ((a3, a7, a8, a9, a17, ()), (), ())
theorem L72_7_eq (a3 : Int) (a7 : (List Int)) (a8 : Int) (a9 : Int) (a17 : Int) : L72_7 a3 a7 a8 a9 a17 = (T72_7 a3 a7 a8 a9 a17).bind (Sum.elim (fun x => L72_7 x.1.1 x.1.2.1 x.1.2.2.1 x.1.2.2.2.1 x.1.2.2.2.2.1) some) := loopF_eq _ _
noncomputable def k72_7 : Con := ⟨i72_7, o72_7, fun x => L72_7 x.1.1 x.1.2.1 x.1.2.2.1 x.1.2.2.2.1 x.1.2.2.2.2.1⟩
theorem e72_7 (x : i72_7.E) : vround Try.prog C72_7 LO72_7 Try.f72.ntmps l72_7 i72_7 o72_7 x = T72_7 x.1.1 x.1.2.1 x.1.2.2.1 x.1.2.2.2.1 x.1.2.2.2.2.1 := by kernel_rfl
theorem k72_7_ok : Con.LOK Try.prog Try.f72.ntmps l72_7 k72_7 := (loop_ok C72_7_ok (loops_of (l := []) (by kernel_rfl) (show LoopsOK Try.prog Try.f72.ntmps [] LO72_7 from trivial)) i72_7 o72_7).congr fun x => (congrArg (fun T => loopF T x) (funext e72_7)).symm
noncomputable def C72_3 : Tab := []
theorem C72_3_ok : TabOK Try.prog C72_3 := trivial
noncomputable def LO72_3 : Tab := [(7, k72_7)]
noncomputable def i72_3 : Tm := { sl := [(3, .v (.i .u32)), (7, .v (.l (.i .u8))), (8, .v (.i .i64)), (9, .v (.i .i64))], bx := [], bf := [] }
noncomputable def o72_3 : OT := (.exit 0 { sl := [(3, .v (.i .u32))], bx := [], bf := [] })
noncomputable def T72_3 (a3 : Int) (a7 : (List Int)) (a8 : Int) (a9 : Int) : Option (((Int × ((List Int) × (Int × (Int × Unit)))) × Unit × Unit) ⊕ ((Int × Unit) × Unit × Unit)) :=
  (bif (decide ((a9 : Int) < a8)) then (bif (decide (0 ≤ (a9 : Int) ∧ (a9 : Int) < (((a7).length : Nat) : Int))) then ((L72_7 (iXor .u32 a3 (IntKind.wrap .u32 ((a7).getD (a9 : Int).toNat (0 : Int)))) a7 a8 a9 0).bind fun y2 => (some (.inl ((y2.1.1, a7, a8, (IntKind.wrap .i64 (a9 + 1)), ()), (), ())))) else none) else (some (.inr ((a3, ()), (), ()))))
noncomputable def L72_3 (a3 : Int) (a7 : (List Int)) (a8 : Int) (a9 : Int) : Option ((Int × Unit) × Unit × Unit) := loopF (fun x : ((Int × ((List Int) × (Int × (Int × Unit)))) × Unit × Unit) => T72_3 x.1.1 x.1.2.1 x.1.2.2.1 x.1.2.2.2.1) ((a3, a7, a8, a9, ()), (), ())
theorem L72_3_eq (a3 : Int) (a7 : (List Int)) (a8 : Int) (a9 : Int) : L72_3 a3 a7 a8 a9 = (T72_3 a3 a7 a8 a9).bind (Sum.elim (fun x => L72_3 x.1.1 x.1.2.1 x.1.2.2.1 x.1.2.2.2.1) some) := loopF_eq _ _
noncomputable def k72_3 : Con := ⟨i72_3, o72_3, fun x => L72_3 x.1.1 x.1.2.1 x.1.2.2.1 x.1.2.2.2.1⟩
theorem e72_3 (x : i72_3.E) : vround Try.prog C72_3 LO72_3 Try.f72.ntmps l72_3 i72_3 o72_3 x = T72_3 x.1.1 x.1.2.1 x.1.2.2.1 x.1.2.2.2.1 := by kernel_rfl
theorem k72_3_ok : Con.LOK Try.prog Try.f72.ntmps l72_3 k72_3 := (loop_ok C72_3_ok (loops_of (l := [l72_7]) (by kernel_rfl) (show LoopsOK Try.prog Try.f72.ntmps [l72_7] LO72_3 from ⟨k72_7_ok, trivial⟩)) i72_3 o72_3).congr fun x => (congrArg (fun T => loopF T x) (funext e72_3)).symm
noncomputable def C72 : Tab := []
theorem C72_ok : TabOK Try.prog C72 := trivial
noncomputable def LO72 : Tab := [(3, k72_3)]
noncomputable def i72 : Tm := { sl := [(0, .v (.l (.i .u8)))], bx := [], bf := [] }
noncomputable def o72 : OT := (.ret { sl := [(0, .v (.i .u32))], bx := [], bf := [] })
noncomputable def F72 (a0 : (List Int)) : Option ((Int × Unit) × Unit × Unit) :=
  ((L72_3 4294967295 a0 (((a0).length : Nat) : Int) 0).bind fun y3 => (some (((iNot .u32 y3.1.1), ()), (), ())))
noncomputable def c72 : Con := ⟨i72, o72, fun x => F72 x.1.1⟩
theorem e72 (x : i72.E) : vfn Try.prog C72 LO72 Try.f72 b72 i72 o72 x = F72 x.1.1 := by kernel_rfl
theorem c72_ok : Con.OK Try.prog 72 c72 := (fn_ok C72_ok Try.func72 body72 (loops_of (l := [l72_3]) (by kernel_rfl) (show LoopsOK Try.prog Try.f72.ntmps [l72_3] LO72 from ⟨k72_3_ok, trivial⟩)) i72 o72).congr fun x => (e72 x).symm
noncomputable def l39_6 : Code := (.seq (.seq (.region 6 (regOf Try.f39 6) false) (.cond (.tmp 17) .skip (.exit 2))) (.seq (.block 3 (.seq (.region 8 (regOf Try.f39 8) false) (.seq (.region 9 (regOf Try.f39 9) false) (.seq (.region 10 (regOf Try.f39 10) false) (.seq (.region 11 (regOf Try.f39 11) false) (.cond (.tmp 34) (.region 12 (regOf Try.f39 12) false) .skip)))))) (.region 7 (regOf Try.f39 7) false)))
noncomputable def l39_3 : Code := (.seq (.seq (.region 3 (regOf Try.f39 3) false) (.cond (.tmp 13) .skip (.exit 0))) (.seq (.block 1 (.seq (.region 5 (regOf Try.f39 5) false) (.block 2 (.loop l39_6)))) (.region 4 (regOf Try.f39 4) false)))
noncomputable def l39_16 : Code := (.seq (.seq (.region 16 (regOf Try.f39 16) false) (.cond (.tmp 40) .skip (.exit 4))) (.seq (.block 5 (.region 18 (regOf Try.f39 18) false)) (.region 17 (regOf Try.f39 17) false)))
noncomputable def b39 : Code := (.seq (.region 0 (regOf Try.f39 0) false) (.seq (.region 1 (regOf Try.f39 1) false) (.seq (.seq (.region 2 (regOf Try.f39 2) false) (.block 0 (.loop l39_3))) (.seq (.region 13 (regOf Try.f39 13) false) (.seq (.region 14 (regOf Try.f39 14) false) (.seq (.seq (.region 15 (regOf Try.f39 15) false) (.block 4 (.loop l39_16))) (.seq (.region 19 (regOf Try.f39 19) false) .ret)))))))
theorem body39 : Try.f39.body = some b39 := by kernel_rfl
noncomputable def C39_6 : Tab := []
theorem C39_6_ok : TabOK Try.prog C39_6 := trivial
noncomputable def LO39_6 : Tab := []
noncomputable def i39_6 : Tm := { sl := [(0, .v (.l (.i .u8))), (3, .v (.i .u32)), (4, .v (.i .i64)), (5, .v (.i .i64))], bx := [], bf := [] }
noncomputable def o39_6 : OT := (.exit 2 { sl := [(3, .v (.i .u32))], bx := [], bf := [] })
noncomputable def T39_6 (a0 : (List Int)) (a3 : Int) (a4 : Int) (a5 : Int) : Option ((((List Int) × (Int × (Int × (Int × Unit)))) × Unit × Unit) ⊕ ((Int × Unit) × Unit × Unit)) :=
  (bif (decide ((a5 : Int) < 8)) then (bif (decide (0 ≤ (a4 : Int) ∧ (a4 : Int) < (((a0).length : Nat) : Int))) then (bif (decide ((0 : Int) ≤ a5)) then (bif (((iAnd .u32 (IntKind.wrap .u32 (iShr .u8 ((a0).getD (a4 : Int).toNat (0 : Int)) a5)) 1) : Int) != (iShr .u32 a3 31)) then (some (.inl ((a0, (iXor .u32 (iShl .u32 a3 1) 517762881), a4, (IntKind.wrap .i64 (a5 + 1)), ()), (), ()))) else (some (.inl ((a0, (iShl .u32 a3 1), a4, (IntKind.wrap .i64 (a5 + 1)), ()), (), ())))) else none) else none) else (some (.inr ((a3, ()), (), ()))))
noncomputable def L39_6 (a0 : (List Int)) (a3 : Int) (a4 : Int) (a5 : Int) : Option ((Int × Unit) × Unit × Unit) := loopF (fun x : (((List Int) × (Int × (Int × (Int × Unit)))) × Unit × Unit) => T39_6 x.1.1 x.1.2.1 x.1.2.2.1 x.1.2.2.2.1) ((a0, a3, a4, a5, ()), (), ())
theorem L39_6_eq (a0 : (List Int)) (a3 : Int) (a4 : Int) (a5 : Int) : L39_6 a0 a3 a4 a5 = (T39_6 a0 a3 a4 a5).bind (Sum.elim (fun x => L39_6 x.1.1 x.1.2.1 x.1.2.2.1 x.1.2.2.2.1) some) := loopF_eq _ _
noncomputable def k39_6 : Con := ⟨i39_6, o39_6, fun x => L39_6 x.1.1 x.1.2.1 x.1.2.2.1 x.1.2.2.2.1⟩
theorem e39_6 (x : i39_6.E) : vround Try.prog C39_6 LO39_6 Try.f39.ntmps l39_6 i39_6 o39_6 x = T39_6 x.1.1 x.1.2.1 x.1.2.2.1 x.1.2.2.2.1 := by kernel_rfl
theorem k39_6_ok : Con.LOK Try.prog Try.f39.ntmps l39_6 k39_6 := (loop_ok C39_6_ok (loops_of (l := []) (by kernel_rfl) (show LoopsOK Try.prog Try.f39.ntmps [] LO39_6 from trivial)) i39_6 o39_6).congr fun x => (congrArg (fun T => loopF T x) (funext e39_6)).symm
noncomputable def C39_3 : Tab := []
theorem C39_3_ok : TabOK Try.prog C39_3 := trivial
noncomputable def LO39_3 : Tab := [(6, k39_6)]
noncomputable def i39_3 : Tm := { sl := [(0, .v (.l (.i .u8))), (3, .v (.i .u32)), (4, .v (.i .i64))], bx := [], bf := [] }
noncomputable def o39_3 : OT := (.exit 0 { sl := [(3, .v (.i .u32))], bx := [], bf := [] })
noncomputable def T39_3 (a0 : (List Int)) (a3 : Int) (a4 : Int) : Option ((((List Int) × (Int × (Int × Unit))) × Unit × Unit) ⊕ ((Int × Unit) × Unit × Unit)) :=
  (bif (decide ((a4 : Int) < (((a0).length : Nat) : Int))) then ((L39_6 a0 a3 a4 0).bind fun y5 => (some (.inl ((a0, y5.1.1, (IntKind.wrap .i64 (a4 + 1)), ()), (), ())))) else (some (.inr ((a3, ()), (), ()))))
noncomputable def L39_3 (a0 : (List Int)) (a3 : Int) (a4 : Int) : Option ((Int × Unit) × Unit × Unit) := loopF (fun x : (((List Int) × (Int × (Int × Unit))) × Unit × Unit) => T39_3 x.1.1 x.1.2.1 x.1.2.2.1) ((a0, a3, a4, ()), (), ())
theorem L39_3_eq (a0 : (List Int)) (a3 : Int) (a4 : Int) : L39_3 a0 a3 a4 = (T39_3 a0 a3 a4).bind (Sum.elim (fun x => L39_3 x.1.1 x.1.2.1 x.1.2.2.1) some) := loopF_eq _ _
noncomputable def k39_3 : Con := ⟨i39_3, o39_3, fun x => L39_3 x.1.1 x.1.2.1 x.1.2.2.1⟩
theorem e39_3 (x : i39_3.E) : vround Try.prog C39_3 LO39_3 Try.f39.ntmps l39_3 i39_3 o39_3 x = T39_3 x.1.1 x.1.2.1 x.1.2.2.1 := by kernel_rfl
theorem k39_3_ok : Con.LOK Try.prog Try.f39.ntmps l39_3 k39_3 := (loop_ok C39_3_ok (loops_of (l := [l39_6]) (by kernel_rfl) (show LoopsOK Try.prog Try.f39.ntmps [l39_6] LO39_3 from ⟨k39_6_ok, trivial⟩)) i39_3 o39_3).congr fun x => (congrArg (fun T => loopF T x) (funext e39_3)).symm
noncomputable def C39_16 : Tab := []
theorem C39_16_ok : TabOK Try.prog C39_16 := trivial
noncomputable def LO39_16 : Tab := []
noncomputable def i39_16 : Tm := { sl := [(3, .v (.i .u32)), (8, .v (.i .u32)), (9, .v (.i .i64))], bx := [], bf := [] }
noncomputable def o39_16 : OT := (.exit 4 { sl := [(8, .v (.i .u32))], bx := [], bf := [] })
noncomputable def T39_16 (a3 : Int) (a8 : Int) (a9 : Int) : Option (((Int × (Int × (Int × Unit))) × Unit × Unit) ⊕ ((Int × Unit) × Unit × Unit)) :=
  (bif (decide ((a9 : Int) < 32)) then (bif (decide ((0 : Int) ≤ a9)) then (some (.inl ((a3, (iOr .u32 (iShl .u32 a8 1) (iAnd .u32 (iShr .u32 a3 a9) 1)), (IntKind.wrap .i64 (a9 + 1)), ()), (), ()))) else none) else (some (.inr ((a8, ()), (), ()))))
noncomputable def L39_16 (a3 : Int) (a8 : Int) (a9 : Int) : Option ((Int × Unit) × Unit × Unit) := loopF (fun x : ((Int × (Int × (Int × Unit))) × Unit × Unit) => T39_16 x.1.1 x.1.2.1 x.1.2.2.1) ((a3, a8, a9, ()), (), ())
theorem L39_16_eq (a3 : Int) (a8 : Int) (a9 : Int) : L39_16 a3 a8 a9 = (T39_16 a3 a8 a9).bind (Sum.elim (fun x => L39_16 x.1.1 x.1.2.1 x.1.2.2.1) some) := loopF_eq _ _
noncomputable def k39_16 : Con := ⟨i39_16, o39_16, fun x => L39_16 x.1.1 x.1.2.1 x.1.2.2.1⟩
theorem e39_16 (x : i39_16.E) : vround Try.prog C39_16 LO39_16 Try.f39.ntmps l39_16 i39_16 o39_16 x = T39_16 x.1.1 x.1.2.1 x.1.2.2.1 := by kernel_rfl
theorem k39_16_ok : Con.LOK Try.prog Try.f39.ntmps l39_16 k39_16 := (loop_ok C39_16_ok (loops_of (l := []) (by kernel_rfl) (show LoopsOK Try.prog Try.f39.ntmps [] LO39_16 from trivial)) i39_16 o39_16).congr fun x => (congrArg (fun T => loopF T x) (funext e39_16)).symm
noncomputable def C39 : Tab := []
theorem C39_ok : TabOK Try.prog C39 := trivial
noncomputable def LO39 : Tab := [(3, k39_3), (16, k39_16)]
noncomputable def i39 : Tm := { sl := [(0, .v (.l (.i .u8)))], bx := [], bf := [] }
noncomputable def o39 : OT := (.ret { sl := [(0, .v (.i .u32))], bx := [], bf := [] })
noncomputable def F39 (a0 : (List Int)) : Option ((Int × Unit) × Unit × Unit) :=
  ((L39_3 a0 4294967295 0).bind fun y6 => ((L39_16 (iNot .u32 y6.1.1) 0 0).bind fun y7 => (some ((y7.1.1, ()), (), ()))))
noncomputable def c39 : Con := ⟨i39, o39, fun x => F39 x.1.1⟩
theorem e39 (x : i39.E) : vfn Try.prog C39 LO39 Try.f39 b39 i39 o39 x = F39 x.1.1 := by kernel_rfl
theorem c39_ok : Con.OK Try.prog 39 c39 := (fn_ok C39_ok Try.func39 body39 (loops_of (l := [l39_3, l39_16]) (by kernel_rfl) (show LoopsOK Try.prog Try.f39.ntmps [l39_3, l39_16] LO39 from ⟨k39_3_ok, k39_16_ok, trivial⟩)) i39 o39).congr fun x => (e39 x).symm
noncomputable def b85 : Code := (.seq (.region 0 (regOf Try.f85 0) false) (.seq (.region 1 (regOf Try.f85 1) false) .ret))
theorem body85 : Try.f85.body = some b85 := by kernel_rfl
noncomputable def C85 : Tab := []
theorem C85_ok : TabOK Try.prog C85 := trivial
noncomputable def LO85 : Tab := []
noncomputable def i85 : Tm := { sl := [(0, .v (.f .f64))], bx := [], bf := [] }
noncomputable def o85 : OT := (.ret { sl := [(0, .v .b)], bx := [], bf := [] })
noncomputable def F85 (a0 : Nat) : Option ((Bool × Unit) × Unit × Unit) :=
  (some ((((FloatKind.f64).format.order (a0) (a0) != some Ordering.eq), ()), (), ()))
noncomputable def c85 : Con := ⟨i85, o85, fun x => F85 x.1.1⟩
theorem e85 (x : i85.E) : vfn Try.prog C85 LO85 Try.f85 b85 i85 o85 x = F85 x.1.1 := by kernel_rfl
theorem c85_ok : Con.OK Try.prog 85 c85 := (fn_ok C85_ok Try.func85 body85 (loops_of (l := []) (by kernel_rfl) (show LoopsOK Try.prog Try.f85.ntmps [] LO85 from trivial)) i85 o85).congr fun x => (e85 x).symm
noncomputable def b95 : Code := (.seq (.region 0 (regOf Try.f95 0) false) (.seq (.region 1 (regOf Try.f95 1) false) .ret))
theorem body95 : Try.f95.body = some b95 := by kernel_rfl
noncomputable def C95 : Tab := []
theorem C95_ok : TabOK Try.prog C95 := trivial
noncomputable def LO95 : Tab := []
noncomputable def i95 : Tm := { sl := [(0, .v (.f .f64))], bx := [], bf := [] }
noncomputable def o95 : OT := (.ret { sl := [(0, .v .b)], bx := [], bf := [] })
noncomputable def F95 (a0 : Nat) : Option ((Bool × Unit) × Unit × Unit) :=
  (some ((((FloatKind.f64).format.order (a0) (a0) != some Ordering.eq), ()), (), ()))
noncomputable def c95 : Con := ⟨i95, o95, fun x => F95 x.1.1⟩
theorem e95 (x : i95.E) : vfn Try.prog C95 LO95 Try.f95 b95 i95 o95 x = F95 x.1.1 := by kernel_rfl
theorem c95_ok : Con.OK Try.prog 95 c95 := (fn_ok C95_ok Try.func95 body95 (loops_of (l := []) (by kernel_rfl) (show LoopsOK Try.prog Try.f95.ntmps [] LO95 from trivial)) i95 o95).congr fun x => (e95 x).symm
noncomputable def l51_1 : Code := (.seq (.seq (.region 1 (regOf Try.f51 1) false) (.cond (.tmp 6) .skip (.exit 0))) (.seq (.block 1 (.region 3 (regOf Try.f51 3) false)) (.region 2 (regOf Try.f51 2) false)))
noncomputable def b51 : Code := (.seq (.region 0 (regOf Try.f51 0) false) (.seq (.block 0 (.loop l51_1)) (.seq (.region 4 (regOf Try.f51 4) false) .ret)))
theorem body51 : Try.f51.body = some b51 := by kernel_rfl
noncomputable def C51_1 : Tab := []
theorem C51_1_ok : TabOK Try.prog C51_1 := trivial
noncomputable def LO51_1 : Tab := []
noncomputable def i51_1 : Tm := { sl := [(0, .o 0), (1, .v (.i .u64))], bx := [], bf := [(.i .u8)] }
noncomputable def o51_1 : OT := (.exit 0 { sl := [(0, .o 0), (1, .v (.i .u64))], bx := [], bf := [(.i .u8)] })
noncomputable def T51_1 (a1 : Int) (q0 : (List Int)) : Option (((Unit × (Int × Unit)) × Unit × ((List Int) × Unit)) ⊕ ((Unit × (Int × Unit)) × Unit × ((List Int) × Unit))) :=
  (bif (decide ((a1 : Int) ≥ 128)) then (bif (decide ((q0).length + ([(iOr .u8 (IntKind.wrap .u8 a1) 128)]).length < lim)) then (some (.inl (((), (iShr .u64 a1 7), ()), (), ((q0 ++ [(iOr .u8 (IntKind.wrap .u8 a1) 128)]), ())))) else none) else (some (.inr (((), a1, ()), (), (q0, ())))))
noncomputable def L51_1 (a1 : Int) (q0 : (List Int)) : Option ((Unit × (Int × Unit)) × Unit × ((List Int) × Unit)) := loopF (fun x : ((Unit × (Int × Unit)) × Unit × ((List Int) × Unit)) => T51_1 x.1.2.1 x.2.2.1) (((), a1, ()), (), (q0, ()))
theorem L51_1_eq (a1 : Int) (q0 : (List Int)) : L51_1 a1 q0 = (T51_1 a1 q0).bind (Sum.elim (fun x => L51_1 x.1.2.1 x.2.2.1) some) := loopF_eq _ _
noncomputable def k51_1 : Con := ⟨i51_1, o51_1, fun x => L51_1 x.1.2.1 x.2.2.1⟩
theorem e51_1 (x : i51_1.E) : vround Try.prog C51_1 LO51_1 Try.f51.ntmps l51_1 i51_1 o51_1 x = T51_1 x.1.2.1 x.2.2.1 := by kernel_rfl
theorem k51_1_ok : Con.LOK Try.prog Try.f51.ntmps l51_1 k51_1 := (loop_ok C51_1_ok (loops_of (l := []) (by kernel_rfl) (show LoopsOK Try.prog Try.f51.ntmps [] LO51_1 from trivial)) i51_1 o51_1).congr fun x => (congrArg (fun T => loopF T x) (funext e51_1)).symm
noncomputable def C51 : Tab := []
theorem C51_ok : TabOK Try.prog C51 := trivial
noncomputable def LO51 : Tab := [(1, k51_1)]
noncomputable def i51 : Tm := { sl := [(0, .o 0), (1, .v (.i .u64))], bx := [], bf := [(.i .u8)] }
noncomputable def o51 : OT := (.ret { sl := [(0, .o 0)], bx := [], bf := [(.i .u8)] })
noncomputable def F51 (a1 : Int) (q0 : (List Int)) : Option ((Unit × Unit) × Unit × ((List Int) × Unit)) :=
  ((L51_1 a1 q0).bind fun y8 => (bif (decide ((y8.2.2.1).length + ([(IntKind.wrap .u8 y8.1.2.1)]).length < lim)) then (some (((), ()), (), ((y8.2.2.1 ++ [(IntKind.wrap .u8 y8.1.2.1)]), ()))) else none))
noncomputable def c51 : Con := ⟨i51, o51, fun x => F51 x.1.2.1 x.2.2.1⟩
theorem e51 (x : i51.E) : vfn Try.prog C51 LO51 Try.f51 b51 i51 o51 x = F51 x.1.2.1 x.2.2.1 := by kernel_rfl
theorem c51_ok : Con.OK Try.prog 51 c51 := (fn_ok C51_ok Try.func51 body51 (loops_of (l := [l51_1]) (by kernel_rfl) (show LoopsOK Try.prog Try.f51.ntmps [l51_1] LO51 from ⟨k51_1_ok, trivial⟩)) i51 o51).congr fun x => (e51 x).symm
noncomputable def b52 : Code := (.seq (.region 0 (regOf Try.f52 0) false) (.seq (.region 1 (regOf Try.f52 1) false) .ret))
theorem body52 : Try.f52.body = some b52 := by kernel_rfl
noncomputable def C52 : Tab := [(51, c51)]
theorem C52_ok : TabOK Try.prog C52 := ⟨c51_ok, trivial⟩
noncomputable def LO52 : Tab := []
noncomputable def i52 : Tm := { sl := [(0, .o 0), (1, .v (.l (.i .u8)))], bx := [], bf := [(.i .u8)] }
noncomputable def o52 : OT := (.ret { sl := [(0, .o 0)], bx := [], bf := [(.i .u8)] })
noncomputable def F52 (a1 : (List Int)) (q0 : (List Int)) : Option ((Unit × Unit) × Unit × ((List Int) × Unit)) :=
  ((F51 (IntKind.wrap .u64 (((a1).length : Nat) : Int)) q0).bind fun y9 => (bif (decide ((y9.2.2.1).length + (a1).length < lim)) then (some (((), ()), (), ((y9.2.2.1 ++ a1), ()))) else none))
noncomputable def c52 : Con := ⟨i52, o52, fun x => F52 x.1.2.1 x.2.2.1⟩
theorem e52 (x : i52.E) : vfn Try.prog C52 LO52 Try.f52 b52 i52 o52 x = F52 x.1.2.1 x.2.2.1 := by kernel_rfl
theorem c52_ok : Con.OK Try.prog 52 c52 := (fn_ok C52_ok Try.func52 body52 (loops_of (l := []) (by kernel_rfl) (show LoopsOK Try.prog Try.f52.ntmps [] LO52 from trivial)) i52 o52).congr fun x => (e52 x).symm
noncomputable def l83_2 : Code := (.seq (.seq (.region 2 (regOf Try.f83 2) false) (.cond (.tmp 7) .skip (.exit 0))) (.seq (.block 1 (.region 4 (regOf Try.f83 4) false)) (.region 3 (regOf Try.f83 3) false)))
noncomputable def b83 : Code := (.seq (.region 0 (regOf Try.f83 0) false) (.seq (.seq (.region 1 (regOf Try.f83 1) false) (.block 0 (.loop l83_2))) (.seq (.region 5 (regOf Try.f83 5) false) .ret)))
theorem body83 : Try.f83.body = some b83 := by kernel_rfl
noncomputable def C83_2 : Tab := []
theorem C83_2_ok : TabOK Try.prog C83_2 := trivial
noncomputable def LO83_2 : Tab := []
noncomputable def i83_2 : Tm := { sl := [(0, .o 0), (1, .v (.i .u64)), (5, .v (.i .i64))], bx := [], bf := [(.i .u8)] }
noncomputable def o83_2 : OT := (.exit 0 { sl := [(0, .o 0)], bx := [], bf := [(.i .u8)] })
noncomputable def T83_2 (a1 : Int) (a5 : Int) (q0 : (List Int)) : Option (((Unit × (Int × (Int × Unit))) × Unit × ((List Int) × Unit)) ⊕ ((Unit × Unit) × Unit × ((List Int) × Unit))) :=
  (bif (decide ((a5 : Int) ≥ 0)) then (bif (decide ((0 : Int) ≤ (IntKind.wrap .i64 (8 * a5)))) then (bif (decide ((q0).length + ([(IntKind.wrap .u8 (iShr .u64 a1 (IntKind.wrap .i64 (8 * a5))))]).length < lim)) then (some (.inl (((), a1, (IntKind.wrap .i64 (a5 - 1)), ()), (), ((q0 ++ [(IntKind.wrap .u8 (iShr .u64 a1 (IntKind.wrap .i64 (8 * a5))))]), ())))) else none) else none) else (some (.inr (((), ()), (), (q0, ())))))
noncomputable def L83_2 (a1 : Int) (a5 : Int) (q0 : (List Int)) : Option ((Unit × Unit) × Unit × ((List Int) × Unit)) := loopF (fun x : ((Unit × (Int × (Int × Unit))) × Unit × ((List Int) × Unit)) => T83_2 x.1.2.1 x.1.2.2.1 x.2.2.1) (((), a1, a5, ()), (), (q0, ()))
theorem L83_2_eq (a1 : Int) (a5 : Int) (q0 : (List Int)) : L83_2 a1 a5 q0 = (T83_2 a1 a5 q0).bind (Sum.elim (fun x => L83_2 x.1.2.1 x.1.2.2.1 x.2.2.1) some) := loopF_eq _ _
noncomputable def k83_2 : Con := ⟨i83_2, o83_2, fun x => L83_2 x.1.2.1 x.1.2.2.1 x.2.2.1⟩
theorem e83_2 (x : i83_2.E) : vround Try.prog C83_2 LO83_2 Try.f83.ntmps l83_2 i83_2 o83_2 x = T83_2 x.1.2.1 x.1.2.2.1 x.2.2.1 := by kernel_rfl
theorem k83_2_ok : Con.LOK Try.prog Try.f83.ntmps l83_2 k83_2 := (loop_ok C83_2_ok (loops_of (l := []) (by kernel_rfl) (show LoopsOK Try.prog Try.f83.ntmps [] LO83_2 from trivial)) i83_2 o83_2).congr fun x => (congrArg (fun T => loopF T x) (funext e83_2)).symm
noncomputable def C83 : Tab := []
theorem C83_ok : TabOK Try.prog C83 := trivial
noncomputable def LO83 : Tab := [(2, k83_2)]
noncomputable def i83 : Tm := { sl := [(0, .o 0), (1, .v (.i .u64))], bx := [], bf := [(.i .u8)] }
noncomputable def o83 : OT := (.ret { sl := [(0, .o 0)], bx := [], bf := [(.i .u8)] })
noncomputable def F83 (a1 : Int) (q0 : (List Int)) : Option ((Unit × Unit) × Unit × ((List Int) × Unit)) :=
  ((L83_2 a1 7 q0).bind fun y10 => (some (((), ()), (), (y10.2.2.1, ()))))
noncomputable def c83 : Con := ⟨i83, o83, fun x => F83 x.1.2.1 x.2.2.1⟩
theorem e83 (x : i83.E) : vfn Try.prog C83 LO83 Try.f83 b83 i83 o83 x = F83 x.1.2.1 x.2.2.1 := by kernel_rfl
theorem c83_ok : Con.OK Try.prog 83 c83 := (fn_ok C83_ok Try.func83 body83 (loops_of (l := [l83_2]) (by kernel_rfl) (show LoopsOK Try.prog Try.f83.ntmps [l83_2] LO83 from ⟨k83_2_ok, trivial⟩)) i83 o83).congr fun x => (e83 x).symm
noncomputable def l26_3 : Code := (.seq (.seq (.region 3 (regOf Try.f26 3) false) (.cond (.tmp 10) .skip (.exit 0))) (.block 1 (.seq (.region 4 (regOf Try.f26 4) false) (.region 5 (regOf Try.f26 5) false))))
noncomputable def b26 : Code := (.seq (.region 0 (regOf Try.f26 0) false) (.seq (.region 1 (regOf Try.f26 1) false) (.seq (.region 2 (regOf Try.f26 2) false) (.seq (.block 0 (.loop l26_3)) (.seq (.region 6 (regOf Try.f26 6) false) .ret)))))
theorem body26 : Try.f26.body = some b26 := by kernel_rfl
noncomputable def C26_3 : Tab := []
theorem C26_3_ok : TabOK Try.prog C26_3 := trivial
noncomputable def LO26_3 : Tab := []
noncomputable def i26_3 : Tm := { sl := [(1, .v (.i .u64)), (5, .o 0)], bx := [], bf := [(.i .u8)] }
noncomputable def o26_3 : OT := (.exit 0 { sl := [(1, .v (.i .u64)), (5, .o 0)], bx := [], bf := [(.i .u8)] })
noncomputable def T26_3 (a1 : Int) (q0 : (List Int)) : Option (((Int × (Unit × Unit)) × Unit × ((List Int) × Unit)) ⊕ ((Int × (Unit × Unit)) × Unit × ((List Int) × Unit))) :=
  (bif (decide ((a1 : Int) > 127)) then (bif (decide ((q0).length + ([(IntKind.wrap .u8 (IntKind.wrap .u64 (128 + ((a1 : Int).tmod 128))))]).length < lim)) then (some (.inl (((IntKind.wrap .u64 ((a1 : Int).tdiv 128)), (), ()), (), ((q0 ++ [(IntKind.wrap .u8 (IntKind.wrap .u64 (128 + ((a1 : Int).tmod 128))))]), ())))) else none) else (some (.inr ((a1, (), ()), (), (q0, ())))))
noncomputable def L26_3 (a1 : Int) (q0 : (List Int)) : Option ((Int × (Unit × Unit)) × Unit × ((List Int) × Unit)) := loopF (fun x : ((Int × (Unit × Unit)) × Unit × ((List Int) × Unit)) => T26_3 x.1.1 x.2.2.1) ((a1, (), ()), (), (q0, ()))
theorem L26_3_eq (a1 : Int) (q0 : (List Int)) : L26_3 a1 q0 = (T26_3 a1 q0).bind (Sum.elim (fun x => L26_3 x.1.1 x.2.2.1) some) := loopF_eq _ _
noncomputable def k26_3 : Con := ⟨i26_3, o26_3, fun x => L26_3 x.1.1 x.2.2.1⟩
theorem e26_3 (x : i26_3.E) : vround Try.prog C26_3 LO26_3 Try.f26.ntmps l26_3 i26_3 o26_3 x = T26_3 x.1.1 x.2.2.1 := by kernel_rfl
theorem k26_3_ok : Con.LOK Try.prog Try.f26.ntmps l26_3 k26_3 := (loop_ok C26_3_ok (loops_of (l := []) (by kernel_rfl) (show LoopsOK Try.prog Try.f26.ntmps [] LO26_3 from trivial)) i26_3 o26_3).congr fun x => (congrArg (fun T => loopF T x) (funext e26_3)).symm
noncomputable def C26 : Tab := []
theorem C26_ok : TabOK Try.prog C26 := trivial
noncomputable def LO26 : Tab := [(3, k26_3)]
noncomputable def i26 : Tm := { sl := [(0, .v (.l (.i .u8))), (1, .v (.i .u64))], bx := [], bf := [] }
noncomputable def o26 : OT := (.ret { sl := [(0, .o 0)], bx := [], bf := [(.i .u8)] })
noncomputable def F26 (a0 : (List Int)) (a1 : Int) : Option ((Unit × Unit) × Unit × ((List Int) × Unit)) :=
  (bif (decide ((a0).length < lim)) then ((L26_3 a1 a0).bind fun y11 => (bif (decide ((y11.2.2.1).length + ([(IntKind.wrap .u8 y11.1.1)]).length < lim)) then (some (((), ()), (), ((y11.2.2.1 ++ [(IntKind.wrap .u8 y11.1.1)]), ()))) else none)) else none)
noncomputable def c26 : Con := ⟨i26, o26, fun x => F26 x.1.1 x.1.2.1⟩
theorem e26 (x : i26.E) : vfn Try.prog C26 LO26 Try.f26 b26 i26 o26 x = F26 x.1.1 x.1.2.1 := by kernel_rfl
theorem c26_ok : Con.OK Try.prog 26 c26 := (fn_ok C26_ok Try.func26 body26 (loops_of (l := [l26_3]) (by kernel_rfl) (show LoopsOK Try.prog Try.f26.ntmps [l26_3] LO26 from ⟨k26_3_ok, trivial⟩)) i26 o26).congr fun x => (e26 x).symm
noncomputable def b27 : Code := (.seq (.region 0 (regOf Try.f27 0) false) (.seq (.region 1 (regOf Try.f27 1) false) .ret))
theorem body27 : Try.f27.body = some b27 := by kernel_rfl
noncomputable def C27 : Tab := [(26, c26)]
theorem C27_ok : TabOK Try.prog C27 := ⟨c26_ok, trivial⟩
noncomputable def LO27 : Tab := []
noncomputable def i27 : Tm := { sl := [(0, .v (.l (.i .u8))), (1, .v (.l (.i .u8)))], bx := [], bf := [] }
noncomputable def o27 : OT := (.ret { sl := [(0, .o 0)], bx := [], bf := [(.i .u8)] })
noncomputable def F27 (a0 : (List Int)) (a1 : (List Int)) : Option ((Unit × Unit) × Unit × ((List Int) × Unit)) :=
  ((F26 a0 (IntKind.wrap .u64 (((a1).length : Nat) : Int))).bind fun y12 => (bif (decide ((y12.2.2.1).length + (a1).length < lim)) then (some (((), ()), (), ((y12.2.2.1 ++ a1), ()))) else none))
noncomputable def c27 : Con := ⟨i27, o27, fun x => F27 x.1.1 x.1.2.1⟩
theorem e27 (x : i27.E) : vfn Try.prog C27 LO27 Try.f27 b27 i27 o27 x = F27 x.1.1 x.1.2.1 := by kernel_rfl
theorem c27_ok : Con.OK Try.prog 27 c27 := (fn_ok C27_ok Try.func27 body27 (loops_of (l := []) (by kernel_rfl) (show LoopsOK Try.prog Try.f27.ntmps [] LO27 from trivial)) i27 o27).congr fun x => (e27 x).symm
noncomputable def b68 : Code := (.seq (.region 0 (regOf Try.f68 0) false) (.seq (.seq (.region 1 (regOf Try.f68 1) false) (.cond (.tmp 4) (.seq (.region 2 (regOf Try.f68 2) false) .ret) .skip)) (.seq (.region 3 (regOf Try.f68 3) false) .ret)))
theorem body68 : Try.f68.body = some b68 := by kernel_rfl
noncomputable def C68 : Tab := [(85, c85)]
theorem C68_ok : TabOK Try.prog C68 := ⟨c85_ok, trivial⟩
noncomputable def LO68 : Tab := []
noncomputable def i68 : Tm := { sl := [(0, .v (.f .f64))], bx := [], bf := [] }
noncomputable def o68 : OT := (.ret { sl := [(0, .v (.i .u64))], bx := [], bf := [] })
noncomputable def F68 (a0 : Nat) : Option ((Int × Unit) × Unit × Unit) :=
  ((F85 a0).bind fun y13 => (bif y13.1.1 then (some ((9221120237041090561, ()), (), ())) else (some (((((a0) : Nat) : Int), ()), (), ()))))
noncomputable def c68 : Con := ⟨i68, o68, fun x => F68 x.1.1⟩
theorem e68 (x : i68.E) : vfn Try.prog C68 LO68 Try.f68 b68 i68 o68 x = F68 x.1.1 := by kernel_rfl
theorem c68_ok : Con.OK Try.prog 68 c68 := (fn_ok C68_ok Try.func68 body68 (loops_of (l := []) (by kernel_rfl) (show LoopsOK Try.prog Try.f68.ntmps [] LO68 from trivial)) i68 o68).congr fun x => (e68 x).symm
noncomputable def l67_4 : Code := (.seq (.seq (.region 4 (regOf Try.f67 4) false) (.cond (.tmp 11) .skip (.exit 0))) (.seq (.block 1 (.region 6 (regOf Try.f67 6) false)) (.region 5 (regOf Try.f67 5) false)))
noncomputable def b67 : Code := (.seq (.region 0 (regOf Try.f67 0) false) (.seq (.region 1 (regOf Try.f67 1) false) (.seq (.region 2 (regOf Try.f67 2) false) (.seq (.seq (.region 3 (regOf Try.f67 3) false) (.block 0 (.loop l67_4))) (.seq (.region 7 (regOf Try.f67 7) false) .ret)))))
theorem body67 : Try.f67.body = some b67 := by kernel_rfl
noncomputable def C67_4 : Tab := []
theorem C67_4_ok : TabOK Try.prog C67_4 := trivial
noncomputable def LO67_4 : Tab := []
noncomputable def i67_4 : Tm := { sl := [(1, .v (.i .u64)), (5, .o 0), (6, .v (.i .i64))], bx := [], bf := [(.i .u8)] }
noncomputable def o67_4 : OT := (.exit 0 { sl := [(5, .o 0)], bx := [], bf := [(.i .u8)] })
noncomputable def T67_4 (a1 : Int) (a6 : Int) (q0 : (List Int)) : Option (((Int × (Unit × (Int × Unit))) × Unit × ((List Int) × Unit)) ⊕ ((Unit × Unit) × Unit × ((List Int) × Unit))) :=
  (bif (decide ((a6 : Int) < 8)) then (bif (decide ((0 : Int) ≤ (IntKind.wrap .i64 (56 - (IntKind.wrap .i64 (8 * a6)))))) then (bif (decide ((q0).length + ([(IntKind.wrap .u8 (iShr .u64 a1 (IntKind.wrap .i64 (56 - (IntKind.wrap .i64 (8 * a6))))))]).length < lim)) then (some (.inl ((a1, (), (IntKind.wrap .i64 (a6 + 1)), ()), (), ((q0 ++ [(IntKind.wrap .u8 (iShr .u64 a1 (IntKind.wrap .i64 (56 - (IntKind.wrap .i64 (8 * a6))))))]), ())))) else none) else none) else (some (.inr (((), ()), (), (q0, ())))))
noncomputable def L67_4 (a1 : Int) (a6 : Int) (q0 : (List Int)) : Option ((Unit × Unit) × Unit × ((List Int) × Unit)) := loopF (fun x : ((Int × (Unit × (Int × Unit))) × Unit × ((List Int) × Unit)) => T67_4 x.1.1 x.1.2.2.1 x.2.2.1) ((a1, (), a6, ()), (), (q0, ()))
theorem L67_4_eq (a1 : Int) (a6 : Int) (q0 : (List Int)) : L67_4 a1 a6 q0 = (T67_4 a1 a6 q0).bind (Sum.elim (fun x => L67_4 x.1.1 x.1.2.2.1 x.2.2.1) some) := loopF_eq _ _
noncomputable def k67_4 : Con := ⟨i67_4, o67_4, fun x => L67_4 x.1.1 x.1.2.2.1 x.2.2.1⟩
theorem e67_4 (x : i67_4.E) : vround Try.prog C67_4 LO67_4 Try.f67.ntmps l67_4 i67_4 o67_4 x = T67_4 x.1.1 x.1.2.2.1 x.2.2.1 := by kernel_rfl
theorem k67_4_ok : Con.LOK Try.prog Try.f67.ntmps l67_4 k67_4 := (loop_ok C67_4_ok (loops_of (l := []) (by kernel_rfl) (show LoopsOK Try.prog Try.f67.ntmps [] LO67_4 from trivial)) i67_4 o67_4).congr fun x => (congrArg (fun T => loopF T x) (funext e67_4)).symm
noncomputable def C67 : Tab := []
theorem C67_ok : TabOK Try.prog C67 := trivial
noncomputable def LO67 : Tab := [(4, k67_4)]
noncomputable def i67 : Tm := { sl := [(0, .v (.l (.i .u8))), (1, .v (.i .u64))], bx := [], bf := [] }
noncomputable def o67 : OT := (.ret { sl := [(0, .o 0)], bx := [], bf := [(.i .u8)] })
noncomputable def F67 (a0 : (List Int)) (a1 : Int) : Option ((Unit × Unit) × Unit × ((List Int) × Unit)) :=
  (bif (decide ((a0).length < lim)) then ((L67_4 a1 0 a0).bind fun y14 => (some (((), ()), (), (y14.2.2.1, ())))) else none)
noncomputable def c67 : Con := ⟨i67, o67, fun x => F67 x.1.1 x.1.2.1⟩
theorem e67 (x : i67.E) : vfn Try.prog C67 LO67 Try.f67 b67 i67 o67 x = F67 x.1.1 x.1.2.1 := by kernel_rfl
theorem c67_ok : Con.OK Try.prog 67 c67 := (fn_ok C67_ok Try.func67 body67 (loops_of (l := [l67_4]) (by kernel_rfl) (show LoopsOK Try.prog Try.f67.ntmps [l67_4] LO67 from ⟨k67_4_ok, trivial⟩)) i67 o67).congr fun x => (e67 x).symm
noncomputable def b71 : Code := (.seq (.region 0 (regOf Try.f71 0) false) (.seq (.region 1 (regOf Try.f71 1) false) .ret))
theorem body71 : Try.f71.body = some b71 := by kernel_rfl
noncomputable def C71 : Tab := []
theorem C71_ok : TabOK Try.prog C71 := trivial
noncomputable def LO71 : Tab := []
noncomputable def i71 : Tm := { sl := [(0, .v (.i .u32))], bx := [], bf := [] }
noncomputable def o71 : OT := (.ret { sl := [(0, .v (.l (.i .u8)))], bx := [], bf := [] })
noncomputable def F71 (a0 : Int) : Option (((List Int) × Unit) × Unit × Unit) :=
  (some (([(IntKind.wrap .u8 (iShr .u32 a0 24)), (IntKind.wrap .u8 (iShr .u32 a0 16)), (IntKind.wrap .u8 (iShr .u32 a0 8)), (IntKind.wrap .u8 a0)], ()), (), ()))
noncomputable def c71 : Con := ⟨i71, o71, fun x => F71 x.1.1⟩
theorem e71 (x : i71.E) : vfn Try.prog C71 LO71 Try.f71 b71 i71 o71 x = F71 x.1.1 := by kernel_rfl
theorem c71_ok : Con.OK Try.prog 71 c71 := (fn_ok C71_ok Try.func71 body71 (loops_of (l := []) (by kernel_rfl) (show LoopsOK Try.prog Try.f71.ntmps [] LO71 from trivial)) i71 o71).congr fun x => (e71 x).symm
noncomputable def b49 : Code := (.seq (.region 0 (regOf Try.f49 0) false) (.seq (.region 1 (regOf Try.f49 1) false) (.seq (.region 2 (regOf Try.f49 2) false) .ret)))
theorem body49 : Try.f49.body = some b49 := by kernel_rfl
noncomputable def C49 : Tab := [(52, c52), (71, c71), (72, c72)]
theorem C49_ok : TabOK Try.prog C49 := ⟨c52_ok, c71_ok, c72_ok, trivial⟩
noncomputable def LO49 : Tab := []
noncomputable def i49 : Tm := { sl := [(0, .v (.l (.i .u8)))], bx := [], bf := [] }
noncomputable def o49 : OT := (.ret { sl := [(0, .o 0)], bx := [], bf := [(.i .u8)] })
noncomputable def F49 (a0 : (List Int)) : Option ((Unit × Unit) × Unit × ((List Int) × Unit)) :=
  ((F52 a0 ([] : List Int)).bind fun y15 => ((F72 y15.2.2.1).bind fun y16 => ((F71 y16.1.1).bind fun y17 => (bif (decide ((y15.2.2.1).length + (y17.1.1).length < lim)) then (some (((), ()), (), ((y15.2.2.1 ++ y17.1.1), ()))) else none))))
noncomputable def c49 : Con := ⟨i49, o49, fun x => F49 x.1.1⟩
theorem e49 (x : i49.E) : vfn Try.prog C49 LO49 Try.f49 b49 i49 o49 x = F49 x.1.1 := by kernel_rfl
theorem c49_ok : Con.OK Try.prog 49 c49 := (fn_ok C49_ok Try.func49 body49 (loops_of (l := []) (by kernel_rfl) (show LoopsOK Try.prog Try.f49.ntmps [] LO49 from trivial)) i49 o49).congr fun x => (e49 x).symm
noncomputable def b13 : Code := (.seq (.region 0 (regOf Try.f13 0) false) (.seq (.region 1 (regOf Try.f13 1) false) (.seq (.region 2 (regOf Try.f13 2) false) (.seq (.region 3 (regOf Try.f13 3) false) .ret))))
theorem body13 : Try.f13.body = some b13 := by kernel_rfl
noncomputable def C13 : Tab := [(27, c27), (39, c39)]
theorem C13_ok : TabOK Try.prog C13 := ⟨c27_ok, c39_ok, trivial⟩
noncomputable def LO13 : Tab := []
noncomputable def i13 : Tm := { sl := [(0, .v (.l (.i .u8)))], bx := [], bf := [] }
noncomputable def o13 : OT := (.ret { sl := [(0, .o 0)], bx := [], bf := [(.i .u8)] })
noncomputable def F13 (a0 : (List Int)) : Option ((Unit × Unit) × Unit × ((List Int) × Unit)) :=
  ((F27 ([] : List Int) a0).bind fun y18 => ((F39 y18.2.2.1).bind fun y19 => (bif (decide ((y18.2.2.1).length + ([(IntKind.wrap .u8 (iShr .u32 y19.1.1 24)), (IntKind.wrap .u8 (iShr .u32 y19.1.1 16)), (IntKind.wrap .u8 (iShr .u32 y19.1.1 8)), (IntKind.wrap .u8 y19.1.1)]).length < lim)) then (some (((), ()), (), ((y18.2.2.1 ++ [(IntKind.wrap .u8 (iShr .u32 y19.1.1 24)), (IntKind.wrap .u8 (iShr .u32 y19.1.1 16)), (IntKind.wrap .u8 (iShr .u32 y19.1.1 8)), (IntKind.wrap .u8 y19.1.1)]), ()))) else none)))
noncomputable def c13 : Con := ⟨i13, o13, fun x => F13 x.1.1⟩
theorem e13 (x : i13.E) : vfn Try.prog C13 LO13 Try.f13 b13 i13 o13 x = F13 x.1.1 := by kernel_rfl
theorem c13_ok : Con.OK Try.prog 13 c13 := (fn_ok C13_ok Try.func13 body13 (loops_of (l := []) (by kernel_rfl) (show LoopsOK Try.prog Try.f13.ntmps [] LO13 from trivial)) i13 o13).congr fun x => (e13 x).symm
noncomputable def l80_3 : Code := (.seq (.region 3 (regOf Try.f80 3) false) (.seq (.cond (.tmp 11) .skip (.exit 0)) (.seq (.block 1 (.seq (.region 4 (regOf Try.f80 4) false) (.seq (.block 2 (.seq (.seq (.region 5 (regOf Try.f80 5) false) (.cond (.tmp 15) .skip (.region 6 (regOf Try.f80 6) false))) (.cond (.tmp 15) (.seq (.region 7 (regOf Try.f80 7) false) .ret) .skip))) (.seq (.region 8 (regOf Try.f80 8) false) (.seq (.region 9 (regOf Try.f80 9) false) (.cond (.tmp 38) (.seq (.region 10 (regOf Try.f80 10) true) .ret) .skip)))))) (.region 11 (regOf Try.f80 11) false))))
noncomputable def b80 : Code := (.seq (.region 0 (regOf Try.f80 0) false) (.seq (.region 1 (regOf Try.f80 1) false) (.seq (.seq (.region 2 (regOf Try.f80 2) false) (.block 0 (.loop l80_3))) (.seq (.region 12 (regOf Try.f80 12) false) .ret))))
theorem body80 : Try.f80.body = some b80 := by kernel_rfl
noncomputable def C80_3 : Tab := []
theorem C80_3_ok : TabOK Try.prog C80_3 := trivial
noncomputable def LO80_3 : Tab := []
noncomputable def i80_3 : Tm := { sl := [(0, .v (.l (.i .u8))), (5, .v (.i .u64)), (8, .v (.l (.i .u8))), (9, .v (.i .i64)), (10, .v (.i .i64))], bx := [], bf := [] }
noncomputable def o80_3 : OT := (.two (.ret { sl := [(2, .v (.i .u64)), (3, .v (.l (.i .u8))), (4, .v (.i .i64))], bx := [], bf := [] }) (.exit 0 { sl := [], bx := [], bf := [] }))
noncomputable def T80_3 (a0 : (List Int)) (a5 : Int) (a8 : (List Int)) (a9 : Int) (a10 : Int) : Option ((((List Int) × (Int × ((List Int) × (Int × (Int × Unit))))) × Unit × Unit) ⊕ ((DRw × Unit × Unit) ⊕ (Unit × Unit × Unit))) :=
  (bif (decide ((a10 : Int) < a9)) then (bif (decide (0 ≤ (a10 : Int) ∧ (a10 : Int) < (((a8).length : Nat) : Int))) then (bif ((a10 : Int) == 9) then (bif (decide ((((a8).getD (a10 : Int).toNat (0 : Int)) : Int) > 1)) then (some (.inr (.inl ((0, a0, 4, ()), (), ())))) else (bif (decide ((a10 : Int) > 0)) then (bif ((((a8).getD (a10 : Int).toNat (0 : Int)) : Int) == 0) then (some (.inr (.inl ((0, a0, 4, ()), (), ())))) else (bif (decide ((0 : Int) ≤ (IntKind.wrap .i64 (7 * a10)))) then (bif (decide ((((a8).getD (a10 : Int).toNat (0 : Int)) : Int) < 128)) then (bif (decide (0 ≤ ((IntKind.wrap .i64 (a10 + 1)) : Int) ∧ ((IntKind.wrap .i64 (a10 + 1)) : Int) ≤ (((a0).length : Nat) : Int))) then (some (.inr (.inl (((iOr .u64 a5 (iShl .u64 (IntKind.wrap .u64 (iAnd .u8 ((a8).getD (a10 : Int).toNat (0 : Int)) 127)) (IntKind.wrap .i64 (7 * a10)))), ((a0).drop ((IntKind.wrap .i64 (a10 + 1)) : Int).toNat), 0, ()), (), ())))) else none) else (some (.inl ((a0, (iOr .u64 a5 (iShl .u64 (IntKind.wrap .u64 (iAnd .u8 ((a8).getD (a10 : Int).toNat (0 : Int)) 127)) (IntKind.wrap .i64 (7 * a10)))), a8, a9, (IntKind.wrap .i64 (a10 + 1)), ()), (), ())))) else none)) else (bif (decide ((0 : Int) ≤ (IntKind.wrap .i64 (7 * a10)))) then (bif (decide ((((a8).getD (a10 : Int).toNat (0 : Int)) : Int) < 128)) then (bif (decide (0 ≤ ((IntKind.wrap .i64 (a10 + 1)) : Int) ∧ ((IntKind.wrap .i64 (a10 + 1)) : Int) ≤ (((a0).length : Nat) : Int))) then (some (.inr (.inl (((iOr .u64 a5 (iShl .u64 (IntKind.wrap .u64 (iAnd .u8 ((a8).getD (a10 : Int).toNat (0 : Int)) 127)) (IntKind.wrap .i64 (7 * a10)))), ((a0).drop ((IntKind.wrap .i64 (a10 + 1)) : Int).toNat), 0, ()), (), ())))) else none) else (some (.inl ((a0, (iOr .u64 a5 (iShl .u64 (IntKind.wrap .u64 (iAnd .u8 ((a8).getD (a10 : Int).toNat (0 : Int)) 127)) (IntKind.wrap .i64 (7 * a10)))), a8, a9, (IntKind.wrap .i64 (a10 + 1)), ()), (), ())))) else none))) else (bif (decide ((a10 : Int) > 0)) then (bif ((((a8).getD (a10 : Int).toNat (0 : Int)) : Int) == 0) then (some (.inr (.inl ((0, a0, 4, ()), (), ())))) else (bif (decide ((0 : Int) ≤ (IntKind.wrap .i64 (7 * a10)))) then (bif (decide ((((a8).getD (a10 : Int).toNat (0 : Int)) : Int) < 128)) then (bif (decide (0 ≤ ((IntKind.wrap .i64 (a10 + 1)) : Int) ∧ ((IntKind.wrap .i64 (a10 + 1)) : Int) ≤ (((a0).length : Nat) : Int))) then (some (.inr (.inl (((iOr .u64 a5 (iShl .u64 (IntKind.wrap .u64 (iAnd .u8 ((a8).getD (a10 : Int).toNat (0 : Int)) 127)) (IntKind.wrap .i64 (7 * a10)))), ((a0).drop ((IntKind.wrap .i64 (a10 + 1)) : Int).toNat), 0, ()), (), ())))) else none) else (some (.inl ((a0, (iOr .u64 a5 (iShl .u64 (IntKind.wrap .u64 (iAnd .u8 ((a8).getD (a10 : Int).toNat (0 : Int)) 127)) (IntKind.wrap .i64 (7 * a10)))), a8, a9, (IntKind.wrap .i64 (a10 + 1)), ()), (), ())))) else none)) else (bif (decide ((0 : Int) ≤ (IntKind.wrap .i64 (7 * a10)))) then (bif (decide ((((a8).getD (a10 : Int).toNat (0 : Int)) : Int) < 128)) then (bif (decide (0 ≤ ((IntKind.wrap .i64 (a10 + 1)) : Int) ∧ ((IntKind.wrap .i64 (a10 + 1)) : Int) ≤ (((a0).length : Nat) : Int))) then (some (.inr (.inl (((iOr .u64 a5 (iShl .u64 (IntKind.wrap .u64 (iAnd .u8 ((a8).getD (a10 : Int).toNat (0 : Int)) 127)) (IntKind.wrap .i64 (7 * a10)))), ((a0).drop ((IntKind.wrap .i64 (a10 + 1)) : Int).toNat), 0, ()), (), ())))) else none) else (some (.inl ((a0, (iOr .u64 a5 (iShl .u64 (IntKind.wrap .u64 (iAnd .u8 ((a8).getD (a10 : Int).toNat (0 : Int)) 127)) (IntKind.wrap .i64 (7 * a10)))), a8, a9, (IntKind.wrap .i64 (a10 + 1)), ()), (), ())))) else none))) else none) else (some (.inr (.inr ((), (), ())))))
noncomputable def L80_3 (a0 : (List Int)) (a5 : Int) (a8 : (List Int)) (a9 : Int) (a10 : Int) : Option ((DRw × Unit × Unit) ⊕ (Unit × Unit × Unit)) := loopF (fun x : (((List Int) × (Int × ((List Int) × (Int × (Int × Unit))))) × Unit × Unit) => T80_3 x.1.1 x.1.2.1 x.1.2.2.1 x.1.2.2.2.1 x.1.2.2.2.2.1) ((a0, a5, a8, a9, a10, ()), (), ())
theorem L80_3_eq (a0 : (List Int)) (a5 : Int) (a8 : (List Int)) (a9 : Int) (a10 : Int) : L80_3 a0 a5 a8 a9 a10 = (T80_3 a0 a5 a8 a9 a10).bind (Sum.elim (fun x => L80_3 x.1.1 x.1.2.1 x.1.2.2.1 x.1.2.2.2.1 x.1.2.2.2.2.1) some) := loopF_eq _ _
noncomputable def k80_3 : Con := ⟨i80_3, o80_3, fun x => L80_3 x.1.1 x.1.2.1 x.1.2.2.1 x.1.2.2.2.1 x.1.2.2.2.2.1⟩
theorem e80_3 (x : i80_3.E) : vround Try.prog C80_3 LO80_3 Try.f80.ntmps l80_3 i80_3 o80_3 x = T80_3 x.1.1 x.1.2.1 x.1.2.2.1 x.1.2.2.2.1 x.1.2.2.2.2.1 := by kernel_rfl
theorem k80_3_ok : Con.LOK Try.prog Try.f80.ntmps l80_3 k80_3 := (loop_ok C80_3_ok (loops_of (l := []) (by kernel_rfl) (show LoopsOK Try.prog Try.f80.ntmps [] LO80_3 from trivial)) i80_3 o80_3).congr fun x => (congrArg (fun T => loopF T x) (funext e80_3)).symm
noncomputable def C80 : Tab := []
theorem C80_ok : TabOK Try.prog C80 := trivial
noncomputable def LO80 : Tab := [(3, k80_3)]
noncomputable def i80 : Tm := { sl := [(0, .v (.l (.i .u8)))], bx := [], bf := [] }
noncomputable def o80 : OT := (.ret { sl := [(0, .v (.i .u64)), (1, .v (.l (.i .u8))), (2, .v (.i .i64))], bx := [], bf := [] })
noncomputable def F80 (a0 : (List Int)) : Option (DRw × Unit × Unit) :=
  ((L80_3 a0 0 a0 (((a0).length : Nat) : Int) 0).bind fun y20 => (Sum.elim (fun y21 => (some ((y21.1.1, y21.1.2.1, y21.1.2.2.1, ()), (), ()))) (fun y21 => (some ((0, a0, 5, ()), (), ()))) y20))
noncomputable def c80 : Con := ⟨i80, o80, fun x => F80 x.1.1⟩
theorem e80 (x : i80.E) : vfn Try.prog C80 LO80 Try.f80 b80 i80 o80 x = F80 x.1.1 := by kernel_rfl
theorem c80_ok : Con.OK Try.prog 80 c80 := (fn_ok C80_ok Try.func80 body80 (loops_of (l := [l80_3]) (by kernel_rfl) (show LoopsOK Try.prog Try.f80.ntmps [l80_3] LO80 from ⟨k80_3_ok, trivial⟩)) i80 o80).congr fun x => (e80 x).symm
noncomputable def b70 : Code := (.seq (.region 0 (regOf Try.f70 0) false) (.seq (.region 1 (regOf Try.f70 1) false) (.seq (.block 0 (.seq (.region 2 (regOf Try.f70 2) false) (.cond (.tmp 16) (.seq (.region 3 (regOf Try.f70 3) false) .ret) (.seq (.region 4 (regOf Try.f70 4) false) (.cond (.tmp 21) (.seq (.region 5 (regOf Try.f70 5) false) .ret) (.seq (.region 6 (regOf Try.f70 6) false) (.cond (.tmp 31) (.seq (.region 7 (regOf Try.f70 7) false) .ret) .skip))))))) (.seq (.region 8 (regOf Try.f70 8) true) .ret))))
theorem body70 : Try.f70.body = some b70 := by kernel_rfl
noncomputable def C70 : Tab := [(80, c80)]
theorem C70_ok : TabOK Try.prog C70 := ⟨c80_ok, trivial⟩
noncomputable def LO70 : Tab := []
noncomputable def i70 : Tm := { sl := [(0, .v (.l (.i .u8))), (1, .v (.i .i64))], bx := [], bf := [] }
noncomputable def o70 : OT := (.ret { sl := [(0, .v (.l (.i .u8))), (1, .v (.l (.i .u8))), (2, .v (.i .i64))], bx := [], bf := [] })
noncomputable def F70 (a0 : (List Int)) (a1 : Int) : Option (((List Int) × ((List Int) × (Int × Unit))) × Unit × Unit) :=
  ((F80 a0).bind fun y22 => (bif ((y22.1.2.2.1 : Int) != 0) then (some ((([] : List Int), a0, y22.1.2.2.1, ()), (), ())) else (bif (decide ((a1 : Int) < 0)) then (some ((([] : List Int), a0, 6, ()), (), ())) else (bif (decide ((y22.1.1 : Int) > (IntKind.wrap .u64 a1))) then (some ((([] : List Int), a0, 6, ()), (), ())) else (bif (decide ((y22.1.1 : Int) > (IntKind.wrap .u64 (((y22.1.2.1).length : Nat) : Int)))) then (some ((([] : List Int), a0, 5, ()), (), ())) else (bif (decide (0 ≤ (y22.1.1 : Int) ∧ (y22.1.1 : Int) ≤ (((y22.1.2.1).length : Nat) : Int))) then (bif (decide ((((y22.1.2.1).take (y22.1.1 : Int).toNat)).length < lim)) then (bif (decide (0 ≤ (y22.1.1 : Int) ∧ (y22.1.1 : Int) ≤ (((y22.1.2.1).length : Nat) : Int))) then (some ((((y22.1.2.1).take (y22.1.1 : Int).toNat), ((y22.1.2.1).drop (y22.1.1 : Int).toNat), 0, ()), (), ())) else none) else none) else none))))))
noncomputable def c70 : Con := ⟨i70, o70, fun x => F70 x.1.1 x.1.2.1⟩
theorem e70 (x : i70.E) : vfn Try.prog C70 LO70 Try.f70 b70 i70 o70 x = F70 x.1.1 x.1.2.1 := by kernel_rfl
theorem c70_ok : Con.OK Try.prog 70 c70 := (fn_ok C70_ok Try.func70 body70 (loops_of (l := []) (by kernel_rfl) (show LoopsOK Try.prog Try.f70.ntmps [] LO70 from trivial)) i70 o70).congr fun x => (e70 x).symm
noncomputable def b37 : Code := (.seq (.region 0 (regOf Try.f37 0) false) (.seq (.region 1 (regOf Try.f37 1) false) (.seq (.block 0 (.seq (.region 2 (regOf Try.f37 2) false) (.cond (.tmp 17) (.seq (.region 3 (regOf Try.f37 3) false) .ret) (.seq (.region 4 (regOf Try.f37 4) false) (.cond (.tmp 22) (.seq (.region 5 (regOf Try.f37 5) false) .ret) (.seq (.region 6 (regOf Try.f37 6) true) (.cond (.tmp 27) (.seq (.region 7 (regOf Try.f37 7) false) .ret) .skip))))))) (.seq (.region 8 (regOf Try.f37 8) true) .ret))))
theorem body37 : Try.f37.body = some b37 := by kernel_rfl
noncomputable def C37 : Tab := [(70, c70), (71, c71), (72, c72)]
theorem C37_ok : TabOK Try.prog C37 := ⟨c70_ok, c71_ok, c72_ok, trivial⟩
noncomputable def LO37 : Tab := []
noncomputable def i37 : Tm := { sl := [(0, .v (.l (.i .u8))), (1, .v (.i .i64))], bx := [], bf := [] }
noncomputable def o37 : OT := (.ret { sl := [(0, .v (.l (.i .u8))), (1, .v (.l (.i .u8))), (2, .v (.i .i64))], bx := [], bf := [] })
noncomputable def F37 (a0 : (List Int)) (a1 : Int) : Option (((List Int) × ((List Int) × (Int × Unit))) × Unit × Unit) :=
  ((F70 a0 a1).bind fun y23 => (bif ((y23.1.2.2.1 : Int) != 0) then (some ((([] : List Int), a0, y23.1.2.2.1, ()), (), ())) else (bif (decide (((((y23.1.2.1).length : Nat) : Int) : Int) < 4)) then (some ((([] : List Int), a0, 5, ()), (), ())) else (bif (decide (0 ≤ ((IntKind.wrap .i64 ((((a0).length : Nat) : Int) - (((y23.1.2.1).length : Nat) : Int))) : Int) ∧ ((IntKind.wrap .i64 ((((a0).length : Nat) : Int) - (((y23.1.2.1).length : Nat) : Int))) : Int) ≤ (((a0).length : Nat) : Int))) then ((F72 ((a0).take ((IntKind.wrap .i64 ((((a0).length : Nat) : Int) - (((y23.1.2.1).length : Nat) : Int))) : Int).toNat)).bind fun y24 => ((F71 y24.1.1).bind fun y25 => (bif (decide (0 ≤ (4 : Int) ∧ (4 : Int) ≤ (((y23.1.2.1).length : Nat) : Int))) then (bif (!(((strL y25.1.1) : ByteArray).toList == ((strL ((y23.1.2.1).take (4 : Int).toNat)) : ByteArray).toList)) then (some ((([] : List Int), a0, 4, ()), (), ())) else (bif (decide (0 ≤ (4 : Int) ∧ (4 : Int) ≤ (((y23.1.2.1).length : Nat) : Int))) then (some ((y23.1.1, ((y23.1.2.1).drop (4 : Int).toNat), 0, ()), (), ())) else none)) else none))) else none))))
noncomputable def c37 : Con := ⟨i37, o37, fun x => F37 x.1.1 x.1.2.1⟩
theorem e37 (x : i37.E) : vfn Try.prog C37 LO37 Try.f37 b37 i37 o37 x = F37 x.1.1 x.1.2.1 := by kernel_rfl
theorem c37_ok : Con.OK Try.prog 37 c37 := (fn_ok C37_ok Try.func37 body37 (loops_of (l := []) (by kernel_rfl) (show LoopsOK Try.prog Try.f37.ntmps [] LO37 from trivial)) i37 o37).congr fun x => (e37 x).symm
noncomputable def b79 : Code := (.seq (.region 0 (regOf Try.f79 0) false) (.seq (.seq (.region 1 (regOf Try.f79 1) false) (.cond (.tmp 4) (.seq (.region 2 (regOf Try.f79 2) false) .ret) .skip)) (.seq (.region 3 (regOf Try.f79 3) false) .ret)))
theorem body79 : Try.f79.body = some b79 := by kernel_rfl
noncomputable def C79 : Tab := []
theorem C79_ok : TabOK Try.prog C79 := trivial
noncomputable def LO79 : Tab := []
noncomputable def i79 : Tm := { sl := [(0, .v (.l (.i .u64)))], bx := [], bf := [] }
noncomputable def o79 : OT := (.ret { sl := [(0, .v (.l (.i .u64)))], bx := [], bf := [] })
noncomputable def F79 (a0 : (List Int)) : Option (((List Int) × Unit) × Unit × Unit) :=
  (nilBr (a0).length (some ((([] : List Int), ()), (), ())) (bif (decide ((([] : List Int)).length + (a0).length < lim)) then (some (((([] : List Int) ++ a0), ()), (), ())) else none))
noncomputable def c79 : Con := ⟨i79, o79, fun x => F79 x.1.1⟩
theorem e79 (x : i79.E) : vfn Try.prog C79 LO79 Try.f79 b79 i79 o79 x = F79 x.1.1 := by kernel_rfl
theorem c79_ok : Con.OK Try.prog 79 c79 := (fn_ok C79_ok Try.func79 body79 (loops_of (l := []) (by kernel_rfl) (show LoopsOK Try.prog Try.f79.ntmps [] LO79 from trivial)) i79 o79).congr fun x => (e79 x).symm
noncomputable def l62_2 : Code := (.seq (.seq (.region 2 (regOf Try.f62 2) false) (.cond (.tmp 15) .skip (.exit 0))) (.block 1 (.region 3 (regOf Try.f62 3) false)))
noncomputable def b62 : Code := (.seq (.region 0 (regOf Try.f62 0) false) (.seq (.region 1 (regOf Try.f62 1) false) (.seq (.block 0 (.loop l62_2)) (.seq (.region 4 (regOf Try.f62 4) false) .ret))))
theorem body62 : Try.f62.body = some b62 := by kernel_rfl
noncomputable def C62_2 : Tab := []
theorem C62_2_ok : TabOK Try.prog C62_2 := trivial
noncomputable def LO62_2 : Tab := []
noncomputable def i62_2 : Tm := { sl := [(0, .v (.l (.i .u64))), (3, .v (.i .i64))], bx := [], bf := [] }
noncomputable def o62_2 : OT := (.exit 0 { sl := [(3, .v (.i .i64))], bx := [], bf := [] })
noncomputable def T62_2 (a0 : (List Int)) (a3 : Int) : Option ((((List Int) × (Int × Unit)) × Unit × Unit) ⊕ ((Int × Unit) × Unit × Unit)) :=
  (bif (decide ((a3 : Int) > 0)) then (bif (decide (0 ≤ ((IntKind.wrap .i64 (a3 - 1)) : Int) ∧ ((IntKind.wrap .i64 (a3 - 1)) : Int) < (((a0).length : Nat) : Int))) then (bif ((((a0).getD ((IntKind.wrap .i64 (a3 - 1)) : Int).toNat (0 : Int)) : Int) == 0) then (some (.inl ((a0, (IntKind.wrap .i64 (a3 - 1)), ()), (), ()))) else (some (.inr ((a3, ()), (), ())))) else none) else (some (.inr ((a3, ()), (), ()))))
noncomputable def L62_2 (a0 : (List Int)) (a3 : Int) : Option ((Int × Unit) × Unit × Unit) := loopF (fun x : (((List Int) × (Int × Unit)) × Unit × Unit) => T62_2 x.1.1 x.1.2.1) ((a0, a3, ()), (), ())
theorem L62_2_eq (a0 : (List Int)) (a3 : Int) : L62_2 a0 a3 = (T62_2 a0 a3).bind (Sum.elim (fun x => L62_2 x.1.1 x.1.2.1) some) := loopF_eq _ _
noncomputable def k62_2 : Con := ⟨i62_2, o62_2, fun x => L62_2 x.1.1 x.1.2.1⟩
theorem e62_2 (x : i62_2.E) : vround Try.prog C62_2 LO62_2 Try.f62.ntmps l62_2 i62_2 o62_2 x = T62_2 x.1.1 x.1.2.1 := by kernel_rfl
theorem k62_2_ok : Con.LOK Try.prog Try.f62.ntmps l62_2 k62_2 := (loop_ok C62_2_ok (loops_of (l := []) (by kernel_rfl) (show LoopsOK Try.prog Try.f62.ntmps [] LO62_2 from trivial)) i62_2 o62_2).congr fun x => (congrArg (fun T => loopF T x) (funext e62_2)).symm
noncomputable def C62 : Tab := [(79, c79)]
theorem C62_ok : TabOK Try.prog C62 := ⟨c79_ok, trivial⟩
noncomputable def LO62 : Tab := [(2, k62_2)]
noncomputable def i62 : Tm := { sl := [(0, .v (.l (.i .u64)))], bx := [], bf := [] }
noncomputable def o62 : OT := (.ret { sl := [(0, .v (.l (.i .u64)))], bx := [], bf := [] })
noncomputable def F62 (a0 : (List Int)) : Option (((List Int) × Unit) × Unit × Unit) :=
  ((L62_2 a0 (((a0).length : Nat) : Int)).bind fun y26 => (bif (decide (0 ≤ (y26.1.1 : Int) ∧ (y26.1.1 : Int) ≤ (((a0).length : Nat) : Int))) then ((F79 ((a0).take (y26.1.1 : Int).toNat)).bind fun y27 => (some ((y27.1.1, ()), (), ()))) else none))
noncomputable def c62 : Con := ⟨i62, o62, fun x => F62 x.1.1⟩
theorem e62 (x : i62.E) : vfn Try.prog C62 LO62 Try.f62 b62 i62 o62 x = F62 x.1.1 := by kernel_rfl
theorem c62_ok : Con.OK Try.prog 62 c62 := (fn_ok C62_ok Try.func62 body62 (loops_of (l := [l62_2]) (by kernel_rfl) (show LoopsOK Try.prog Try.f62.ntmps [l62_2] LO62 from ⟨k62_2_ok, trivial⟩)) i62 o62).congr fun x => (e62 x).symm
noncomputable def l53_4 : Code := (.seq (.region 4 (regOf Try.f53 4) false) (.seq (.cond (.tmp 17) .skip (.exit 0)) (.seq (.block 1 (.seq (.region 5 (regOf Try.f53 5) false) (.region 6 (regOf Try.f53 6) false))) (.region 7 (regOf Try.f53 7) false))))
noncomputable def b53 : Code := (.seq (.region 0 (regOf Try.f53 0) false) (.seq (.region 1 (regOf Try.f53 1) false) (.seq (.region 2 (regOf Try.f53 2) false) (.seq (.seq (.region 3 (regOf Try.f53 3) false) (.block 0 (.loop l53_4))) (.seq (.region 8 (regOf Try.f53 8) false) .ret)))))
theorem body53 : Try.f53.body = some b53 := by kernel_rfl
noncomputable def C53_4 : Tab := [(51, c51)]
theorem C53_4_ok : TabOK Try.prog C53_4 := ⟨c51_ok, trivial⟩
noncomputable def LO53_4 : Tab := []
noncomputable def i53_4 : Tm := { sl := [(1, .o 0), (14, .v (.l (.i .u64))), (15, .v (.i .i64)), (16, .v (.i .i64))], bx := [], bf := [(.i .u8)] }
noncomputable def o53_4 : OT := (.exit 0 { sl := [(1, .o 0)], bx := [], bf := [(.i .u8)] })
noncomputable def T53_4 (a14 : (List Int)) (a15 : Int) (a16 : Int) (q0 : (List Int)) : Option (((Unit × ((List Int) × (Int × (Int × Unit)))) × Unit × ((List Int) × Unit)) ⊕ ((Unit × Unit) × Unit × ((List Int) × Unit))) :=
  (bif (decide ((a16 : Int) < a15)) then (bif (decide (0 ≤ (a16 : Int) ∧ (a16 : Int) < (((a14).length : Nat) : Int))) then ((F51 ((a14).getD (a16 : Int).toNat (0 : Int)) q0).bind fun y31 => (some (.inl (((), a14, a15, (IntKind.wrap .i64 (a16 + 1)), ()), (), (y31.2.2.1, ()))))) else none) else (some (.inr (((), ()), (), (q0, ())))))
noncomputable def L53_4 (a14 : (List Int)) (a15 : Int) (a16 : Int) (q0 : (List Int)) : Option ((Unit × Unit) × Unit × ((List Int) × Unit)) := loopF (fun x : ((Unit × ((List Int) × (Int × (Int × Unit)))) × Unit × ((List Int) × Unit)) => T53_4 x.1.2.1 x.1.2.2.1 x.1.2.2.2.1 x.2.2.1) (((), a14, a15, a16, ()), (), (q0, ()))
theorem L53_4_eq (a14 : (List Int)) (a15 : Int) (a16 : Int) (q0 : (List Int)) : L53_4 a14 a15 a16 q0 = (T53_4 a14 a15 a16 q0).bind (Sum.elim (fun x => L53_4 x.1.2.1 x.1.2.2.1 x.1.2.2.2.1 x.2.2.1) some) := loopF_eq _ _
noncomputable def k53_4 : Con := ⟨i53_4, o53_4, fun x => L53_4 x.1.2.1 x.1.2.2.1 x.1.2.2.2.1 x.2.2.1⟩
theorem e53_4 (x : i53_4.E) : vround Try.prog C53_4 LO53_4 Try.f53.ntmps l53_4 i53_4 o53_4 x = T53_4 x.1.2.1 x.1.2.2.1 x.1.2.2.2.1 x.2.2.1 := by kernel_rfl
theorem k53_4_ok : Con.LOK Try.prog Try.f53.ntmps l53_4 k53_4 := (loop_ok C53_4_ok (loops_of (l := []) (by kernel_rfl) (show LoopsOK Try.prog Try.f53.ntmps [] LO53_4 from trivial)) i53_4 o53_4).congr fun x => (congrArg (fun T => loopF T x) (funext e53_4)).symm
noncomputable def C53 : Tab := [(51, c51), (62, c62)]
theorem C53_ok : TabOK Try.prog C53 := ⟨c51_ok, c62_ok, trivial⟩
noncomputable def LO53 : Tab := [(4, k53_4)]
noncomputable def i53 : Tm := { sl := [(0, .v (.l (.i .u64))), (1, .o 0)], bx := [], bf := [(.i .u8)] }
noncomputable def o53 : OT := (.ret { sl := [(0, .o 0)], bx := [], bf := [(.i .u8)] })
noncomputable def F53 (a0 : (List Int)) (q0 : (List Int)) : Option ((Unit × Unit) × Unit × ((List Int) × Unit)) :=
  ((F62 a0).bind fun y28 => ((F51 (IntKind.wrap .u64 (((y28.1.1).length : Nat) : Int)) q0).bind fun y29 => ((L53_4 y28.1.1 (((y28.1.1).length : Nat) : Int) 0 y29.2.2.1).bind fun y32 => (some (((), ()), (), (y32.2.2.1, ()))))))
noncomputable def c53 : Con := ⟨i53, o53, fun x => F53 x.1.1 x.2.2.1⟩
theorem e53 (x : i53.E) : vfn Try.prog C53 LO53 Try.f53 b53 i53 o53 x = F53 x.1.1 x.2.2.1 := by kernel_rfl
theorem c53_ok : Con.OK Try.prog 53 c53 := (fn_ok C53_ok Try.func53 body53 (loops_of (l := [l53_4]) (by kernel_rfl) (show LoopsOK Try.prog Try.f53.ntmps [l53_4] LO53 from ⟨k53_4_ok, trivial⟩)) i53 o53).congr fun x => (e53 x).symm
noncomputable def l28_2 : Code := (.seq (.seq (.region 2 (regOf Try.f28 2) false) (.cond (.tmp 18) .skip (.exit 0))) (.block 1 (.region 3 (regOf Try.f28 3) false)))
noncomputable def l28_6 : Code := (.seq (.seq (.region 6 (regOf Try.f28 6) false) (.cond (.tmp 27) .skip (.exit 2))) (.seq (.block 3 (.region 8 (regOf Try.f28 8) false)) (.region 7 (regOf Try.f28 7) false)))
noncomputable def b28 : Code := (.seq (.region 0 (regOf Try.f28 0) false) (.seq (.region 1 (regOf Try.f28 1) false) (.seq (.block 0 (.loop l28_2)) (.seq (.region 4 (regOf Try.f28 4) false) (.seq (.seq (.region 5 (regOf Try.f28 5) false) (.block 2 (.loop l28_6))) (.seq (.region 9 (regOf Try.f28 9) false) .ret))))))
theorem body28 : Try.f28.body = some b28 := by kernel_rfl
noncomputable def C28_2 : Tab := []
theorem C28_2_ok : TabOK Try.prog C28_2 := trivial
noncomputable def LO28_2 : Tab := []
noncomputable def i28_2 : Tm := { sl := [(0, .v (.l (.i .u8))), (1, .v (.l (.i .u64))), (5, .v (.i .i64))], bx := [], bf := [] }
noncomputable def o28_2 : OT := (.exit 0 { sl := [(5, .v (.i .i64))], bx := [], bf := [] })
noncomputable def T28_2 (a0 : (List Int)) (a1 : (List Int)) (a5 : Int) : Option ((((List Int) × ((List Int) × (Int × Unit))) × Unit × Unit) ⊕ ((Int × Unit) × Unit × Unit)) :=
  (bif (decide ((a5 : Int) > 0)) then (bif (decide (0 ≤ ((IntKind.wrap .i64 (a5 - 1)) : Int) ∧ ((IntKind.wrap .i64 (a5 - 1)) : Int) < (((a1).length : Nat) : Int))) then (bif ((((a1).getD ((IntKind.wrap .i64 (a5 - 1)) : Int).toNat (0 : Int)) : Int) == 0) then (some (.inl ((a0, a1, (IntKind.wrap .i64 (a5 - 1)), ()), (), ()))) else (some (.inr ((a5, ()), (), ())))) else none) else (some (.inr ((a5, ()), (), ()))))
noncomputable def L28_2 (a0 : (List Int)) (a1 : (List Int)) (a5 : Int) : Option ((Int × Unit) × Unit × Unit) := loopF (fun x : (((List Int) × ((List Int) × (Int × Unit))) × Unit × Unit) => T28_2 x.1.1 x.1.2.1 x.1.2.2.1) ((a0, a1, a5, ()), (), ())
theorem L28_2_eq (a0 : (List Int)) (a1 : (List Int)) (a5 : Int) : L28_2 a0 a1 a5 = (T28_2 a0 a1 a5).bind (Sum.elim (fun x => L28_2 x.1.1 x.1.2.1 x.1.2.2.1) some) := loopF_eq _ _
noncomputable def k28_2 : Con := ⟨i28_2, o28_2, fun x => L28_2 x.1.1 x.1.2.1 x.1.2.2.1⟩
theorem e28_2 (x : i28_2.E) : vround Try.prog C28_2 LO28_2 Try.f28.ntmps l28_2 i28_2 o28_2 x = T28_2 x.1.1 x.1.2.1 x.1.2.2.1 := by kernel_rfl
theorem k28_2_ok : Con.LOK Try.prog Try.f28.ntmps l28_2 k28_2 := (loop_ok C28_2_ok (loops_of (l := []) (by kernel_rfl) (show LoopsOK Try.prog Try.f28.ntmps [] LO28_2 from trivial)) i28_2 o28_2).congr fun x => (congrArg (fun T => loopF T x) (funext e28_2)).symm
noncomputable def C28_6 : Tab := [(26, c26)]
theorem C28_6_ok : TabOK Try.prog C28_6 := ⟨c26_ok, trivial⟩
noncomputable def LO28_6 : Tab := []
noncomputable def i28_6 : Tm := { sl := [(0, .o 0), (1, .v (.l (.i .u64))), (5, .v (.i .i64)), (6, .v (.i .i64))], bx := [], bf := [(.i .u8)] }
noncomputable def o28_6 : OT := (.exit 2 { sl := [(0, .o 0)], bx := [], bf := [(.i .u8)] })
noncomputable def T28_6 (a1 : (List Int)) (a5 : Int) (a6 : Int) (q0 : (List Int)) : Option (((Unit × ((List Int) × (Int × (Int × Unit)))) × Unit × ((List Int) × Unit)) ⊕ ((Unit × Unit) × Unit × ((List Int) × Unit))) :=
  (bif (decide ((a6 : Int) < a5)) then (bif (decide (0 ≤ (a6 : Int) ∧ (a6 : Int) < (((a1).length : Nat) : Int))) then ((F26 q0 ((a1).getD (a6 : Int).toNat (0 : Int))).bind fun y36 => (some (.inl (((), a1, a5, (IntKind.wrap .i64 (a6 + 1)), ()), (), (y36.2.2.1, ()))))) else none) else (some (.inr (((), ()), (), (q0, ())))))
noncomputable def L28_6 (a1 : (List Int)) (a5 : Int) (a6 : Int) (q0 : (List Int)) : Option ((Unit × Unit) × Unit × ((List Int) × Unit)) := loopF (fun x : ((Unit × ((List Int) × (Int × (Int × Unit)))) × Unit × ((List Int) × Unit)) => T28_6 x.1.2.1 x.1.2.2.1 x.1.2.2.2.1 x.2.2.1) (((), a1, a5, a6, ()), (), (q0, ()))
theorem L28_6_eq (a1 : (List Int)) (a5 : Int) (a6 : Int) (q0 : (List Int)) : L28_6 a1 a5 a6 q0 = (T28_6 a1 a5 a6 q0).bind (Sum.elim (fun x => L28_6 x.1.2.1 x.1.2.2.1 x.1.2.2.2.1 x.2.2.1) some) := loopF_eq _ _
noncomputable def k28_6 : Con := ⟨i28_6, o28_6, fun x => L28_6 x.1.2.1 x.1.2.2.1 x.1.2.2.2.1 x.2.2.1⟩
theorem e28_6 (x : i28_6.E) : vround Try.prog C28_6 LO28_6 Try.f28.ntmps l28_6 i28_6 o28_6 x = T28_6 x.1.2.1 x.1.2.2.1 x.1.2.2.2.1 x.2.2.1 := by kernel_rfl
theorem k28_6_ok : Con.LOK Try.prog Try.f28.ntmps l28_6 k28_6 := (loop_ok C28_6_ok (loops_of (l := []) (by kernel_rfl) (show LoopsOK Try.prog Try.f28.ntmps [] LO28_6 from trivial)) i28_6 o28_6).congr fun x => (congrArg (fun T => loopF T x) (funext e28_6)).symm
noncomputable def C28 : Tab := [(26, c26)]
theorem C28_ok : TabOK Try.prog C28 := ⟨c26_ok, trivial⟩
noncomputable def LO28 : Tab := [(2, k28_2), (6, k28_6)]
noncomputable def i28 : Tm := { sl := [(0, .v (.l (.i .u8))), (1, .v (.l (.i .u64)))], bx := [], bf := [] }
noncomputable def o28 : OT := (.ret { sl := [(0, .o 0)], bx := [], bf := [(.i .u8)] })
noncomputable def F28 (a0 : (List Int)) (a1 : (List Int)) : Option ((Unit × Unit) × Unit × ((List Int) × Unit)) :=
  ((L28_2 a0 a1 (((a1).length : Nat) : Int)).bind fun y33 => ((F26 a0 (IntKind.wrap .u64 y33.1.1)).bind fun y34 => ((L28_6 a1 y33.1.1 0 y34.2.2.1).bind fun y37 => (some (((), ()), (), (y37.2.2.1, ()))))))
noncomputable def c28 : Con := ⟨i28, o28, fun x => F28 x.1.1 x.1.2.1⟩
theorem e28 (x : i28.E) : vfn Try.prog C28 LO28 Try.f28 b28 i28 o28 x = F28 x.1.1 x.1.2.1 := by kernel_rfl
theorem c28_ok : Con.OK Try.prog 28 c28 := (fn_ok C28_ok Try.func28 body28 (loops_of (l := [l28_2, l28_6]) (by kernel_rfl) (show LoopsOK Try.prog Try.f28.ntmps [l28_2, l28_6] LO28 from ⟨k28_2_ok, k28_6_ok, trivial⟩)) i28 o28).congr fun x => (e28 x).symm
noncomputable def b84 : Code := (.seq (.region 0 (regOf Try.f84 0) false) (.seq (.seq (.region 1 (regOf Try.f84 1) false) (.cond (.tmp 4) (.seq (.region 2 (regOf Try.f84 2) false) .ret) .skip)) (.seq (.region 3 (regOf Try.f84 3) false) .ret)))
theorem body84 : Try.f84.body = some b84 := by kernel_rfl
noncomputable def C84 : Tab := [(95, c95)]
theorem C84_ok : TabOK Try.prog C84 := ⟨c95_ok, trivial⟩
noncomputable def LO84 : Tab := []
noncomputable def i84 : Tm := { sl := [(0, .v (.f .f64))], bx := [], bf := [] }
noncomputable def o84 : OT := (.ret { sl := [(0, .v (.i .u64))], bx := [], bf := [] })
noncomputable def F84 (a0 : Nat) : Option ((Int × Unit) × Unit × Unit) :=
  ((F95 a0).bind fun y38 => (bif y38.1.1 then (some ((9221120237041090561, ()), (), ())) else (some (((((a0) : Nat) : Int), ()), (), ()))))
noncomputable def c84 : Con := ⟨i84, o84, fun x => F84 x.1.1⟩
theorem e84 (x : i84.E) : vfn Try.prog C84 LO84 Try.f84 b84 i84 o84 x = F84 x.1.1 := by kernel_rfl
theorem c84_ok : Con.OK Try.prog 84 c84 := (fn_ok C84_ok Try.func84 body84 (loops_of (l := []) (by kernel_rfl) (show LoopsOK Try.prog Try.f84.ntmps [] LO84 from trivial)) i84 o84).congr fun x => (e84 x).symm
noncomputable def b66 : Code := (.seq (.region 0 (regOf Try.f66 0) false) (.seq (.region 1 (regOf Try.f66 1) false) (.seq (.region 2 (regOf Try.f66 2) true) (.seq (.seq (.region 3 (regOf Try.f66 3) false) (.cond (.tmp 26) (.region 4 (regOf Try.f66 4) false) .skip)) (.seq (.seq (.region 5 (regOf Try.f66 5) false) (.block 0 (.seq (.region 6 (regOf Try.f66 6) false) (.cond (.tmp 34) (.region 7 (regOf Try.f66 7) false) (.seq (.seq (.region 8 (regOf Try.f66 8) false) (.cond (.tmp 40) .skip (.region 9 (regOf Try.f66 9) false))) (.cond (.tmp 40) (.region 10 (regOf Try.f66 10) false) (.seq (.region 11 (regOf Try.f66 11) false) (.cond (.tmp 48) (.region 12 (regOf Try.f66 12) false) .skip)))))))) (.seq (.region 13 (regOf Try.f66 13) false) .ret))))))
theorem body66 : Try.f66.body = some b66 := by kernel_rfl
noncomputable def C66 : Tab := [(51, c51), (52, c52), (83, c83), (84, c84)]
theorem C66_ok : TabOK Try.prog C66 := ⟨c51_ok, c52_ok, c83_ok, c84_ok, trivial⟩
noncomputable def LO66 : Tab := []
noncomputable def i66 : Tm := { sl := [(0, .v tDEv)], bx := [], bf := [] }
noncomputable def o66 : OT := (.ret { sl := [(0, .o 0)], bx := [], bf := [(.i .u8)] })
noncomputable def F66 (a0 : DEv) : Option ((Unit × Unit) × Unit × ((List Int) × Unit)) :=
  ((F51 (IntKind.wrap .u64 a0.1) ([] : List Int)).bind fun y39 => ((F51 a0.2.1 y39.2.2.1).bind fun y40 => ((F51 a0.2.2.1 y40.2.2.1).bind fun y41 => (bif (decide ((y41.2.2.1).length + ([a0.2.2.2.1]).length < lim)) then (bif (decide ((a0.2.2.2.1 : Int) ≥ 1)) then (bif (decide ((a0.2.2.2.1 : Int) ≤ 4)) then ((F52 (bytesL a0.2.2.2.2.1) (y41.2.2.1 ++ [a0.2.2.2.1])).bind fun y42 => (bif ((a0.2.2.2.1 : Int) == 1) then ((F52 a0.2.2.2.2.2.1 y42.2.2.1).bind fun y43 => (some (((), ()), (), (y43.2.2.1, ())))) else (bif ((a0.2.2.2.1 : Int) == 2) then ((F84 a0.2.2.2.2.2.2.1).bind fun y44 => ((F83 y44.1.1 y42.2.2.1).bind fun y45 => (some (((), ()), (), (y45.2.2.1, ()))))) else (bif ((a0.2.2.2.1 : Int) == 3) then ((F84 a0.2.2.2.2.2.2.1).bind fun y46 => ((F83 y46.1.1 y42.2.2.1).bind fun y47 => (some (((), ()), (), (y47.2.2.1, ()))))) else (bif ((a0.2.2.2.1 : Int) == 5) then ((F51 (IntKind.wrap .u64 a0.2.2.2.2.2.2.2.1) y42.2.2.1).bind fun y48 => (some (((), ()), (), (y48.2.2.1, ())))) else (some (((), ()), (), (y42.2.2.1, ())))))))) else (bif ((a0.2.2.2.1 : Int) == 1) then ((F52 a0.2.2.2.2.2.1 (y41.2.2.1 ++ [a0.2.2.2.1])).bind fun y49 => (some (((), ()), (), (y49.2.2.1, ())))) else (bif ((a0.2.2.2.1 : Int) == 2) then ((F84 a0.2.2.2.2.2.2.1).bind fun y50 => ((F83 y50.1.1 (y41.2.2.1 ++ [a0.2.2.2.1])).bind fun y51 => (some (((), ()), (), (y51.2.2.1, ()))))) else (bif ((a0.2.2.2.1 : Int) == 3) then ((F84 a0.2.2.2.2.2.2.1).bind fun y52 => ((F83 y52.1.1 (y41.2.2.1 ++ [a0.2.2.2.1])).bind fun y53 => (some (((), ()), (), (y53.2.2.1, ()))))) else (bif ((a0.2.2.2.1 : Int) == 5) then ((F51 (IntKind.wrap .u64 a0.2.2.2.2.2.2.2.1) (y41.2.2.1 ++ [a0.2.2.2.1])).bind fun y54 => (some (((), ()), (), (y54.2.2.1, ())))) else (some (((), ()), (), ((y41.2.2.1 ++ [a0.2.2.2.1]), ())))))))) else (bif ((a0.2.2.2.1 : Int) == 1) then ((F52 a0.2.2.2.2.2.1 (y41.2.2.1 ++ [a0.2.2.2.1])).bind fun y55 => (some (((), ()), (), (y55.2.2.1, ())))) else (bif ((a0.2.2.2.1 : Int) == 2) then ((F84 a0.2.2.2.2.2.2.1).bind fun y56 => ((F83 y56.1.1 (y41.2.2.1 ++ [a0.2.2.2.1])).bind fun y57 => (some (((), ()), (), (y57.2.2.1, ()))))) else (bif ((a0.2.2.2.1 : Int) == 3) then ((F84 a0.2.2.2.2.2.2.1).bind fun y58 => ((F83 y58.1.1 (y41.2.2.1 ++ [a0.2.2.2.1])).bind fun y59 => (some (((), ()), (), (y59.2.2.1, ()))))) else (bif ((a0.2.2.2.1 : Int) == 5) then ((F51 (IntKind.wrap .u64 a0.2.2.2.2.2.2.2.1) (y41.2.2.1 ++ [a0.2.2.2.1])).bind fun y60 => (some (((), ()), (), (y60.2.2.1, ())))) else (some (((), ()), (), ((y41.2.2.1 ++ [a0.2.2.2.1]), ())))))))) else none))))
noncomputable def c66 : Con := ⟨i66, o66, fun x => F66 x.1.1⟩
theorem e66 (x : i66.E) : vfn Try.prog C66 LO66 Try.f66 b66 i66 o66 x = F66 x.1.1 := by kernel_rfl
theorem c66_ok : Con.OK Try.prog 66 c66 := (fn_ok C66_ok Try.func66 body66 (loops_of (l := []) (by kernel_rfl) (show LoopsOK Try.prog Try.f66.ntmps [] LO66 from trivial)) i66 o66).congr fun x => (e66 x).symm
noncomputable def b33 : Code := (.seq (.region 0 (regOf Try.f33 0) false) (.seq (.region 1 (regOf Try.f33 1) true) (.seq (.region 2 (regOf Try.f33 2) false) (.seq (.seq (.region 3 (regOf Try.f33 3) false) (.cond (.tmp 21) (.region 4 (regOf Try.f33 4) false) .skip)) (.seq (.seq (.region 5 (regOf Try.f33 5) false) (.cond (.tmp 29) (.region 6 (regOf Try.f33 6) false) .skip)) (.seq (.seq (.region 7 (regOf Try.f33 7) false) (.cond (.tmp 41) (.region 8 (regOf Try.f33 8) false) .skip)) (.seq (.seq (.region 9 (regOf Try.f33 9) false) (.cond (.tmp 49) (.region 10 (regOf Try.f33 10) false) .skip)) (.seq (.region 11 (regOf Try.f33 11) false) .ret))))))))
theorem body33 : Try.f33.body = some b33 := by kernel_rfl
noncomputable def C33 : Tab := [(26, c26), (27, c27), (67, c67), (68, c68)]
theorem C33_ok : TabOK Try.prog C33 := ⟨c26_ok, c27_ok, c67_ok, c68_ok, trivial⟩
noncomputable def LO33 : Tab := []
noncomputable def i33 : Tm := { sl := [(0, .v tDEv)], bx := [], bf := [] }
noncomputable def o33 : OT := (.ret { sl := [(0, .o 0)], bx := [], bf := [(.i .u8)] })
noncomputable def F33 (a0 : DEv) : Option ((Unit × Unit) × Unit × ((List Int) × Unit)) :=
  ((F26 ([] : List Int) (IntKind.wrap .u64 a0.1)).bind fun y61 => ((F26 y61.2.2.1 a0.2.1).bind fun y62 => ((F26 y62.2.2.1 a0.2.2.1).bind fun y63 => (bif (decide ((y63.2.2.1).length + ([a0.2.2.2.1]).length < lim)) then (bif (decide ((a0.2.2.2.1 : Int) ≤ 4)) then ((F27 (y63.2.2.1 ++ [a0.2.2.2.1]) (bytesL a0.2.2.2.2.1)).bind fun y64 => (bif ((a0.2.2.2.1 : Int) == 1) then ((F27 y64.2.2.1 a0.2.2.2.2.2.1).bind fun y65 => (bif ((a0.2.2.2.1 : Int) == 2) then ((F68 a0.2.2.2.2.2.2.1).bind fun y66 => ((F67 y65.2.2.1 y66.1.1).bind fun y67 => (bif ((a0.2.2.2.1 : Int) == 5) then ((F26 y67.2.2.1 (IntKind.wrap .u64 a0.2.2.2.2.2.2.2.1)).bind fun y68 => (some (((), ()), (), (y68.2.2.1, ())))) else (some (((), ()), (), (y67.2.2.1, ())))))) else (bif ((a0.2.2.2.1 : Int) == 3) then ((F68 a0.2.2.2.2.2.2.1).bind fun y69 => ((F67 y65.2.2.1 y69.1.1).bind fun y70 => (bif ((a0.2.2.2.1 : Int) == 5) then ((F26 y70.2.2.1 (IntKind.wrap .u64 a0.2.2.2.2.2.2.2.1)).bind fun y71 => (some (((), ()), (), (y71.2.2.1, ())))) else (some (((), ()), (), (y70.2.2.1, ())))))) else (bif ((a0.2.2.2.1 : Int) == 5) then ((F26 y65.2.2.1 (IntKind.wrap .u64 a0.2.2.2.2.2.2.2.1)).bind fun y72 => (some (((), ()), (), (y72.2.2.1, ())))) else (some (((), ()), (), (y65.2.2.1, ()))))))) else (bif ((a0.2.2.2.1 : Int) == 2) then ((F68 a0.2.2.2.2.2.2.1).bind fun y73 => ((F67 y64.2.2.1 y73.1.1).bind fun y74 => (bif ((a0.2.2.2.1 : Int) == 5) then ((F26 y74.2.2.1 (IntKind.wrap .u64 a0.2.2.2.2.2.2.2.1)).bind fun y75 => (some (((), ()), (), (y75.2.2.1, ())))) else (some (((), ()), (), (y74.2.2.1, ())))))) else (bif ((a0.2.2.2.1 : Int) == 3) then ((F68 a0.2.2.2.2.2.2.1).bind fun y76 => ((F67 y64.2.2.1 y76.1.1).bind fun y77 => (bif ((a0.2.2.2.1 : Int) == 5) then ((F26 y77.2.2.1 (IntKind.wrap .u64 a0.2.2.2.2.2.2.2.1)).bind fun y78 => (some (((), ()), (), (y78.2.2.1, ())))) else (some (((), ()), (), (y77.2.2.1, ())))))) else (bif ((a0.2.2.2.1 : Int) == 5) then ((F26 y64.2.2.1 (IntKind.wrap .u64 a0.2.2.2.2.2.2.2.1)).bind fun y79 => (some (((), ()), (), (y79.2.2.1, ())))) else (some (((), ()), (), (y64.2.2.1, ())))))))) else (bif ((a0.2.2.2.1 : Int) == 1) then ((F27 (y63.2.2.1 ++ [a0.2.2.2.1]) a0.2.2.2.2.2.1).bind fun y80 => (bif ((a0.2.2.2.1 : Int) == 2) then ((F68 a0.2.2.2.2.2.2.1).bind fun y81 => ((F67 y80.2.2.1 y81.1.1).bind fun y82 => (bif ((a0.2.2.2.1 : Int) == 5) then ((F26 y82.2.2.1 (IntKind.wrap .u64 a0.2.2.2.2.2.2.2.1)).bind fun y83 => (some (((), ()), (), (y83.2.2.1, ())))) else (some (((), ()), (), (y82.2.2.1, ())))))) else (bif ((a0.2.2.2.1 : Int) == 3) then ((F68 a0.2.2.2.2.2.2.1).bind fun y84 => ((F67 y80.2.2.1 y84.1.1).bind fun y85 => (bif ((a0.2.2.2.1 : Int) == 5) then ((F26 y85.2.2.1 (IntKind.wrap .u64 a0.2.2.2.2.2.2.2.1)).bind fun y86 => (some (((), ()), (), (y86.2.2.1, ())))) else (some (((), ()), (), (y85.2.2.1, ())))))) else (bif ((a0.2.2.2.1 : Int) == 5) then ((F26 y80.2.2.1 (IntKind.wrap .u64 a0.2.2.2.2.2.2.2.1)).bind fun y87 => (some (((), ()), (), (y87.2.2.1, ())))) else (some (((), ()), (), (y80.2.2.1, ()))))))) else (bif ((a0.2.2.2.1 : Int) == 2) then ((F68 a0.2.2.2.2.2.2.1).bind fun y88 => ((F67 (y63.2.2.1 ++ [a0.2.2.2.1]) y88.1.1).bind fun y89 => (bif ((a0.2.2.2.1 : Int) == 5) then ((F26 y89.2.2.1 (IntKind.wrap .u64 a0.2.2.2.2.2.2.2.1)).bind fun y90 => (some (((), ()), (), (y90.2.2.1, ())))) else (some (((), ()), (), (y89.2.2.1, ())))))) else (bif ((a0.2.2.2.1 : Int) == 3) then ((F68 a0.2.2.2.2.2.2.1).bind fun y91 => ((F67 (y63.2.2.1 ++ [a0.2.2.2.1]) y91.1.1).bind fun y92 => (bif ((a0.2.2.2.1 : Int) == 5) then ((F26 y92.2.2.1 (IntKind.wrap .u64 a0.2.2.2.2.2.2.2.1)).bind fun y93 => (some (((), ()), (), (y93.2.2.1, ())))) else (some (((), ()), (), (y92.2.2.1, ())))))) else (bif ((a0.2.2.2.1 : Int) == 5) then ((F26 (y63.2.2.1 ++ [a0.2.2.2.1]) (IntKind.wrap .u64 a0.2.2.2.2.2.2.2.1)).bind fun y94 => (some (((), ()), (), (y94.2.2.1, ())))) else (some (((), ()), (), ((y63.2.2.1 ++ [a0.2.2.2.1]), ())))))))) else none))))
noncomputable def c33 : Con := ⟨i33, o33, fun x => F33 x.1.1⟩
theorem e33 (x : i33.E) : vfn Try.prog C33 LO33 Try.f33 b33 i33 o33 x = F33 x.1.1 := by kernel_rfl
theorem c33_ok : Con.OK Try.prog 33 c33 := (fn_ok C33_ok Try.func33 body33 (loops_of (l := []) (by kernel_rfl) (show LoopsOK Try.prog Try.f33.ntmps [] LO33 from trivial)) i33 o33).congr fun x => (e33 x).symm
noncomputable def b64 : Code := (.seq (.region 0 (regOf Try.f64 0) false) (.seq (.seq (.region 1 (regOf Try.f64 1) false) (.cond (.tmp 3) (.seq (.region 2 (regOf Try.f64 2) false) .ret) .skip)) (.seq (.region 3 (regOf Try.f64 3) false) .ret)))
theorem body64 : Try.f64.body = some b64 := by kernel_rfl
noncomputable def C64 : Tab := []
theorem C64_ok : TabOK Try.prog C64 := trivial
noncomputable def LO64 : Tab := []
noncomputable def i64 : Tm := { sl := [(0, .v .b)], bx := [], bf := [] }
noncomputable def o64 : OT := (.ret { sl := [(0, .v (.i .u64))], bx := [], bf := [] })
noncomputable def F64 (a0 : Bool) : Option ((Int × Unit) × Unit × Unit) :=
  (bif a0 then (some ((1, ()), (), ())) else (some ((0, ()), (), ())))
noncomputable def c64 : Con := ⟨i64, o64, fun x => F64 x.1.1⟩
theorem e64 (x : i64.E) : vfn Try.prog C64 LO64 Try.f64 b64 i64 o64 x = F64 x.1.1 := by kernel_rfl
theorem c64_ok : Con.OK Try.prog 64 c64 := (fn_ok C64_ok Try.func64 body64 (loops_of (l := []) (by kernel_rfl) (show LoopsOK Try.prog Try.f64.ntmps [] LO64 from trivial)) i64 o64).congr fun x => (e64 x).symm
noncomputable def l65_3 : Code := (.seq (.region 3 (regOf Try.f65 3) false) (.seq (.cond (.tmp 15) .skip (.exit 0)) (.seq (.block 1 (.seq (.region 4 (regOf Try.f65 4) false) (.region 5 (regOf Try.f65 5) true))) (.region 6 (regOf Try.f65 6) false))))
noncomputable def b65 : Code := (.seq (.region 0 (regOf Try.f65 0) false) (.seq (.region 1 (regOf Try.f65 1) false) (.seq (.seq (.region 2 (regOf Try.f65 2) false) (.block 0 (.loop l65_3))) (.seq (.region 7 (regOf Try.f65 7) false) .ret))))
theorem body65 : Try.f65.body = some b65 := by kernel_rfl
noncomputable def C65_3 : Tab := [(51, c51), (53, c53)]
theorem C65_3_ok : TabOK Try.prog C65_3 := ⟨c51_ok, c53_ok, trivial⟩
noncomputable def LO65_3 : Tab := []
noncomputable def i65_3 : Tm := { sl := [(0, .o 0), (12, .v (.l tDRw)), (13, .v (.i .i64)), (14, .v (.i .i64))], bx := [], bf := [(.i .u8)] }
noncomputable def o65_3 : OT := (.exit 0 { sl := [(0, .o 0)], bx := [], bf := [(.i .u8)] })
noncomputable def T65_3 (a12 : (List DRw)) (a13 : Int) (a14 : Int) (q0 : (List Int)) : Option (((Unit × ((List DRw) × (Int × (Int × Unit)))) × Unit × ((List Int) × Unit)) ⊕ ((Unit × Unit) × Unit × ((List Int) × Unit))) :=
  (bif (decide ((a14 : Int) < a13)) then (bif (decide (0 ≤ (a14 : Int) ∧ (a14 : Int) < (((a12).length : Nat) : Int))) then ((F51 (IntKind.wrap .u64 ((a12).getD (a14 : Int).toNat ((0 : Int), ([], ((0 : Int), ())))).1) q0).bind fun y99 => ((F53 (((a12).getD (a14 : Int).toNat ((0 : Int), ([], ((0 : Int), ())))).2.1) y99.2.2.1).bind fun y100 => ((F51 (((a12).getD (a14 : Int).toNat ((0 : Int), ([], ((0 : Int), ())))).2.2.1) y100.2.2.1).bind fun y101 => (some (.inl (((), a12, a13, (IntKind.wrap .i64 (a14 + 1)), ()), (), (y101.2.2.1, ()))))))) else none) else (some (.inr (((), ()), (), (q0, ())))))
noncomputable def L65_3 (a12 : (List DRw)) (a13 : Int) (a14 : Int) (q0 : (List Int)) : Option ((Unit × Unit) × Unit × ((List Int) × Unit)) := loopF (fun x : ((Unit × ((List DRw) × (Int × (Int × Unit)))) × Unit × ((List Int) × Unit)) => T65_3 x.1.2.1 x.1.2.2.1 x.1.2.2.2.1 x.2.2.1) (((), a12, a13, a14, ()), (), (q0, ()))
theorem L65_3_eq (a12 : (List DRw)) (a13 : Int) (a14 : Int) (q0 : (List Int)) : L65_3 a12 a13 a14 q0 = (T65_3 a12 a13 a14 q0).bind (Sum.elim (fun x => L65_3 x.1.2.1 x.1.2.2.1 x.1.2.2.2.1 x.2.2.1) some) := loopF_eq _ _
noncomputable def k65_3 : Con := ⟨i65_3, o65_3, fun x => L65_3 x.1.2.1 x.1.2.2.1 x.1.2.2.2.1 x.2.2.1⟩
theorem e65_3 (x : i65_3.E) : vround Try.prog C65_3 LO65_3 Try.f65.ntmps l65_3 i65_3 o65_3 x = T65_3 x.1.2.1 x.1.2.2.1 x.1.2.2.2.1 x.2.2.1 := by kernel_rfl
theorem k65_3_ok : Con.LOK Try.prog Try.f65.ntmps l65_3 k65_3 := (loop_ok C65_3_ok (loops_of (l := []) (by kernel_rfl) (show LoopsOK Try.prog Try.f65.ntmps [] LO65_3 from trivial)) i65_3 o65_3).congr fun x => (congrArg (fun T => loopF T x) (funext e65_3)).symm
noncomputable def C65 : Tab := [(51, c51), (53, c53)]
theorem C65_ok : TabOK Try.prog C65 := ⟨c51_ok, c53_ok, trivial⟩
noncomputable def LO65 : Tab := [(3, k65_3)]
noncomputable def i65 : Tm := { sl := [(0, .o 0), (1, .v (.l tDRw))], bx := [], bf := [(.i .u8)] }
noncomputable def o65 : OT := (.ret { sl := [(0, .o 0)], bx := [], bf := [(.i .u8)] })
noncomputable def F65 (a1 : (List DRw)) (q0 : (List Int)) : Option ((Unit × Unit) × Unit × ((List Int) × Unit)) :=
  ((F51 (IntKind.wrap .u64 (((a1).length : Nat) : Int)) q0).bind fun y95 => ((L65_3 a1 (((a1).length : Nat) : Int) 0 y95.2.2.1).bind fun y102 => (some (((), ()), (), (y102.2.2.1, ())))))
noncomputable def c65 : Con := ⟨i65, o65, fun x => F65 x.1.2.1 x.2.2.1⟩
theorem e65 (x : i65.E) : vfn Try.prog C65 LO65 Try.f65 b65 i65 o65 x = F65 x.1.2.1 x.2.2.1 := by kernel_rfl
theorem c65_ok : Con.OK Try.prog 65 c65 := (fn_ok C65_ok Try.func65 body65 (loops_of (l := [l65_3]) (by kernel_rfl) (show LoopsOK Try.prog Try.f65.ntmps [l65_3] LO65 from ⟨k65_3_ok, trivial⟩)) i65 o65).congr fun x => (e65 x).symm
noncomputable def l32_12 : Code := (.seq (.region 12 (regOf Try.f32 12) false) (.seq (.cond (.tmp 56) .skip (.exit 1)) (.seq (.block 2 (.seq (.region 13 (regOf Try.f32 13) false) (.region 14 (regOf Try.f32 14) false))) (.region 15 (regOf Try.f32 15) false))))
noncomputable def b32 : Code := (.seq (.region 0 (regOf Try.f32 0) false) (.seq (.region 1 (regOf Try.f32 1) true) (.seq (.region 2 (regOf Try.f32 2) true) (.seq (.region 3 (regOf Try.f32 3) true) (.seq (.seq (.region 4 (regOf Try.f32 4) false) (.block 0 (.seq (.seq (.region 5 (regOf Try.f32 5) false) (.cond (.tmp 30) .skip (.seq (.region 6 (regOf Try.f32 6) false) (.cond (.tmp 30) .skip (.region 7 (regOf Try.f32 7) false))))) (.cond (.tmp 30) (.region 8 (regOf Try.f32 8) true) (.seq (.region 9 (regOf Try.f32 9) false) (.cond (.tmp 41) (.seq (.region 10 (regOf Try.f32 10) true) (.seq (.region 11 (regOf Try.f32 11) false) (.block 1 (.loop l32_12)))) (.seq (.region 16 (regOf Try.f32 16) false) (.cond (.tmp 64) (.region 17 (regOf Try.f32 17) true) (.seq (.region 18 (regOf Try.f32 18) false) (.cond (.tmp 80) (.region 19 (regOf Try.f32 19) true) (.seq (.region 20 (regOf Try.f32 20) false) (.cond (.tmp 92) (.region 21 (regOf Try.f32 21) false) .skip)))))))))))) (.seq (.region 22 (regOf Try.f32 22) false) .ret))))))
theorem body32 : Try.f32.body = some b32 := by kernel_rfl
noncomputable def C32_12 : Tab := [(52, c52), (66, c66)]
theorem C32_12_ok : TabOK Try.prog C32_12 := ⟨c52_ok, c66_ok, trivial⟩
noncomputable def LO32_12 : Tab := []
noncomputable def i32_12 : Tm := { sl := [(3, .o 0), (53, .v (.l tDEv)), (54, .v (.i .i64)), (55, .v (.i .i64))], bx := [], bf := [(.i .u8)] }
noncomputable def o32_12 : OT := (.exit 1 { sl := [(3, .o 0)], bx := [], bf := [(.i .u8)] })
noncomputable def T32_12 (a53 : (List DEv)) (a54 : Int) (a55 : Int) (q0 : (List Int)) : Option (((Unit × ((List DEv) × (Int × (Int × Unit)))) × Unit × ((List Int) × Unit)) ⊕ ((Unit × Unit) × Unit × ((List Int) × Unit))) :=
  (bif (decide ((a55 : Int) < a54)) then (bif (decide (0 ≤ (a55 : Int) ∧ (a55 : Int) < (((a53).length : Nat) : Int))) then ((F66 (((a53).getD (a55 : Int).toNat ((0 : Int), ((0 : Int), ((0 : Int), ((0 : Int), (ByteArray.empty, ([], ((0 : Nat), ((0 : Int), ()))))))))).1, (((a53).getD (a55 : Int).toNat ((0 : Int), ((0 : Int), ((0 : Int), ((0 : Int), (ByteArray.empty, ([], ((0 : Nat), ((0 : Int), ()))))))))).2.1, (((a53).getD (a55 : Int).toNat ((0 : Int), ((0 : Int), ((0 : Int), ((0 : Int), (ByteArray.empty, ([], ((0 : Nat), ((0 : Int), ()))))))))).2.2.1, (((a53).getD (a55 : Int).toNat ((0 : Int), ((0 : Int), ((0 : Int), ((0 : Int), (ByteArray.empty, ([], ((0 : Nat), ((0 : Int), ()))))))))).2.2.2.1, (((a53).getD (a55 : Int).toNat ((0 : Int), ((0 : Int), ((0 : Int), ((0 : Int), (ByteArray.empty, ([], ((0 : Nat), ((0 : Int), ()))))))))).2.2.2.2.1, (((a53).getD (a55 : Int).toNat ((0 : Int), ((0 : Int), ((0 : Int), ((0 : Int), (ByteArray.empty, ([], ((0 : Nat), ((0 : Int), ()))))))))).2.2.2.2.2.1, (((a53).getD (a55 : Int).toNat ((0 : Int), ((0 : Int), ((0 : Int), ((0 : Int), (ByteArray.empty, ([], ((0 : Nat), ((0 : Int), ()))))))))).2.2.2.2.2.2.1, (((a53).getD (a55 : Int).toNat ((0 : Int), ((0 : Int), ((0 : Int), ((0 : Int), (ByteArray.empty, ([], ((0 : Nat), ((0 : Int), ()))))))))).2.2.2.2.2.2.2.1, ()))))))))).bind fun y122 => ((F52 y122.2.2.1 q0).bind fun y123 => (some (.inl (((), a53, a54, (IntKind.wrap .i64 (a55 + 1)), ()), (), (y123.2.2.1, ())))))) else none) else (some (.inr (((), ()), (), (q0, ())))))
noncomputable def L32_12 (a53 : (List DEv)) (a54 : Int) (a55 : Int) (q0 : (List Int)) : Option ((Unit × Unit) × Unit × ((List Int) × Unit)) := loopF (fun x : ((Unit × ((List DEv) × (Int × (Int × Unit)))) × Unit × ((List Int) × Unit)) => T32_12 x.1.2.1 x.1.2.2.1 x.1.2.2.2.1 x.2.2.1) (((), a53, a54, a55, ()), (), (q0, ()))
theorem L32_12_eq (a53 : (List DEv)) (a54 : Int) (a55 : Int) (q0 : (List Int)) : L32_12 a53 a54 a55 q0 = (T32_12 a53 a54 a55 q0).bind (Sum.elim (fun x => L32_12 x.1.2.1 x.1.2.2.1 x.1.2.2.2.1 x.2.2.1) some) := loopF_eq _ _
noncomputable def k32_12 : Con := ⟨i32_12, o32_12, fun x => L32_12 x.1.2.1 x.1.2.2.1 x.1.2.2.2.1 x.2.2.1⟩
theorem e32_12 (x : i32_12.E) : vround Try.prog C32_12 LO32_12 Try.f32.ntmps l32_12 i32_12 o32_12 x = T32_12 x.1.2.1 x.1.2.2.1 x.1.2.2.2.1 x.2.2.1 := by kernel_rfl
theorem k32_12_ok : Con.LOK Try.prog Try.f32.ntmps l32_12 k32_12 := (loop_ok C32_12_ok (loops_of (l := []) (by kernel_rfl) (show LoopsOK Try.prog Try.f32.ntmps [] LO32_12 from trivial)) i32_12 o32_12).congr fun x => (congrArg (fun T => loopF T x) (funext e32_12)).symm
noncomputable def C32 : Tab := [(49, c49), (51, c51), (52, c52), (53, c53), (64, c64), (65, c65), (66, c66)]
theorem C32_ok : TabOK Try.prog C32 := ⟨c49_ok, c51_ok, c52_ok, c53_ok, c64_ok, c65_ok, c66_ok, trivial⟩
noncomputable def LO32 : Tab := [(12, k32_12)]
noncomputable def i32 : Tm := { sl := [(0, .v tDLt)], bx := [], bf := [] }
noncomputable def o32 : OT := (.ret { sl := [(0, .o 0)], bx := [], bf := [(.i .u8)] })
noncomputable def F32 (a0 : DLt) : Option ((Unit × Unit) × Unit × ((List Int) × Unit)) :=
  ((F51 1 ([] : List Int)).bind fun y103 => (bif (decide ((y103.2.2.1).length + ([a0.1]).length < lim)) then ((F51 (IntKind.wrap .u64 a0.2.1) (y103.2.2.1 ++ [a0.1])).bind fun y104 => ((F51 (IntKind.wrap .u64 a0.2.2.1) y104.2.2.1).bind fun y105 => ((F64 a0.2.2.2.1).bind fun y106 => ((F51 y106.1.1 y105.2.2.1).bind fun y107 => ((F51 a0.2.2.2.2.1 y107.2.2.1).bind fun y108 => (bif ((a0.1 : Int) == 1) then ((F53 a0.2.2.2.2.2.1 y108.2.2.1).bind fun y109 => ((F65 a0.2.2.2.2.2.2.1 y109.2.2.1).bind fun y110 => ((F49 y110.2.2.1).bind fun y111 => (some (((), ()), (), (y111.2.2.1, ())))))) else (bif ((a0.1 : Int) == 2) then ((F53 a0.2.2.2.2.2.1 y108.2.2.1).bind fun y112 => ((F65 a0.2.2.2.2.2.2.1 y112.2.2.1).bind fun y113 => ((F49 y113.2.2.1).bind fun y114 => (some (((), ()), (), (y114.2.2.1, ())))))) else (bif ((a0.1 : Int) == 4) then ((F53 a0.2.2.2.2.2.1 y108.2.2.1).bind fun y115 => ((F65 a0.2.2.2.2.2.2.1 y115.2.2.1).bind fun y116 => ((F49 y116.2.2.1).bind fun y117 => (some (((), ()), (), (y117.2.2.1, ())))))) else (bif ((a0.1 : Int) == 3) then ((F53 a0.2.2.2.2.2.1 y108.2.2.1).bind fun y118 => ((F51 (IntKind.wrap .u64 (((a0.2.2.2.2.2.2.2.1).length : Nat) : Int)) y118.2.2.1).bind fun y119 => ((L32_12 a0.2.2.2.2.2.2.2.1 (((a0.2.2.2.2.2.2.2.1).length : Nat) : Int) 0 y119.2.2.1).bind fun y124 => ((F49 y124.2.2.1).bind fun y125 => (some (((), ()), (), (y125.2.2.1, ()))))))) else (bif ((a0.1 : Int) == 5) then ((F53 a0.2.2.2.2.2.1 y108.2.2.1).bind fun y126 => ((F51 a0.2.2.2.2.2.2.2.2.1 y126.2.2.1).bind fun y127 => ((F51 a0.2.2.2.2.2.2.2.2.2.1 y127.2.2.1).bind fun y128 => ((F51 (IntKind.wrap .u64 a0.2.2.2.2.2.2.2.2.2.2.1) y128.2.2.1).bind fun y129 => ((F49 y129.2.2.1).bind fun y130 => (some (((), ()), (), (y130.2.2.1, ())))))))) else (bif ((a0.1 : Int) == 6) then ((F51 a0.2.2.2.2.2.2.2.2.2.1 y108.2.2.1).bind fun y131 => ((F51 a0.2.2.2.2.2.2.2.2.2.2.2.1 y131.2.2.1).bind fun y132 => ((F52 a0.2.2.2.2.2.2.2.2.2.2.2.2.1 y132.2.2.1).bind fun y133 => ((F49 y133.2.2.1).bind fun y134 => (some (((), ()), (), (y134.2.2.1, ()))))))) else (bif ((a0.1 : Int) == 7) then ((F51 (IntKind.wrap .u64 a0.2.2.2.2.2.2.2.2.2.2.2.2.2.1) y108.2.2.1).bind fun y135 => ((F49 y135.2.2.1).bind fun y136 => (some (((), ()), (), (y136.2.2.1, ()))))) else ((F49 y108.2.2.1).bind fun y137 => (some (((), ()), (), (y137.2.2.1, ())))))))))))))))) else none))
noncomputable def c32 : Con := ⟨i32, o32, fun x => F32 x.1.1⟩
theorem e32 (x : i32.E) : vfn Try.prog C32 LO32 Try.f32 b32 i32 o32 x = F32 x.1.1 := by kernel_rfl
theorem c32_ok : Con.OK Try.prog 32 c32 := (fn_ok C32_ok Try.func32 body32 (loops_of (l := [l32_12]) (by kernel_rfl) (show LoopsOK Try.prog Try.f32.ntmps [l32_12] LO32 from ⟨k32_12_ok, trivial⟩)) i32 o32).congr fun x => (e32 x).symm
noncomputable def l10_13 : Code := (.seq (.seq (.region 13 (regOf Try.f10 13) false) (.cond (.tmp 52) .skip (.exit 1))) (.seq (.block 2 (.region 15 (regOf Try.f10 15) true)) (.region 14 (regOf Try.f10 14) false)))
noncomputable def l10_19 : Code := (.seq (.seq (.region 19 (regOf Try.f10 19) false) (.cond (.tmp 93) .skip (.exit 3))) (.seq (.block 4 (.region 21 (regOf Try.f10 21) false)) (.region 20 (regOf Try.f10 20) false)))
noncomputable def b10 : Code := (.seq (.region 0 (regOf Try.f10 0) false) (.seq (.region 1 (regOf Try.f10 1) true) (.seq (.region 2 (regOf Try.f10 2) false) (.seq (.seq (.region 3 (regOf Try.f10 3) false) (.cond (.tmp 13) (.region 4 (regOf Try.f10 4) false) .skip)) (.seq (.region 5 (regOf Try.f10 5) true) (.seq (.seq (.region 6 (regOf Try.f10 6) false) (.block 0 (.seq (.seq (.region 8 (regOf Try.f10 8) false) (.cond (.tmp 35) .skip (.seq (.region 9 (regOf Try.f10 9) false) (.cond (.tmp 35) .skip (.region 10 (regOf Try.f10 10) false))))) (.cond (.tmp 35) (.seq (.region 11 (regOf Try.f10 11) true) (.seq (.region 12 (regOf Try.f10 12) false) (.block 1 (.loop l10_13)))) (.seq (.region 16 (regOf Try.f10 16) false) (.cond (.tmp 78) (.seq (.region 17 (regOf Try.f10 17) true) (.seq (.region 18 (regOf Try.f10 18) false) (.block 3 (.loop l10_19)))) (.seq (.region 22 (regOf Try.f10 22) false) (.cond (.tmp 104) (.region 23 (regOf Try.f10 23) true) (.seq (.region 24 (regOf Try.f10 24) false) (.cond (.tmp 120) (.region 25 (regOf Try.f10 25) true) (.region 7 (regOf Try.f10 7) false))))))))))) (.seq (.region 26 (regOf Try.f10 26) false) .ret)))))))
theorem body10 : Try.f10.body = some b10 := by kernel_rfl
noncomputable def C10_13 : Tab := [(26, c26), (28, c28)]
theorem C10_13_ok : TabOK Try.prog C10_13 := ⟨c26_ok, c28_ok, trivial⟩
noncomputable def LO10_13 : Tab := []
noncomputable def i10_13 : Tm := { sl := [(1, .p 0 0), (3, .o 0), (5, .v (.i .i64))], bx := [[.v (.i .u8), .v (.i .i64), .v (.i .i64), .v .b, .v (.i .u64), .v (.l (.i .u64)), .v (.l tDRw), .v (.l tDEv), .v (.i .u64), .v (.i .u64), .v (.i .u32), .v (.i .u64), .v (.l (.i .u8)), .v (.i .i64)]], bf := [(.i .u8)] }
noncomputable def o10_13 : OT := (.exit 1 { sl := [(3, .o 0)], bx := [[.v (.i .u8), .v (.i .i64), .v (.i .i64), .v .b, .v (.i .u64), .v (.l (.i .u64)), .v (.l tDRw), .v (.l tDEv), .v (.i .u64), .v (.i .u64), .v (.i .u32), .v (.i .u64), .v (.l (.i .u8)), .v (.i .i64)]], bf := [(.i .u8)] })
noncomputable def T10_13 (a5 : Int) (b0_0 : Int) (b0_1 : Int) (b0_2 : Int) (b0_3 : Bool) (b0_4 : Int) (b0_5 : (List Int)) (b0_6 : (List DRw)) (b0_7 : (List DEv)) (b0_8 : Int) (b0_9 : Int) (b0_10 : Int) (b0_11 : Int) (b0_12 : (List Int)) (b0_13 : Int) (q0 : (List Int)) : Option (((Unit × (Unit × (Int × Unit))) × (DLt × Unit) × ((List Int) × Unit)) ⊕ ((Unit × Unit) × (DLt × Unit) × ((List Int) × Unit))) :=
  (bif (decide ((a5 : Int) < (((b0_6).length : Nat) : Int))) then (bif (decide (0 ≤ (a5 : Int) ∧ (a5 : Int) < (((b0_6).length : Nat) : Int))) then ((F26 q0 (IntKind.wrap .u64 ((b0_6).getD (a5 : Int).toNat ((0 : Int), ([], ((0 : Int), ())))).1)).bind fun y148 => (bif (decide (0 ≤ (a5 : Int) ∧ (a5 : Int) < (((b0_6).length : Nat) : Int))) then ((F28 y148.2.2.1 (((b0_6).getD (a5 : Int).toNat ((0 : Int), ([], ((0 : Int), ())))).2.1)).bind fun y149 => (bif (decide (0 ≤ (a5 : Int) ∧ (a5 : Int) < (((b0_6).length : Nat) : Int))) then ((F26 y149.2.2.1 (((b0_6).getD (a5 : Int).toNat ((0 : Int), ([], ((0 : Int), ())))).2.2.1)).bind fun y150 => (some (.inl (((), (), (IntKind.wrap .i64 (a5 + 1)), ()), ((b0_0, b0_1, b0_2, b0_3, b0_4, b0_5, b0_6, b0_7, b0_8, b0_9, b0_10, b0_11, b0_12, b0_13, ()), ()), (y150.2.2.1, ()))))) else none)) else none)) else none) else (some (.inr (((), ()), ((b0_0, b0_1, b0_2, b0_3, b0_4, b0_5, b0_6, b0_7, b0_8, b0_9, b0_10, b0_11, b0_12, b0_13, ()), ()), (q0, ())))))
noncomputable def L10_13 (a5 : Int) (b0_0 : Int) (b0_1 : Int) (b0_2 : Int) (b0_3 : Bool) (b0_4 : Int) (b0_5 : (List Int)) (b0_6 : (List DRw)) (b0_7 : (List DEv)) (b0_8 : Int) (b0_9 : Int) (b0_10 : Int) (b0_11 : Int) (b0_12 : (List Int)) (b0_13 : Int) (q0 : (List Int)) : Option ((Unit × Unit) × (DLt × Unit) × ((List Int) × Unit)) := loopF (fun x : ((Unit × (Unit × (Int × Unit))) × (DLt × Unit) × ((List Int) × Unit)) => T10_13 x.1.2.2.1 x.2.1.1.1 x.2.1.1.2.1 x.2.1.1.2.2.1 x.2.1.1.2.2.2.1 x.2.1.1.2.2.2.2.1 x.2.1.1.2.2.2.2.2.1 x.2.1.1.2.2.2.2.2.2.1 x.2.1.1.2.2.2.2.2.2.2.1 x.2.1.1.2.2.2.2.2.2.2.2.1 x.2.1.1.2.2.2.2.2.2.2.2.2.1 x.2.1.1.2.2.2.2.2.2.2.2.2.2.1 x.2.1.1.2.2.2.2.2.2.2.2.2.2.2.1 x.2.1.1.2.2.2.2.2.2.2.2.2.2.2.2.1 x.2.1.1.2.2.2.2.2.2.2.2.2.2.2.2.2.1 x.2.2.1) (((), (), a5, ()), ((b0_0, b0_1, b0_2, b0_3, b0_4, b0_5, b0_6, b0_7, b0_8, b0_9, b0_10, b0_11, b0_12, b0_13, ()), ()), (q0, ()))
theorem L10_13_eq (a5 : Int) (b0_0 : Int) (b0_1 : Int) (b0_2 : Int) (b0_3 : Bool) (b0_4 : Int) (b0_5 : (List Int)) (b0_6 : (List DRw)) (b0_7 : (List DEv)) (b0_8 : Int) (b0_9 : Int) (b0_10 : Int) (b0_11 : Int) (b0_12 : (List Int)) (b0_13 : Int) (q0 : (List Int)) : L10_13 a5 b0_0 b0_1 b0_2 b0_3 b0_4 b0_5 b0_6 b0_7 b0_8 b0_9 b0_10 b0_11 b0_12 b0_13 q0 = (T10_13 a5 b0_0 b0_1 b0_2 b0_3 b0_4 b0_5 b0_6 b0_7 b0_8 b0_9 b0_10 b0_11 b0_12 b0_13 q0).bind (Sum.elim (fun x => L10_13 x.1.2.2.1 x.2.1.1.1 x.2.1.1.2.1 x.2.1.1.2.2.1 x.2.1.1.2.2.2.1 x.2.1.1.2.2.2.2.1 x.2.1.1.2.2.2.2.2.1 x.2.1.1.2.2.2.2.2.2.1 x.2.1.1.2.2.2.2.2.2.2.1 x.2.1.1.2.2.2.2.2.2.2.2.1 x.2.1.1.2.2.2.2.2.2.2.2.2.1 x.2.1.1.2.2.2.2.2.2.2.2.2.2.1 x.2.1.1.2.2.2.2.2.2.2.2.2.2.2.1 x.2.1.1.2.2.2.2.2.2.2.2.2.2.2.2.1 x.2.1.1.2.2.2.2.2.2.2.2.2.2.2.2.2.1 x.2.2.1) some) := loopF_eq _ _
noncomputable def k10_13 : Con := ⟨i10_13, o10_13, fun x => L10_13 x.1.2.2.1 x.2.1.1.1 x.2.1.1.2.1 x.2.1.1.2.2.1 x.2.1.1.2.2.2.1 x.2.1.1.2.2.2.2.1 x.2.1.1.2.2.2.2.2.1 x.2.1.1.2.2.2.2.2.2.1 x.2.1.1.2.2.2.2.2.2.2.1 x.2.1.1.2.2.2.2.2.2.2.2.1 x.2.1.1.2.2.2.2.2.2.2.2.2.1 x.2.1.1.2.2.2.2.2.2.2.2.2.2.1 x.2.1.1.2.2.2.2.2.2.2.2.2.2.2.1 x.2.1.1.2.2.2.2.2.2.2.2.2.2.2.2.1 x.2.1.1.2.2.2.2.2.2.2.2.2.2.2.2.2.1 x.2.2.1⟩
theorem e10_13 (x : i10_13.E) : vround Try.prog C10_13 LO10_13 Try.f10.ntmps l10_13 i10_13 o10_13 x = T10_13 x.1.2.2.1 x.2.1.1.1 x.2.1.1.2.1 x.2.1.1.2.2.1 x.2.1.1.2.2.2.1 x.2.1.1.2.2.2.2.1 x.2.1.1.2.2.2.2.2.1 x.2.1.1.2.2.2.2.2.2.1 x.2.1.1.2.2.2.2.2.2.2.1 x.2.1.1.2.2.2.2.2.2.2.2.1 x.2.1.1.2.2.2.2.2.2.2.2.2.1 x.2.1.1.2.2.2.2.2.2.2.2.2.2.1 x.2.1.1.2.2.2.2.2.2.2.2.2.2.2.1 x.2.1.1.2.2.2.2.2.2.2.2.2.2.2.2.1 x.2.1.1.2.2.2.2.2.2.2.2.2.2.2.2.2.1 x.2.2.1 := by kernel_rfl
theorem k10_13_ok : Con.LOK Try.prog Try.f10.ntmps l10_13 k10_13 := (loop_ok C10_13_ok (loops_of (l := []) (by kernel_rfl) (show LoopsOK Try.prog Try.f10.ntmps [] LO10_13 from trivial)) i10_13 o10_13).congr fun x => (congrArg (fun T => loopF T x) (funext e10_13)).symm
noncomputable def C10_19 : Tab := [(27, c27), (33, c33)]
theorem C10_19_ok : TabOK Try.prog C10_19 := ⟨c27_ok, c33_ok, trivial⟩
noncomputable def LO10_19 : Tab := []
noncomputable def i10_19 : Tm := { sl := [(1, .p 0 0), (3, .o 0), (6, .v (.i .i64))], bx := [[.v (.i .u8), .v (.i .i64), .v (.i .i64), .v .b, .v (.i .u64), .v (.l (.i .u64)), .v (.l tDRw), .v (.l tDEv), .v (.i .u64), .v (.i .u64), .v (.i .u32), .v (.i .u64), .v (.l (.i .u8)), .v (.i .i64)]], bf := [(.i .u8)] }
noncomputable def o10_19 : OT := (.exit 3 { sl := [(3, .o 0)], bx := [[.v (.i .u8), .v (.i .i64), .v (.i .i64), .v .b, .v (.i .u64), .v (.l (.i .u64)), .v (.l tDRw), .v (.l tDEv), .v (.i .u64), .v (.i .u64), .v (.i .u32), .v (.i .u64), .v (.l (.i .u8)), .v (.i .i64)]], bf := [(.i .u8)] })
noncomputable def T10_19 (a6 : Int) (b0_0 : Int) (b0_1 : Int) (b0_2 : Int) (b0_3 : Bool) (b0_4 : Int) (b0_5 : (List Int)) (b0_6 : (List DRw)) (b0_7 : (List DEv)) (b0_8 : Int) (b0_9 : Int) (b0_10 : Int) (b0_11 : Int) (b0_12 : (List Int)) (b0_13 : Int) (q0 : (List Int)) : Option (((Unit × (Unit × (Int × Unit))) × (DLt × Unit) × ((List Int) × Unit)) ⊕ ((Unit × Unit) × (DLt × Unit) × ((List Int) × Unit))) :=
  (bif (decide ((a6 : Int) < (((b0_7).length : Nat) : Int))) then (bif (decide (0 ≤ (a6 : Int) ∧ (a6 : Int) < (((b0_7).length : Nat) : Int))) then ((F33 (((b0_7).getD (a6 : Int).toNat ((0 : Int), ((0 : Int), ((0 : Int), ((0 : Int), (ByteArray.empty, ([], ((0 : Nat), ((0 : Int), ()))))))))).1, (((b0_7).getD (a6 : Int).toNat ((0 : Int), ((0 : Int), ((0 : Int), ((0 : Int), (ByteArray.empty, ([], ((0 : Nat), ((0 : Int), ()))))))))).2.1, (((b0_7).getD (a6 : Int).toNat ((0 : Int), ((0 : Int), ((0 : Int), ((0 : Int), (ByteArray.empty, ([], ((0 : Nat), ((0 : Int), ()))))))))).2.2.1, (((b0_7).getD (a6 : Int).toNat ((0 : Int), ((0 : Int), ((0 : Int), ((0 : Int), (ByteArray.empty, ([], ((0 : Nat), ((0 : Int), ()))))))))).2.2.2.1, (((b0_7).getD (a6 : Int).toNat ((0 : Int), ((0 : Int), ((0 : Int), ((0 : Int), (ByteArray.empty, ([], ((0 : Nat), ((0 : Int), ()))))))))).2.2.2.2.1, (((b0_7).getD (a6 : Int).toNat ((0 : Int), ((0 : Int), ((0 : Int), ((0 : Int), (ByteArray.empty, ([], ((0 : Nat), ((0 : Int), ()))))))))).2.2.2.2.2.1, (((b0_7).getD (a6 : Int).toNat ((0 : Int), ((0 : Int), ((0 : Int), ((0 : Int), (ByteArray.empty, ([], ((0 : Nat), ((0 : Int), ()))))))))).2.2.2.2.2.2.1, (((b0_7).getD (a6 : Int).toNat ((0 : Int), ((0 : Int), ((0 : Int), ((0 : Int), (ByteArray.empty, ([], ((0 : Nat), ((0 : Int), ()))))))))).2.2.2.2.2.2.2.1, ()))))))))).bind fun y165 => ((F27 q0 y165.2.2.1).bind fun y166 => (some (.inl (((), (), (IntKind.wrap .i64 (a6 + 1)), ()), ((b0_0, b0_1, b0_2, b0_3, b0_4, b0_5, b0_6, b0_7, b0_8, b0_9, b0_10, b0_11, b0_12, b0_13, ()), ()), (y166.2.2.1, ())))))) else none) else (some (.inr (((), ()), ((b0_0, b0_1, b0_2, b0_3, b0_4, b0_5, b0_6, b0_7, b0_8, b0_9, b0_10, b0_11, b0_12, b0_13, ()), ()), (q0, ())))))
noncomputable def L10_19 (a6 : Int) (b0_0 : Int) (b0_1 : Int) (b0_2 : Int) (b0_3 : Bool) (b0_4 : Int) (b0_5 : (List Int)) (b0_6 : (List DRw)) (b0_7 : (List DEv)) (b0_8 : Int) (b0_9 : Int) (b0_10 : Int) (b0_11 : Int) (b0_12 : (List Int)) (b0_13 : Int) (q0 : (List Int)) : Option ((Unit × Unit) × (DLt × Unit) × ((List Int) × Unit)) := loopF (fun x : ((Unit × (Unit × (Int × Unit))) × (DLt × Unit) × ((List Int) × Unit)) => T10_19 x.1.2.2.1 x.2.1.1.1 x.2.1.1.2.1 x.2.1.1.2.2.1 x.2.1.1.2.2.2.1 x.2.1.1.2.2.2.2.1 x.2.1.1.2.2.2.2.2.1 x.2.1.1.2.2.2.2.2.2.1 x.2.1.1.2.2.2.2.2.2.2.1 x.2.1.1.2.2.2.2.2.2.2.2.1 x.2.1.1.2.2.2.2.2.2.2.2.2.1 x.2.1.1.2.2.2.2.2.2.2.2.2.2.1 x.2.1.1.2.2.2.2.2.2.2.2.2.2.2.1 x.2.1.1.2.2.2.2.2.2.2.2.2.2.2.2.1 x.2.1.1.2.2.2.2.2.2.2.2.2.2.2.2.2.1 x.2.2.1) (((), (), a6, ()), ((b0_0, b0_1, b0_2, b0_3, b0_4, b0_5, b0_6, b0_7, b0_8, b0_9, b0_10, b0_11, b0_12, b0_13, ()), ()), (q0, ()))
theorem L10_19_eq (a6 : Int) (b0_0 : Int) (b0_1 : Int) (b0_2 : Int) (b0_3 : Bool) (b0_4 : Int) (b0_5 : (List Int)) (b0_6 : (List DRw)) (b0_7 : (List DEv)) (b0_8 : Int) (b0_9 : Int) (b0_10 : Int) (b0_11 : Int) (b0_12 : (List Int)) (b0_13 : Int) (q0 : (List Int)) : L10_19 a6 b0_0 b0_1 b0_2 b0_3 b0_4 b0_5 b0_6 b0_7 b0_8 b0_9 b0_10 b0_11 b0_12 b0_13 q0 = (T10_19 a6 b0_0 b0_1 b0_2 b0_3 b0_4 b0_5 b0_6 b0_7 b0_8 b0_9 b0_10 b0_11 b0_12 b0_13 q0).bind (Sum.elim (fun x => L10_19 x.1.2.2.1 x.2.1.1.1 x.2.1.1.2.1 x.2.1.1.2.2.1 x.2.1.1.2.2.2.1 x.2.1.1.2.2.2.2.1 x.2.1.1.2.2.2.2.2.1 x.2.1.1.2.2.2.2.2.2.1 x.2.1.1.2.2.2.2.2.2.2.1 x.2.1.1.2.2.2.2.2.2.2.2.1 x.2.1.1.2.2.2.2.2.2.2.2.2.1 x.2.1.1.2.2.2.2.2.2.2.2.2.2.1 x.2.1.1.2.2.2.2.2.2.2.2.2.2.2.1 x.2.1.1.2.2.2.2.2.2.2.2.2.2.2.2.1 x.2.1.1.2.2.2.2.2.2.2.2.2.2.2.2.2.1 x.2.2.1) some) := loopF_eq _ _
noncomputable def k10_19 : Con := ⟨i10_19, o10_19, fun x => L10_19 x.1.2.2.1 x.2.1.1.1 x.2.1.1.2.1 x.2.1.1.2.2.1 x.2.1.1.2.2.2.1 x.2.1.1.2.2.2.2.1 x.2.1.1.2.2.2.2.2.1 x.2.1.1.2.2.2.2.2.2.1 x.2.1.1.2.2.2.2.2.2.2.1 x.2.1.1.2.2.2.2.2.2.2.2.1 x.2.1.1.2.2.2.2.2.2.2.2.2.1 x.2.1.1.2.2.2.2.2.2.2.2.2.2.1 x.2.1.1.2.2.2.2.2.2.2.2.2.2.2.1 x.2.1.1.2.2.2.2.2.2.2.2.2.2.2.2.1 x.2.1.1.2.2.2.2.2.2.2.2.2.2.2.2.2.1 x.2.2.1⟩
theorem e10_19 (x : i10_19.E) : vround Try.prog C10_19 LO10_19 Try.f10.ntmps l10_19 i10_19 o10_19 x = T10_19 x.1.2.2.1 x.2.1.1.1 x.2.1.1.2.1 x.2.1.1.2.2.1 x.2.1.1.2.2.2.1 x.2.1.1.2.2.2.2.1 x.2.1.1.2.2.2.2.2.1 x.2.1.1.2.2.2.2.2.2.1 x.2.1.1.2.2.2.2.2.2.2.1 x.2.1.1.2.2.2.2.2.2.2.2.1 x.2.1.1.2.2.2.2.2.2.2.2.2.1 x.2.1.1.2.2.2.2.2.2.2.2.2.2.1 x.2.1.1.2.2.2.2.2.2.2.2.2.2.2.1 x.2.1.1.2.2.2.2.2.2.2.2.2.2.2.2.1 x.2.1.1.2.2.2.2.2.2.2.2.2.2.2.2.2.1 x.2.2.1 := by kernel_rfl
theorem k10_19_ok : Con.LOK Try.prog Try.f10.ntmps l10_19 k10_19 := (loop_ok C10_19_ok (loops_of (l := []) (by kernel_rfl) (show LoopsOK Try.prog Try.f10.ntmps [] LO10_19 from trivial)) i10_19 o10_19).congr fun x => (congrArg (fun T => loopF T x) (funext e10_19)).symm
noncomputable def C10 : Tab := [(13, c13), (26, c26), (27, c27), (28, c28), (33, c33)]
theorem C10_ok : TabOK Try.prog C10 := ⟨c13_ok, c26_ok, c27_ok, c28_ok, c33_ok, trivial⟩
noncomputable def LO10 : Tab := [(13, k10_13), (19, k10_19)]
noncomputable def i10 : Tm := { sl := [(0, .v tDLt)], bx := [], bf := [] }
noncomputable def o10 : OT := (.ret { sl := [(0, .o 0)], bx := [], bf := [(.i .u8)] })
noncomputable def F10 (a0 : DLt) : Option ((Unit × Unit) × Unit × ((List Int) × Unit)) :=
  ((F26 ([] : List Int) 1).bind fun y138 => (bif (decide ((y138.2.2.1).length + ([a0.1]).length < lim)) then (bif a0.2.2.2.1 then ((F26 (y138.2.2.1 ++ [a0.1]) (IntKind.wrap .u64 a0.2.1)).bind fun y139 => ((F26 y139.2.2.1 (IntKind.wrap .u64 a0.2.2.1)).bind fun y140 => ((F26 y140.2.2.1 1).bind fun y141 => ((F26 y141.2.2.1 a0.2.2.2.2.1).bind fun y142 => (bif ((a0.1 : Int) == 1) then ((F28 y142.2.2.1 a0.2.2.2.2.2.1).bind fun y143 => ((F26 y143.2.2.1 (IntKind.wrap .u64 (((a0.2.2.2.2.2.2.1).length : Nat) : Int))).bind fun y144 => ((L10_13 0 a0.1 a0.2.1 a0.2.2.1 a0.2.2.2.1 a0.2.2.2.2.1 a0.2.2.2.2.2.1 a0.2.2.2.2.2.2.1 a0.2.2.2.2.2.2.2.1 a0.2.2.2.2.2.2.2.2.1 a0.2.2.2.2.2.2.2.2.2.1 a0.2.2.2.2.2.2.2.2.2.2.1 a0.2.2.2.2.2.2.2.2.2.2.2.1 a0.2.2.2.2.2.2.2.2.2.2.2.2.1 a0.2.2.2.2.2.2.2.2.2.2.2.2.2.1 y144.2.2.1).bind fun y151 => ((F13 y151.2.2.1).bind fun y152 => (some (((), ()), (), (y152.2.2.1, ()))))))) else (bif ((a0.1 : Int) == 2) then ((F28 y142.2.2.1 a0.2.2.2.2.2.1).bind fun y153 => ((F26 y153.2.2.1 (IntKind.wrap .u64 (((a0.2.2.2.2.2.2.1).length : Nat) : Int))).bind fun y154 => ((L10_13 0 a0.1 a0.2.1 a0.2.2.1 a0.2.2.2.1 a0.2.2.2.2.1 a0.2.2.2.2.2.1 a0.2.2.2.2.2.2.1 a0.2.2.2.2.2.2.2.1 a0.2.2.2.2.2.2.2.2.1 a0.2.2.2.2.2.2.2.2.2.1 a0.2.2.2.2.2.2.2.2.2.2.1 a0.2.2.2.2.2.2.2.2.2.2.2.1 a0.2.2.2.2.2.2.2.2.2.2.2.2.1 a0.2.2.2.2.2.2.2.2.2.2.2.2.2.1 y154.2.2.1).bind fun y155 => ((F13 y155.2.2.1).bind fun y156 => (some (((), ()), (), (y156.2.2.1, ()))))))) else (bif ((a0.1 : Int) == 4) then ((F28 y142.2.2.1 a0.2.2.2.2.2.1).bind fun y157 => ((F26 y157.2.2.1 (IntKind.wrap .u64 (((a0.2.2.2.2.2.2.1).length : Nat) : Int))).bind fun y158 => ((L10_13 0 a0.1 a0.2.1 a0.2.2.1 a0.2.2.2.1 a0.2.2.2.2.1 a0.2.2.2.2.2.1 a0.2.2.2.2.2.2.1 a0.2.2.2.2.2.2.2.1 a0.2.2.2.2.2.2.2.2.1 a0.2.2.2.2.2.2.2.2.2.1 a0.2.2.2.2.2.2.2.2.2.2.1 a0.2.2.2.2.2.2.2.2.2.2.2.1 a0.2.2.2.2.2.2.2.2.2.2.2.2.1 a0.2.2.2.2.2.2.2.2.2.2.2.2.2.1 y158.2.2.1).bind fun y159 => ((F13 y159.2.2.1).bind fun y160 => (some (((), ()), (), (y160.2.2.1, ()))))))) else (bif ((a0.1 : Int) == 3) then ((F28 y142.2.2.1 a0.2.2.2.2.2.1).bind fun y161 => ((F26 y161.2.2.1 (IntKind.wrap .u64 (((a0.2.2.2.2.2.2.2.1).length : Nat) : Int))).bind fun y162 => ((L10_19 0 a0.1 a0.2.1 a0.2.2.1 a0.2.2.2.1 a0.2.2.2.2.1 a0.2.2.2.2.2.1 a0.2.2.2.2.2.2.1 a0.2.2.2.2.2.2.2.1 a0.2.2.2.2.2.2.2.2.1 a0.2.2.2.2.2.2.2.2.2.1 a0.2.2.2.2.2.2.2.2.2.2.1 a0.2.2.2.2.2.2.2.2.2.2.2.1 a0.2.2.2.2.2.2.2.2.2.2.2.2.1 a0.2.2.2.2.2.2.2.2.2.2.2.2.2.1 y162.2.2.1).bind fun y167 => ((F13 y167.2.2.1).bind fun y168 => (some (((), ()), (), (y168.2.2.1, ()))))))) else (bif ((a0.1 : Int) == 5) then ((F28 y142.2.2.1 a0.2.2.2.2.2.1).bind fun y169 => ((F26 y169.2.2.1 a0.2.2.2.2.2.2.2.2.1).bind fun y170 => ((F26 y170.2.2.1 a0.2.2.2.2.2.2.2.2.2.1).bind fun y171 => ((F26 y171.2.2.1 (IntKind.wrap .u64 a0.2.2.2.2.2.2.2.2.2.2.1)).bind fun y172 => ((F13 y172.2.2.1).bind fun y173 => (some (((), ()), (), (y173.2.2.1, ())))))))) else (bif ((a0.1 : Int) == 6) then ((F26 y142.2.2.1 a0.2.2.2.2.2.2.2.2.2.1).bind fun y174 => ((F26 y174.2.2.1 a0.2.2.2.2.2.2.2.2.2.2.2.1).bind fun y175 => ((F27 y175.2.2.1 a0.2.2.2.2.2.2.2.2.2.2.2.2.1).bind fun y176 => ((F13 y176.2.2.1).bind fun y177 => (some (((), ()), (), (y177.2.2.1, ()))))))) else ((F26 y142.2.2.1 (IntKind.wrap .u64 a0.2.2.2.2.2.2.2.2.2.2.2.2.2.1)).bind fun y178 => ((F13 y178.2.2.1).bind fun y179 => (some (((), ()), (), (y179.2.2.1, ()))))))))))))))) else ((F26 (y138.2.2.1 ++ [a0.1]) (IntKind.wrap .u64 a0.2.1)).bind fun y180 => ((F26 y180.2.2.1 (IntKind.wrap .u64 a0.2.2.1)).bind fun y181 => ((F26 y181.2.2.1 0).bind fun y182 => ((F26 y182.2.2.1 a0.2.2.2.2.1).bind fun y183 => (bif ((a0.1 : Int) == 1) then ((F28 y183.2.2.1 a0.2.2.2.2.2.1).bind fun y184 => ((F26 y184.2.2.1 (IntKind.wrap .u64 (((a0.2.2.2.2.2.2.1).length : Nat) : Int))).bind fun y185 => ((L10_13 0 a0.1 a0.2.1 a0.2.2.1 a0.2.2.2.1 a0.2.2.2.2.1 a0.2.2.2.2.2.1 a0.2.2.2.2.2.2.1 a0.2.2.2.2.2.2.2.1 a0.2.2.2.2.2.2.2.2.1 a0.2.2.2.2.2.2.2.2.2.1 a0.2.2.2.2.2.2.2.2.2.2.1 a0.2.2.2.2.2.2.2.2.2.2.2.1 a0.2.2.2.2.2.2.2.2.2.2.2.2.1 a0.2.2.2.2.2.2.2.2.2.2.2.2.2.1 y185.2.2.1).bind fun y186 => ((F13 y186.2.2.1).bind fun y187 => (some (((), ()), (), (y187.2.2.1, ()))))))) else (bif ((a0.1 : Int) == 2) then ((F28 y183.2.2.1 a0.2.2.2.2.2.1).bind fun y188 => ((F26 y188.2.2.1 (IntKind.wrap .u64 (((a0.2.2.2.2.2.2.1).length : Nat) : Int))).bind fun y189 => ((L10_13 0 a0.1 a0.2.1 a0.2.2.1 a0.2.2.2.1 a0.2.2.2.2.1 a0.2.2.2.2.2.1 a0.2.2.2.2.2.2.1 a0.2.2.2.2.2.2.2.1 a0.2.2.2.2.2.2.2.2.1 a0.2.2.2.2.2.2.2.2.2.1 a0.2.2.2.2.2.2.2.2.2.2.1 a0.2.2.2.2.2.2.2.2.2.2.2.1 a0.2.2.2.2.2.2.2.2.2.2.2.2.1 a0.2.2.2.2.2.2.2.2.2.2.2.2.2.1 y189.2.2.1).bind fun y190 => ((F13 y190.2.2.1).bind fun y191 => (some (((), ()), (), (y191.2.2.1, ()))))))) else (bif ((a0.1 : Int) == 4) then ((F28 y183.2.2.1 a0.2.2.2.2.2.1).bind fun y192 => ((F26 y192.2.2.1 (IntKind.wrap .u64 (((a0.2.2.2.2.2.2.1).length : Nat) : Int))).bind fun y193 => ((L10_13 0 a0.1 a0.2.1 a0.2.2.1 a0.2.2.2.1 a0.2.2.2.2.1 a0.2.2.2.2.2.1 a0.2.2.2.2.2.2.1 a0.2.2.2.2.2.2.2.1 a0.2.2.2.2.2.2.2.2.1 a0.2.2.2.2.2.2.2.2.2.1 a0.2.2.2.2.2.2.2.2.2.2.1 a0.2.2.2.2.2.2.2.2.2.2.2.1 a0.2.2.2.2.2.2.2.2.2.2.2.2.1 a0.2.2.2.2.2.2.2.2.2.2.2.2.2.1 y193.2.2.1).bind fun y194 => ((F13 y194.2.2.1).bind fun y195 => (some (((), ()), (), (y195.2.2.1, ()))))))) else (bif ((a0.1 : Int) == 3) then ((F28 y183.2.2.1 a0.2.2.2.2.2.1).bind fun y196 => ((F26 y196.2.2.1 (IntKind.wrap .u64 (((a0.2.2.2.2.2.2.2.1).length : Nat) : Int))).bind fun y197 => ((L10_19 0 a0.1 a0.2.1 a0.2.2.1 a0.2.2.2.1 a0.2.2.2.2.1 a0.2.2.2.2.2.1 a0.2.2.2.2.2.2.1 a0.2.2.2.2.2.2.2.1 a0.2.2.2.2.2.2.2.2.1 a0.2.2.2.2.2.2.2.2.2.1 a0.2.2.2.2.2.2.2.2.2.2.1 a0.2.2.2.2.2.2.2.2.2.2.2.1 a0.2.2.2.2.2.2.2.2.2.2.2.2.1 a0.2.2.2.2.2.2.2.2.2.2.2.2.2.1 y197.2.2.1).bind fun y198 => ((F13 y198.2.2.1).bind fun y199 => (some (((), ()), (), (y199.2.2.1, ()))))))) else (bif ((a0.1 : Int) == 5) then ((F28 y183.2.2.1 a0.2.2.2.2.2.1).bind fun y200 => ((F26 y200.2.2.1 a0.2.2.2.2.2.2.2.2.1).bind fun y201 => ((F26 y201.2.2.1 a0.2.2.2.2.2.2.2.2.2.1).bind fun y202 => ((F26 y202.2.2.1 (IntKind.wrap .u64 a0.2.2.2.2.2.2.2.2.2.2.1)).bind fun y203 => ((F13 y203.2.2.1).bind fun y204 => (some (((), ()), (), (y204.2.2.1, ())))))))) else (bif ((a0.1 : Int) == 6) then ((F26 y183.2.2.1 a0.2.2.2.2.2.2.2.2.2.1).bind fun y205 => ((F26 y205.2.2.1 a0.2.2.2.2.2.2.2.2.2.2.2.1).bind fun y206 => ((F27 y206.2.2.1 a0.2.2.2.2.2.2.2.2.2.2.2.2.1).bind fun y207 => ((F13 y207.2.2.1).bind fun y208 => (some (((), ()), (), (y208.2.2.1, ()))))))) else ((F26 y183.2.2.1 (IntKind.wrap .u64 a0.2.2.2.2.2.2.2.2.2.2.2.2.2.1)).bind fun y209 => ((F13 y209.2.2.1).bind fun y210 => (some (((), ()), (), (y210.2.2.1, ())))))))))))))))) else none))
noncomputable def c10 : Con := ⟨i10, o10, fun x => F10 x.1.1⟩
theorem e10 (x : i10.E) : vfn Try.prog C10 LO10 Try.f10 b10 i10 o10 x = F10 x.1.1 := by kernel_rfl
theorem c10_ok : Con.OK Try.prog 10 c10 := (fn_ok C10_ok Try.func10 body10 (loops_of (l := [l10_13, l10_19]) (by kernel_rfl) (show LoopsOK Try.prog Try.f10.ntmps [l10_13, l10_19] LO10 from ⟨k10_13_ok, k10_19_ok, trivial⟩)) i10 o10).congr fun x => (e10 x).symm
noncomputable def b81 : Code := (.seq (.region 0 (regOf Try.f81 0) false) (.cond (.tmp 3) (.region 1 (regOf Try.f81 1) false) .skip))
theorem body81 : Try.f81.body = some b81 := by kernel_rfl
noncomputable def C81 : Tab := []
theorem C81_ok : TabOK Try.prog C81 := trivial
noncomputable def LO81 : Tab := []
noncomputable def i81 : Tm := { sl := [(0, .v (.i .i64))], bx := [], bf := [] }
noncomputable def o81 : OT := (.two (.ret { sl := [], bx := [], bf := [] }) (.pnc 130 .i64 { sl := [], bx := [], bf := [] }))
noncomputable def F81 (a0 : Int) : Option ((Unit × Unit × Unit) ⊕ (Int × (Unit × Unit × Unit))) :=
  (bif ((a0 : Int) != 0) then (some (.inr (a0, ((), (), ())))) else (some (.inl ((), (), ()))))
noncomputable def c81 : Con := ⟨i81, o81, fun x => F81 x.1.1⟩
theorem e81 (x : i81.E) : vfn Try.prog C81 LO81 Try.f81 b81 i81 o81 x = F81 x.1.1 := by kernel_rfl
theorem c81_ok : Con.OK Try.prog 81 c81 := (fn_ok C81_ok Try.func81 body81 (loops_of (l := []) (by kernel_rfl) (show LoopsOK Try.prog Try.f81.ntmps [] LO81 from trivial)) i81 o81).congr fun x => (e81 x).symm
noncomputable def b57 : Code := (.seq (.region 0 (regOf Try.f57 0) false) (.seq (.region 1 (regOf Try.f57 1) false) .ret))
theorem body57 : Try.f57.body = some b57 := by kernel_rfl
noncomputable def C57 : Tab := []
theorem C57_ok : TabOK Try.prog C57 := trivial
noncomputable def LO57 : Tab := []
noncomputable def i57 : Tm := { sl := [(0, .v (.l (.i .u8)))], bx := [], bf := [] }
noncomputable def o57 : OT := (.ret { sl := [(0, .p 0 0)], bx := [[.v (.l (.i .u8))]], bf := [] })
noncomputable def F57 (a0 : (List Int)) : Option ((Unit × Unit) × (((List Int) × Unit) × Unit) × Unit) :=
  (some (((), ()), ((a0, ()), ()), ()))
noncomputable def c57 : Con := ⟨i57, o57, fun x => F57 x.1.1⟩
theorem e57 (x : i57.E) : vfn Try.prog C57 LO57 Try.f57 b57 i57 o57 x = F57 x.1.1 := by kernel_rfl
theorem c57_ok : Con.OK Try.prog 57 c57 := (fn_ok C57_ok Try.func57 body57 (loops_of (l := []) (by kernel_rfl) (show LoopsOK Try.prog Try.f57.ntmps [] LO57 from trivial)) i57 o57).congr fun x => (e57 x).symm
noncomputable def b58 : Code := (.seq (.region 0 (regOf Try.f58 0) false) (.seq (.region 1 (regOf Try.f58 1) false) (.seq (.region 2 (regOf Try.f58 2) false) (.seq (.seq (.region 3 (regOf Try.f58 3) false) (.cond (.tmp 21) (.region 4 (regOf Try.f58 4) false) .skip)) (.seq (.region 5 (regOf Try.f58 5) false) (.seq (.region 6 (regOf Try.f58 6) false) .ret))))))
theorem body58 : Try.f58.body = some b58 := by kernel_rfl
noncomputable def C58 : Tab := [(80, c80), (81, c81)]
theorem C58_ok : TabOK Try.prog C58 := ⟨c80_ok, c81_ok, trivial⟩
noncomputable def LO58 : Tab := []
noncomputable def i58 : Tm := { sl := [(0, .p 0 0), (1, .v (.i .u64))], bx := [[.v (.l (.i .u8))]], bf := [] }
noncomputable def o58 : OT := (.two (.ret { sl := [(0, .v (.i .u64))], bx := [[.v (.l (.i .u8))]], bf := [] }) (.pnc 130 .i64 { sl := [], bx := [[.v (.l (.i .u8))]], bf := [] }))
noncomputable def F58 (a1 : Int) (b0_0 : (List Int)) : Option (((Int × Unit) × (((List Int) × Unit) × Unit) × Unit) ⊕ (Int × (Unit × (((List Int) × Unit) × Unit) × Unit))) :=
  ((F80 b0_0).bind fun y211 => ((F81 y211.1.2.2.1).bind fun y212 => (Sum.elim (fun y213 => (bif (decide ((y211.1.1 : Int) > a1)) then ((F81 6).bind fun y214 => (Sum.elim (fun y215 => (some (.inl ((y211.1.1, ()), ((y211.1.2.1, ()), ()), ())))) (fun y215 => (some (.inr (y215.1, ((), ((b0_0, ()), ()), ()))))) y214)) else (some (.inl ((y211.1.1, ()), ((y211.1.2.1, ()), ()), ()))))) (fun y213 => (some (.inr (y213.1, ((), ((b0_0, ()), ()), ()))))) y212)))
noncomputable def c58 : Con := ⟨i58, o58, fun x => F58 x.1.2.1 x.2.1.1.1⟩
theorem e58 (x : i58.E) : vfn Try.prog C58 LO58 Try.f58 b58 i58 o58 x = F58 x.1.2.1 x.2.1.1.1 := by kernel_rfl
theorem c58_ok : Con.OK Try.prog 58 c58 := (fn_ok C58_ok Try.func58 body58 (loops_of (l := []) (by kernel_rfl) (show LoopsOK Try.prog Try.f58.ntmps [] LO58 from trivial)) i58 o58).congr fun x => (e58 x).symm
noncomputable def b73 : Code := (.seq (.region 0 (regOf Try.f73 0) false) (.seq (.seq (.region 1 (regOf Try.f73 1) false) (.cond (.tmp 9) (.region 2 (regOf Try.f73 2) false) .skip)) (.seq (.region 3 (regOf Try.f73 3) false) (.seq (.region 4 (regOf Try.f73 4) false) (.seq (.region 5 (regOf Try.f73 5) false) .ret)))))
theorem body73 : Try.f73.body = some b73 := by kernel_rfl
noncomputable def C73 : Tab := [(81, c81)]
theorem C73_ok : TabOK Try.prog C73 := ⟨c81_ok, trivial⟩
noncomputable def LO73 : Tab := []
noncomputable def i73 : Tm := { sl := [(0, .p 0 0)], bx := [[.v (.l (.i .u8))]], bf := [] }
noncomputable def o73 : OT := (.two (.ret { sl := [(0, .v (.i .u8))], bx := [[.v (.l (.i .u8))]], bf := [] }) (.pnc 130 .i64 { sl := [], bx := [[.v (.l (.i .u8))]], bf := [] }))
noncomputable def F73 (b0_0 : (List Int)) : Option (((Int × Unit) × (((List Int) × Unit) × Unit) × Unit) ⊕ (Int × (Unit × (((List Int) × Unit) × Unit) × Unit))) :=
  (bif (((((b0_0).length : Nat) : Int) : Int) == 0) then ((F81 5).bind fun y216 => (Sum.elim (fun y217 => (bif (decide (0 ≤ (0 : Int) ∧ (0 : Int) < (((b0_0).length : Nat) : Int))) then (bif (decide (0 ≤ (1 : Int) ∧ (1 : Int) ≤ (((b0_0).length : Nat) : Int))) then (some (.inl ((((b0_0).getD (0 : Int).toNat (0 : Int)), ()), ((((b0_0).drop (1 : Int).toNat), ()), ()), ()))) else none) else none)) (fun y217 => (some (.inr (y217.1, ((), ((b0_0, ()), ()), ()))))) y216)) else (bif (decide (0 ≤ (0 : Int) ∧ (0 : Int) < (((b0_0).length : Nat) : Int))) then (bif (decide (0 ≤ (1 : Int) ∧ (1 : Int) ≤ (((b0_0).length : Nat) : Int))) then (some (.inl ((((b0_0).getD (0 : Int).toNat (0 : Int)), ()), ((((b0_0).drop (1 : Int).toNat), ()), ()), ()))) else none) else none))
noncomputable def c73 : Con := ⟨i73, o73, fun x => F73 x.2.1.1.1⟩
theorem e73 (x : i73.E) : vfn Try.prog C73 LO73 Try.f73 b73 i73 o73 x = F73 x.2.1.1.1 := by kernel_rfl
theorem c73_ok : Con.OK Try.prog 73 c73 := (fn_ok C73_ok Try.func73 body73 (loops_of (l := []) (by kernel_rfl) (show LoopsOK Try.prog Try.f73.ntmps [] LO73 from trivial)) i73 o73).congr fun x => (e73 x).symm
noncomputable def b60 : Code := (.seq (.region 0 (regOf Try.f60 0) false) (.seq (.region 1 (regOf Try.f60 1) false) (.seq (.region 2 (regOf Try.f60 2) false) (.seq (.region 3 (regOf Try.f60 3) false) (.seq (.region 4 (regOf Try.f60 4) false) .ret)))))
theorem body60 : Try.f60.body = some b60 := by kernel_rfl
noncomputable def C60 : Tab := [(70, c70), (81, c81)]
theorem C60_ok : TabOK Try.prog C60 := ⟨c70_ok, c81_ok, trivial⟩
noncomputable def LO60 : Tab := []
noncomputable def i60 : Tm := { sl := [(0, .p 0 0), (1, .v (.i .i64))], bx := [[.v (.l (.i .u8))]], bf := [] }
noncomputable def o60 : OT := (.two (.ret { sl := [(0, .v (.l (.i .u8)))], bx := [[.v (.l (.i .u8))]], bf := [] }) (.pnc 130 .i64 { sl := [], bx := [[.v (.l (.i .u8))]], bf := [] }))
noncomputable def F60 (a1 : Int) (b0_0 : (List Int)) : Option ((((List Int) × Unit) × (((List Int) × Unit) × Unit) × Unit) ⊕ (Int × (Unit × (((List Int) × Unit) × Unit) × Unit))) :=
  ((F70 b0_0 a1).bind fun y218 => ((F81 y218.1.2.2.1).bind fun y219 => (Sum.elim (fun y220 => (some (.inl ((y218.1.1, ()), ((y218.1.2.1, ()), ()), ())))) (fun y220 => (some (.inr (y220.1, ((), ((b0_0, ()), ()), ()))))) y219)))
noncomputable def c60 : Con := ⟨i60, o60, fun x => F60 x.1.2.1 x.2.1.1.1⟩
theorem e60 (x : i60.E) : vfn Try.prog C60 LO60 Try.f60 b60 i60 o60 x = F60 x.1.2.1 x.2.1.1.1 := by kernel_rfl
theorem c60_ok : Con.OK Try.prog 60 c60 := (fn_ok C60_ok Try.func60 body60 (loops_of (l := []) (by kernel_rfl) (show LoopsOK Try.prog Try.f60.ntmps [] LO60 from trivial)) i60 o60).congr fun x => (e60 x).symm
noncomputable def l97_3 : Code := (.seq (.region 3 (regOf Try.f97 3) false) (.seq (.cond (.tmp 5) .skip (.exit 0)) (.seq (.block 1 (.region 4 (regOf Try.f97 4) false)) (.region 5 (regOf Try.f97 5) false))))
noncomputable def b97 : Code := (.seq (.region 0 (regOf Try.f97 0) false) (.seq (.region 1 (regOf Try.f97 1) false) (.seq (.seq (.region 2 (regOf Try.f97 2) false) (.block 0 (.loop l97_3))) (.seq (.region 6 (regOf Try.f97 6) false) .ret))))
theorem body97 : Try.f97.body = some b97 := by kernel_rfl
noncomputable def C97_3 : Tab := [(73, c73)]
theorem C97_3_ok : TabOK Try.prog C97_3 := ⟨c73_ok, trivial⟩
noncomputable def LO97_3 : Tab := []
noncomputable def i97_3 : Tm := { sl := [(0, .p 0 0), (3, .v (.i .u64)), (4, .v (.i .i64))], bx := [[.v (.l (.i .u8))]], bf := [] }
noncomputable def o97_3 : OT := (.two (.pnc 130 .i64 { sl := [], bx := [[.v (.l (.i .u8))]], bf := [] }) (.exit 0 { sl := [(3, .v (.i .u64))], bx := [[.v (.l (.i .u8))]], bf := [] }))
noncomputable def T97_3 (a3 : Int) (a4 : Int) (b0_0 : (List Int)) : Option (((Unit × (Int × (Int × Unit))) × (((List Int) × Unit) × Unit) × Unit) ⊕ ((Int × (Unit × (((List Int) × Unit) × Unit) × Unit)) ⊕ ((Int × Unit) × (((List Int) × Unit) × Unit) × Unit))) :=
  (bif (decide ((a4 : Int) < 8)) then ((F73 b0_0).bind fun y223 => (Sum.elim (fun y224 => (some (.inl (((), (iOr .u64 (iShl .u64 a3 8) (IntKind.wrap .u64 y224.1.1)), (IntKind.wrap .i64 (a4 + 1)), ()), ((y224.2.1.1.1, ()), ()), ())))) (fun y224 => (some (.inr (.inl (y224.1, ((), ((y224.2.2.1.1.1, ()), ()), ())))))) y223)) else (some (.inr (.inr ((a3, ()), ((b0_0, ()), ()), ())))))
noncomputable def L97_3 (a3 : Int) (a4 : Int) (b0_0 : (List Int)) : Option ((Int × (Unit × (((List Int) × Unit) × Unit) × Unit)) ⊕ ((Int × Unit) × (((List Int) × Unit) × Unit) × Unit)) := loopF (fun x : ((Unit × (Int × (Int × Unit))) × (((List Int) × Unit) × Unit) × Unit) => T97_3 x.1.2.1 x.1.2.2.1 x.2.1.1.1) (((), a3, a4, ()), ((b0_0, ()), ()), ())
noncomputable def k97_3 : Con := ⟨i97_3, o97_3, fun x => L97_3 x.1.2.1 x.1.2.2.1 x.2.1.1.1⟩
theorem e97_3 (x : i97_3.E) : vround Try.prog C97_3 LO97_3 Try.f97.ntmps l97_3 i97_3 o97_3 x = T97_3 x.1.2.1 x.1.2.2.1 x.2.1.1.1 := by kernel_rfl
theorem k97_3_ok : Con.LOK Try.prog Try.f97.ntmps l97_3 k97_3 := (loop_ok C97_3_ok (loops_of (l := []) (by kernel_rfl) (show LoopsOK Try.prog Try.f97.ntmps [] LO97_3 from trivial)) i97_3 o97_3).congr fun x => (congrArg (fun T => loopF T x) (funext e97_3)).symm
noncomputable def C97 : Tab := [(73, c73)]
theorem C97_ok : TabOK Try.prog C97 := ⟨c73_ok, trivial⟩
noncomputable def LO97 : Tab := [(3, k97_3)]
noncomputable def i97 : Tm := { sl := [(0, .p 0 0)], bx := [[.v (.l (.i .u8))]], bf := [] }
noncomputable def o97 : OT := (.two (.ret { sl := [(0, .v (.i .u64))], bx := [[.v (.l (.i .u8))]], bf := [] }) (.pnc 130 .i64 { sl := [], bx := [[.v (.l (.i .u8))]], bf := [] }))
noncomputable def F97 (b0_0 : (List Int)) : Option (((Int × Unit) × (((List Int) × Unit) × Unit) × Unit) ⊕ (Int × (Unit × (((List Int) × Unit) × Unit) × Unit))) :=
  ((L97_3 0 0 b0_0).bind fun y225 => (Sum.elim (fun y226 => (some (.inr (y226.1, ((), ((y226.2.2.1.1.1, ()), ()), ()))))) (fun y226 => (some (.inl ((y226.1.1, ()), ((y226.2.1.1.1, ()), ()), ())))) y225))
noncomputable def c97 : Con := ⟨i97, o97, fun x => F97 x.2.1.1.1⟩
theorem e97 (x : i97.E) : vfn Try.prog C97 LO97 Try.f97 b97 i97 o97 x = F97 x.2.1.1.1 := by kernel_rfl
theorem c97_ok : Con.OK Try.prog 97 c97 := (fn_ok C97_ok Try.func97 body97 (loops_of (l := [l97_3]) (by kernel_rfl) (show LoopsOK Try.prog Try.f97.ntmps [l97_3] LO97 from ⟨k97_3_ok, trivial⟩)) i97 o97).congr fun x => (e97 x).symm
noncomputable def b61 : Code := (.seq (.region 0 (regOf Try.f61 0) false) (.cond (.tmp 7) (.region 1 (regOf Try.f61 1) false) .skip))
theorem body61 : Try.f61.body = some b61 := by kernel_rfl
noncomputable def C61 : Tab := [(81, c81)]
theorem C61_ok : TabOK Try.prog C61 := ⟨c81_ok, trivial⟩
noncomputable def LO61 : Tab := []
noncomputable def i61 : Tm := { sl := [(0, .p 0 0)], bx := [[.v (.l (.i .u8))]], bf := [] }
noncomputable def o61 : OT := (.two (.ret { sl := [], bx := [[.v (.l (.i .u8))]], bf := [] }) (.pnc 130 .i64 { sl := [], bx := [[.v (.l (.i .u8))]], bf := [] }))
noncomputable def F61 (b0_0 : (List Int)) : Option ((Unit × (((List Int) × Unit) × Unit) × Unit) ⊕ (Int × (Unit × (((List Int) × Unit) × Unit) × Unit))) :=
  (bif (decide (((((b0_0).length : Nat) : Int) : Int) > 0)) then ((F81 4).bind fun y227 => (Sum.elim (fun y228 => (some (.inl ((), ((b0_0, ()), ()), ())))) (fun y228 => (some (.inr (y228.1, ((), ((b0_0, ()), ()), ()))))) y227)) else (some (.inl ((), ((b0_0, ()), ()), ()))))
noncomputable def c61 : Con := ⟨i61, o61, fun x => F61 x.2.1.1.1⟩
theorem e61 (x : i61.E) : vfn Try.prog C61 LO61 Try.f61 b61 i61 o61 x = F61 x.2.1.1.1 := by kernel_rfl
theorem c61_ok : Con.OK Try.prog 61 c61 := (fn_ok C61_ok Try.func61 body61 (loops_of (l := []) (by kernel_rfl) (show LoopsOK Try.prog Try.f61.ntmps [] LO61 from trivial)) i61 o61).congr fun x => (e61 x).symm
noncomputable def l59_3 : Code := (.seq (.region 3 (regOf Try.f59 3) false) (.seq (.cond (.tmp 7) .skip (.exit 0)) (.seq (.block 1 (.region 4 (regOf Try.f59 4) false)) (.region 5 (regOf Try.f59 5) false))))
noncomputable def b59 : Code := (.seq (.region 0 (regOf Try.f59 0) false) (.seq (.region 1 (regOf Try.f59 1) false) (.seq (.seq (.region 2 (regOf Try.f59 2) false) (.block 0 (.loop l59_3))) (.seq (.region 6 (regOf Try.f59 6) false) .ret))))
theorem body59 : Try.f59.body = some b59 := by kernel_rfl
noncomputable def C59_3 : Tab := [(58, c58)]
theorem C59_3_ok : TabOK Try.prog C59_3 := ⟨c58_ok, trivial⟩
noncomputable def LO59_3 : Tab := []
noncomputable def i59_3 : Tm := { sl := [(0, .p 0 0), (3, .o 0), (5, .v (.i .u64)), (6, .v (.i .u64))], bx := [[.v (.l (.i .u8))]], bf := [(.i .u64)] }
noncomputable def o59_3 : OT := (.two (.pnc 130 .i64 { sl := [], bx := [[.v (.l (.i .u8))]], bf := [] }) (.exit 0 { sl := [(3, .o 0)], bx := [[.v (.l (.i .u8))]], bf := [(.i .u64)] }))
noncomputable def T59_3 (a5 : Int) (a6 : Int) (b0_0 : (List Int)) (q0 : (List Int)) : Option (((Unit × (Unit × (Int × (Int × Unit)))) × (((List Int) × Unit) × Unit) × ((List Int) × Unit)) ⊕ ((Int × (Unit × (((List Int) × Unit) × Unit) × Unit)) ⊕ ((Unit × Unit) × (((List Int) × Unit) × Unit) × ((List Int) × Unit)))) :=
  (bif (decide ((a6 : Int) < a5)) then ((F58 9223372036854775807 b0_0).bind fun y233 => (Sum.elim (fun y234 => (bif (decide ((q0).length + ([y234.1.1]).length < lim)) then (some (.inl (((), (), a5, (IntKind.wrap .u64 (a6 + 1)), ()), ((y234.2.1.1.1, ()), ()), ((q0 ++ [y234.1.1]), ())))) else none)) (fun y234 => (some (.inr (.inl (y234.1, ((), ((y234.2.2.1.1.1, ()), ()), ())))))) y233)) else (some (.inr (.inr (((), ()), ((b0_0, ()), ()), (q0, ()))))))
noncomputable def L59_3 (a5 : Int) (a6 : Int) (b0_0 : (List Int)) (q0 : (List Int)) : Option ((Int × (Unit × (((List Int) × Unit) × Unit) × Unit)) ⊕ ((Unit × Unit) × (((List Int) × Unit) × Unit) × ((List Int) × Unit))) := loopF (fun x : ((Unit × (Unit × (Int × (Int × Unit)))) × (((List Int) × Unit) × Unit) × ((List Int) × Unit)) => T59_3 x.1.2.2.1 x.1.2.2.2.1 x.2.1.1.1 x.2.2.1) (((), (), a5, a6, ()), ((b0_0, ()), ()), (q0, ()))
noncomputable def k59_3 : Con := ⟨i59_3, o59_3, fun x => L59_3 x.1.2.2.1 x.1.2.2.2.1 x.2.1.1.1 x.2.2.1⟩
theorem e59_3 (x : i59_3.E) : vround Try.prog C59_3 LO59_3 Try.f59.ntmps l59_3 i59_3 o59_3 x = T59_3 x.1.2.2.1 x.1.2.2.2.1 x.2.1.1.1 x.2.2.1 := by kernel_rfl
theorem k59_3_ok : Con.LOK Try.prog Try.f59.ntmps l59_3 k59_3 := (loop_ok C59_3_ok (loops_of (l := []) (by kernel_rfl) (show LoopsOK Try.prog Try.f59.ntmps [] LO59_3 from trivial)) i59_3 o59_3).congr fun x => (congrArg (fun T => loopF T x) (funext e59_3)).symm
noncomputable def C59 : Tab := [(58, c58)]
theorem C59_ok : TabOK Try.prog C59 := ⟨c58_ok, trivial⟩
noncomputable def LO59 : Tab := [(3, k59_3)]
noncomputable def i59 : Tm := { sl := [(0, .p 0 0)], bx := [[.v (.l (.i .u8))]], bf := [] }
noncomputable def o59 : OT := (.two (.ret { sl := [(0, .v (.l (.i .u64)))], bx := [[.v (.l (.i .u8))]], bf := [] }) (.pnc 130 .i64 { sl := [], bx := [[.v (.l (.i .u8))]], bf := [] }))
noncomputable def F59 (b0_0 : (List Int)) : Option ((((List Int) × Unit) × (((List Int) × Unit) × Unit) × Unit) ⊕ (Int × (Unit × (((List Int) × Unit) × Unit) × Unit))) :=
  ((F58 64 b0_0).bind fun y229 => (Sum.elim (fun y230 => ((L59_3 y230.1.1 0 y230.2.1.1.1 ([] : List Int)).bind fun y235 => (Sum.elim (fun y236 => (some (.inr (y236.1, ((), ((y236.2.2.1.1.1, ()), ()), ()))))) (fun y236 => (some (.inl ((y236.2.2.1, ()), ((y236.2.1.1.1, ()), ()), ())))) y235))) (fun y230 => (some (.inr (y230.1, ((), ((y230.2.2.1.1.1, ()), ()), ()))))) y229))
noncomputable def c59 : Con := ⟨i59, o59, fun x => F59 x.2.1.1.1⟩
theorem e59 (x : i59.E) : vfn Try.prog C59 LO59 Try.f59 b59 i59 o59 x = F59 x.2.1.1.1 := by kernel_rfl
theorem c59_ok : Con.OK Try.prog 59 c59 := (fn_ok C59_ok Try.func59 body59 (loops_of (l := [l59_3]) (by kernel_rfl) (show LoopsOK Try.prog Try.f59.ntmps [l59_3] LO59 from ⟨k59_3_ok, trivial⟩)) i59 o59).congr fun x => (e59 x).symm
noncomputable def b96 : Code := (.seq (.region 0 (regOf Try.f96 0) false) (.seq (.region 1 (regOf Try.f96 1) false) (.seq (.region 2 (regOf Try.f96 2) false) .ret)))
theorem body96 : Try.f96.body = some b96 := by kernel_rfl
noncomputable def C96 : Tab := [(84, c84)]
theorem C96_ok : TabOK Try.prog C96 := ⟨c84_ok, trivial⟩
noncomputable def LO96 : Tab := []
noncomputable def i96 : Tm := { sl := [(0, .v (.i .u64))], bx := [], bf := [] }
noncomputable def o96 : OT := (.ret { sl := [(0, .v (.f .f64)), (1, .v .b)], bx := [], bf := [] })
noncomputable def F96 (a0 : Int) : Option ((Nat × (Bool × Unit)) × Unit × Unit) :=
  ((F84 ((a0 : Int).toNat)).bind fun y237 => (some (((a0 : Int).toNat, ((y237.1.1 : Int) == a0), ()), (), ())))
noncomputable def c96 : Con := ⟨i96, o96, fun x => F96 x.1.1⟩
theorem e96 (x : i96.E) : vfn Try.prog C96 LO96 Try.f96 b96 i96 o96 x = F96 x.1.1 := by kernel_rfl
theorem c96_ok : Con.OK Try.prog 96 c96 := (fn_ok C96_ok Try.func96 body96 (loops_of (l := []) (by kernel_rfl) (show LoopsOK Try.prog Try.f96.ntmps [] LO96 from trivial)) i96 o96).congr fun x => (e96 x).symm
noncomputable def b98 : Code := (.seq (.region 0 (regOf Try.f98 0) false) (.seq (.region 1 (regOf Try.f98 1) false) .ret))
theorem body98 : Try.f98.body = some b98 := by kernel_rfl
noncomputable def C98 : Tab := []
theorem C98_ok : TabOK Try.prog C98 := trivial
noncomputable def LO98 : Tab := []
noncomputable def i98 : Tm := { sl := [(0, .v (.i .i64))], bx := [], bf := [] }
noncomputable def o98 : OT := (.ret { sl := [(0, .v .b)], bx := [], bf := [] })
noncomputable def F98 (a0 : Int) : Option ((Bool × Unit) × Unit × Unit) :=
  (bif (decide ((a0 : Int) ≥ 0)) then (some (((decide ((a0 : Int) < 64)), ()), (), ())) else (some ((false, ()), (), ())))
noncomputable def c98 : Con := ⟨i98, o98, fun x => F98 x.1.1⟩
theorem e98 (x : i98.E) : vfn Try.prog C98 LO98 Try.f98 b98 i98 o98 x = F98 x.1.1 := by kernel_rfl
theorem c98_ok : Con.OK Try.prog 98 c98 := (fn_ok C98_ok Try.func98 body98 (loops_of (l := []) (by kernel_rfl) (show LoopsOK Try.prog Try.f98.ntmps [] LO98 from trivial)) i98 o98).congr fun x => (e98 x).symm
noncomputable def b90 : Code := (.seq (.region 0 (regOf Try.f90 0) false) (.seq (.region 1 (regOf Try.f90 1) false) (.seq (.block 0 (.seq (.region 2 (regOf Try.f90 2) false) (.cond (.tmp 12) (.seq (.region 3 (regOf Try.f90 3) false) .ret) (.seq (.region 4 (regOf Try.f90 4) false) (.cond (.tmp 48) (.seq (.region 5 (regOf Try.f90 5) false) .ret) (.seq (.region 6 (regOf Try.f90 6) false) (.cond (.tmp 73) (.seq (.region 7 (regOf Try.f90 7) false) .ret) .skip))))))) (.seq (.region 8 (regOf Try.f90 8) false) .ret))))
theorem body90 : Try.f90.body = some b90 := by kernel_rfl
noncomputable def C90 : Tab := [(98, c98)]
theorem C90_ok : TabOK Try.prog C90 := ⟨c98_ok, trivial⟩
noncomputable def LO90 : Tab := []
noncomputable def i90 : Tm := { sl := [(0, .v tDEv)], bx := [], bf := [] }
noncomputable def o90 : OT := (.ret { sl := [(0, .v (.i .i64))], bx := [], bf := [] })
noncomputable def F90 (a0 : DEv) : Option ((Int × Unit) × Unit × Unit) :=
  (bif (decide ((a0.2.2.2.1 : Int) ≥ 1)) then ((F98 a0.1).bind fun y238 => (bif (!y238.1.1) then (some ((1, ()), (), ())) else (bif ((a0.2.1 : Int) == 0) then (some ((1, ()), (), ())) else (bif ((a0.2.2.1 : Int) == 0) then (some ((1, ()), (), ())) else (bif (decide ((a0.2.2.2.1 : Int) < 1)) then (some ((1, ()), (), ())) else (bif (decide ((a0.2.2.2.1 : Int) > 6)) then (some ((1, ()), (), ())) else (bif ((a0.2.2.2.1 : Int) == 5) then ((F98 a0.2.2.2.2.2.2.2.1).bind fun y239 => (bif (!y239.1.1) then (some ((1, ()), (), ())) else (bif (decide ((a0.2.2.2.1 : Int) ≤ 4)) then (bif ((((a0.2.2.2.2.1.size : Nat) : Int) : Int) == 0) then (some ((6, ()), (), ())) else (bif (decide ((((a0.2.2.2.2.1.size : Nat) : Int) : Int) > 64)) then (some ((6, ()), (), ())) else (bif ((a0.2.2.2.1 : Int) == 1) then (bif (decide (((((a0.2.2.2.2.2.1).length : Nat) : Int) : Int) > 1048576)) then (some ((6, ()), (), ())) else (bif (decide ((a0.2.1 : Int) > 9223372036854775807)) then (some ((8, ()), (), ())) else (bif (decide ((a0.2.2.1 : Int) > 9223372036854775807)) then (some ((8, ()), (), ())) else (some ((0, ()), (), ()))))) else (bif (decide ((a0.2.1 : Int) > 9223372036854775807)) then (some ((8, ()), (), ())) else (bif (decide ((a0.2.2.1 : Int) > 9223372036854775807)) then (some ((8, ()), (), ())) else (some ((0, ()), (), ()))))))) else (bif ((a0.2.2.2.1 : Int) == 1) then (bif (decide (((((a0.2.2.2.2.2.1).length : Nat) : Int) : Int) > 1048576)) then (some ((6, ()), (), ())) else (bif (decide ((a0.2.1 : Int) > 9223372036854775807)) then (some ((8, ()), (), ())) else (bif (decide ((a0.2.2.1 : Int) > 9223372036854775807)) then (some ((8, ()), (), ())) else (some ((0, ()), (), ()))))) else (bif (decide ((a0.2.1 : Int) > 9223372036854775807)) then (some ((8, ()), (), ())) else (bif (decide ((a0.2.2.1 : Int) > 9223372036854775807)) then (some ((8, ()), (), ())) else (some ((0, ()), (), ())))))))) else (bif (decide ((a0.2.2.2.1 : Int) ≤ 4)) then (bif ((((a0.2.2.2.2.1.size : Nat) : Int) : Int) == 0) then (some ((6, ()), (), ())) else (bif (decide ((((a0.2.2.2.2.1.size : Nat) : Int) : Int) > 64)) then (some ((6, ()), (), ())) else (bif ((a0.2.2.2.1 : Int) == 1) then (bif (decide (((((a0.2.2.2.2.2.1).length : Nat) : Int) : Int) > 1048576)) then (some ((6, ()), (), ())) else (bif (decide ((a0.2.1 : Int) > 9223372036854775807)) then (some ((8, ()), (), ())) else (bif (decide ((a0.2.2.1 : Int) > 9223372036854775807)) then (some ((8, ()), (), ())) else (some ((0, ()), (), ()))))) else (bif (decide ((a0.2.1 : Int) > 9223372036854775807)) then (some ((8, ()), (), ())) else (bif (decide ((a0.2.2.1 : Int) > 9223372036854775807)) then (some ((8, ()), (), ())) else (some ((0, ()), (), ()))))))) else (bif ((a0.2.2.2.1 : Int) == 1) then (bif (decide (((((a0.2.2.2.2.2.1).length : Nat) : Int) : Int) > 1048576)) then (some ((6, ()), (), ())) else (bif (decide ((a0.2.1 : Int) > 9223372036854775807)) then (some ((8, ()), (), ())) else (bif (decide ((a0.2.2.1 : Int) > 9223372036854775807)) then (some ((8, ()), (), ())) else (some ((0, ()), (), ()))))) else (bif (decide ((a0.2.1 : Int) > 9223372036854775807)) then (some ((8, ()), (), ())) else (bif (decide ((a0.2.2.1 : Int) > 9223372036854775807)) then (some ((8, ()), (), ())) else (some ((0, ()), (), ()))))))))))))) else ((F98 a0.1).bind fun y240 => (bif (!y240.1.1) then (some ((1, ()), (), ())) else (bif ((a0.2.1 : Int) == 0) then (some ((1, ()), (), ())) else (bif ((a0.2.2.1 : Int) == 0) then (some ((1, ()), (), ())) else (bif (decide ((a0.2.2.2.1 : Int) < 1)) then (some ((1, ()), (), ())) else (bif (decide ((a0.2.2.2.1 : Int) > 6)) then (some ((1, ()), (), ())) else (bif ((a0.2.2.2.1 : Int) == 5) then ((F98 a0.2.2.2.2.2.2.2.1).bind fun y241 => (bif (!y241.1.1) then (some ((1, ()), (), ())) else (bif ((a0.2.2.2.1 : Int) == 1) then (bif (decide (((((a0.2.2.2.2.2.1).length : Nat) : Int) : Int) > 1048576)) then (some ((6, ()), (), ())) else (bif (decide ((a0.2.1 : Int) > 9223372036854775807)) then (some ((8, ()), (), ())) else (bif (decide ((a0.2.2.1 : Int) > 9223372036854775807)) then (some ((8, ()), (), ())) else (some ((0, ()), (), ()))))) else (bif (decide ((a0.2.1 : Int) > 9223372036854775807)) then (some ((8, ()), (), ())) else (bif (decide ((a0.2.2.1 : Int) > 9223372036854775807)) then (some ((8, ()), (), ())) else (some ((0, ()), (), ()))))))) else (bif ((a0.2.2.2.1 : Int) == 1) then (bif (decide (((((a0.2.2.2.2.2.1).length : Nat) : Int) : Int) > 1048576)) then (some ((6, ()), (), ())) else (bif (decide ((a0.2.1 : Int) > 9223372036854775807)) then (some ((8, ()), (), ())) else (bif (decide ((a0.2.2.1 : Int) > 9223372036854775807)) then (some ((8, ()), (), ())) else (some ((0, ()), (), ()))))) else (bif (decide ((a0.2.1 : Int) > 9223372036854775807)) then (some ((8, ()), (), ())) else (bif (decide ((a0.2.2.1 : Int) > 9223372036854775807)) then (some ((8, ()), (), ())) else (some ((0, ()), (), ())))))))))))))
noncomputable def c90 : Con := ⟨i90, o90, fun x => F90 x.1.1⟩
theorem e90 (x : i90.E) : vfn Try.prog C90 LO90 Try.f90 b90 i90 o90 x = F90 x.1.1 := by kernel_rfl
theorem c90_ok : Con.OK Try.prog 90 c90 := (fn_ok C90_ok Try.func90 body90 (loops_of (l := []) (by kernel_rfl) (show LoopsOK Try.prog Try.f90.ntmps [] LO90 from trivial)) i90 o90).congr fun x => (e90 x).symm
noncomputable def b89 : Code := (.seq (.region 0 (regOf Try.f89 0) false) (.seq (.region 1 (regOf Try.f89 1) false) (.seq (.region 2 (regOf Try.f89 2) false) (.seq (.region 3 (regOf Try.f89 3) false) (.seq (.seq (.region 4 (regOf Try.f89 4) false) (.cond (.tmp 26) (.region 5 (regOf Try.f89 5) false) .skip)) (.seq (.seq (.region 6 (regOf Try.f89 6) false) (.block 0 (.seq (.region 7 (regOf Try.f89 7) false) (.cond (.tmp 33) (.region 8 (regOf Try.f89 8) false) (.seq (.seq (.region 9 (regOf Try.f89 9) false) (.cond (.tmp 38) .skip (.region 10 (regOf Try.f89 10) false))) (.cond (.tmp 38) (.seq (.region 11 (regOf Try.f89 11) false) (.seq (.seq (.region 12 (regOf Try.f89 12) false) (.cond (.tmp 48) (.seq (.region 13 (regOf Try.f89 13) false) .ret) .skip)) (.region 14 (regOf Try.f89 14) false))) (.seq (.region 15 (regOf Try.f89 15) false) (.cond (.tmp 52) (.region 16 (regOf Try.f89 16) false) .skip)))))))) (.seq (.region 17 (regOf Try.f89 17) false) (.seq (.region 18 (regOf Try.f89 18) false) .ret))))))))
theorem body89 : Try.f89.body = some b89 := by kernel_rfl
noncomputable def C89 : Tab := [(57, c57), (58, c58), (60, c60), (61, c61), (73, c73), (96, c96), (97, c97)]
theorem C89_ok : TabOK Try.prog C89 := ⟨c57_ok, c58_ok, c60_ok, c61_ok, c73_ok, c96_ok, c97_ok, trivial⟩
noncomputable def LO89 : Tab := []
noncomputable def i89 : Tm := { sl := [(0, .v (.l (.i .u8)))], bx := [], bf := [] }
noncomputable def o89 : OT := (.ret { sl := [(0, .v tDEv), (1, .v (.i .i64))], bx := [], bf := [] })
noncomputable def F89 (a0 : (List Int)) : Option ((DEv × (Int × Unit)) × Unit × Unit) :=
  ((F57 a0).bind fun y242 => ((F58 63 y242.2.1.1.1).bind fun y243 => (Sum.elim (fun y244 => ((F58 18446744073709551615 y244.2.1.1.1).bind fun y245 => (Sum.elim (fun y246 => ((F58 18446744073709551615 y246.2.1.1.1).bind fun y247 => (Sum.elim (fun y248 => ((F73 y248.2.1.1.1).bind fun y249 => (Sum.elim (fun y250 => (bif (decide ((y250.1.1 : Int) ≥ 1)) then (bif (decide ((y250.1.1 : Int) ≤ 4)) then ((F60 64 y250.2.1.1.1).bind fun y251 => (Sum.elim (fun y252 => (bif ((y250.1.1 : Int) == 1) then ((F60 1048576 y252.2.1.1.1).bind fun y253 => (Sum.elim (fun y254 => ((F61 y254.2.1.1.1).bind fun y255 => (Sum.elim (fun y256 => (some ((((IntKind.wrap .i64 y244.1.1), (y246.1.1, (y248.1.1, (y250.1.1, ((strL y252.1.1), (y254.1.1, (0, (0, ())))))))), 0, ()), (), ()))) (fun y256 => (some ((((IntKind.wrap .i64 y244.1.1), (y246.1.1, (y248.1.1, (y250.1.1, ((strL y252.1.1), (y254.1.1, (0, (0, ())))))))), y256.1, ()), (), ()))) y255))) (fun y254 => (some ((((IntKind.wrap .i64 y244.1.1), (y246.1.1, (y248.1.1, (y250.1.1, ((strL y252.1.1), (([] : List Int), (0, (0, ())))))))), y254.1, ()), (), ()))) y253)) else (bif ((y250.1.1 : Int) == 2) then ((F97 y252.2.1.1.1).bind fun y257 => (Sum.elim (fun y258 => ((F96 y258.1.1).bind fun y259 => (bif (!y259.1.2.1) then (some (((0, (0, (0, (0, (ByteArray.empty, (([] : List Int), (0, (0, ())))))))), 4, ()), (), ())) else ((F61 y258.2.1.1.1).bind fun y260 => (Sum.elim (fun y261 => (some ((((IntKind.wrap .i64 y244.1.1), (y246.1.1, (y248.1.1, (y250.1.1, ((strL y252.1.1), (([] : List Int), (y259.1.1, (0, ())))))))), 0, ()), (), ()))) (fun y261 => (some ((((IntKind.wrap .i64 y244.1.1), (y246.1.1, (y248.1.1, (y250.1.1, ((strL y252.1.1), (([] : List Int), (y259.1.1, (0, ())))))))), y261.1, ()), (), ()))) y260))))) (fun y258 => (some ((((IntKind.wrap .i64 y244.1.1), (y246.1.1, (y248.1.1, (y250.1.1, ((strL y252.1.1), (([] : List Int), (0, (0, ())))))))), y258.1, ()), (), ()))) y257)) else (bif ((y250.1.1 : Int) == 3) then ((F97 y252.2.1.1.1).bind fun y262 => (Sum.elim (fun y263 => ((F96 y263.1.1).bind fun y264 => (bif (!y264.1.2.1) then (some (((0, (0, (0, (0, (ByteArray.empty, (([] : List Int), (0, (0, ())))))))), 4, ()), (), ())) else ((F61 y263.2.1.1.1).bind fun y265 => (Sum.elim (fun y266 => (some ((((IntKind.wrap .i64 y244.1.1), (y246.1.1, (y248.1.1, (y250.1.1, ((strL y252.1.1), (([] : List Int), (y264.1.1, (0, ())))))))), 0, ()), (), ()))) (fun y266 => (some ((((IntKind.wrap .i64 y244.1.1), (y246.1.1, (y248.1.1, (y250.1.1, ((strL y252.1.1), (([] : List Int), (y264.1.1, (0, ())))))))), y266.1, ()), (), ()))) y265))))) (fun y263 => (some ((((IntKind.wrap .i64 y244.1.1), (y246.1.1, (y248.1.1, (y250.1.1, ((strL y252.1.1), (([] : List Int), (0, (0, ())))))))), y263.1, ()), (), ()))) y262)) else (bif ((y250.1.1 : Int) == 5) then ((F58 63 y252.2.1.1.1).bind fun y267 => (Sum.elim (fun y268 => ((F61 y268.2.1.1.1).bind fun y269 => (Sum.elim (fun y270 => (some ((((IntKind.wrap .i64 y244.1.1), (y246.1.1, (y248.1.1, (y250.1.1, ((strL y252.1.1), (([] : List Int), (0, ((IntKind.wrap .i64 y268.1.1), ())))))))), 0, ()), (), ()))) (fun y270 => (some ((((IntKind.wrap .i64 y244.1.1), (y246.1.1, (y248.1.1, (y250.1.1, ((strL y252.1.1), (([] : List Int), (0, ((IntKind.wrap .i64 y268.1.1), ())))))))), y270.1, ()), (), ()))) y269))) (fun y268 => (some ((((IntKind.wrap .i64 y244.1.1), (y246.1.1, (y248.1.1, (y250.1.1, ((strL y252.1.1), (([] : List Int), (0, (0, ())))))))), y268.1, ()), (), ()))) y267)) else ((F61 y252.2.1.1.1).bind fun y271 => (Sum.elim (fun y272 => (some ((((IntKind.wrap .i64 y244.1.1), (y246.1.1, (y248.1.1, (y250.1.1, ((strL y252.1.1), (([] : List Int), (0, (0, ())))))))), 0, ()), (), ()))) (fun y272 => (some ((((IntKind.wrap .i64 y244.1.1), (y246.1.1, (y248.1.1, (y250.1.1, ((strL y252.1.1), (([] : List Int), (0, (0, ())))))))), y272.1, ()), (), ()))) y271))))))) (fun y252 => (some ((((IntKind.wrap .i64 y244.1.1), (y246.1.1, (y248.1.1, (y250.1.1, (ByteArray.empty, (([] : List Int), (0, (0, ())))))))), y252.1, ()), (), ()))) y251)) else (bif ((y250.1.1 : Int) == 1) then ((F60 1048576 y250.2.1.1.1).bind fun y273 => (Sum.elim (fun y274 => ((F61 y274.2.1.1.1).bind fun y275 => (Sum.elim (fun y276 => (some ((((IntKind.wrap .i64 y244.1.1), (y246.1.1, (y248.1.1, (y250.1.1, (ByteArray.empty, (y274.1.1, (0, (0, ())))))))), 0, ()), (), ()))) (fun y276 => (some ((((IntKind.wrap .i64 y244.1.1), (y246.1.1, (y248.1.1, (y250.1.1, (ByteArray.empty, (y274.1.1, (0, (0, ())))))))), y276.1, ()), (), ()))) y275))) (fun y274 => (some ((((IntKind.wrap .i64 y244.1.1), (y246.1.1, (y248.1.1, (y250.1.1, (ByteArray.empty, (([] : List Int), (0, (0, ())))))))), y274.1, ()), (), ()))) y273)) else (bif ((y250.1.1 : Int) == 2) then ((F97 y250.2.1.1.1).bind fun y277 => (Sum.elim (fun y278 => ((F96 y278.1.1).bind fun y279 => (bif (!y279.1.2.1) then (some (((0, (0, (0, (0, (ByteArray.empty, (([] : List Int), (0, (0, ())))))))), 4, ()), (), ())) else ((F61 y278.2.1.1.1).bind fun y280 => (Sum.elim (fun y281 => (some ((((IntKind.wrap .i64 y244.1.1), (y246.1.1, (y248.1.1, (y250.1.1, (ByteArray.empty, (([] : List Int), (y279.1.1, (0, ())))))))), 0, ()), (), ()))) (fun y281 => (some ((((IntKind.wrap .i64 y244.1.1), (y246.1.1, (y248.1.1, (y250.1.1, (ByteArray.empty, (([] : List Int), (y279.1.1, (0, ())))))))), y281.1, ()), (), ()))) y280))))) (fun y278 => (some ((((IntKind.wrap .i64 y244.1.1), (y246.1.1, (y248.1.1, (y250.1.1, (ByteArray.empty, (([] : List Int), (0, (0, ())))))))), y278.1, ()), (), ()))) y277)) else (bif ((y250.1.1 : Int) == 3) then ((F97 y250.2.1.1.1).bind fun y282 => (Sum.elim (fun y283 => ((F96 y283.1.1).bind fun y284 => (bif (!y284.1.2.1) then (some (((0, (0, (0, (0, (ByteArray.empty, (([] : List Int), (0, (0, ())))))))), 4, ()), (), ())) else ((F61 y283.2.1.1.1).bind fun y285 => (Sum.elim (fun y286 => (some ((((IntKind.wrap .i64 y244.1.1), (y246.1.1, (y248.1.1, (y250.1.1, (ByteArray.empty, (([] : List Int), (y284.1.1, (0, ())))))))), 0, ()), (), ()))) (fun y286 => (some ((((IntKind.wrap .i64 y244.1.1), (y246.1.1, (y248.1.1, (y250.1.1, (ByteArray.empty, (([] : List Int), (y284.1.1, (0, ())))))))), y286.1, ()), (), ()))) y285))))) (fun y283 => (some ((((IntKind.wrap .i64 y244.1.1), (y246.1.1, (y248.1.1, (y250.1.1, (ByteArray.empty, (([] : List Int), (0, (0, ())))))))), y283.1, ()), (), ()))) y282)) else (bif ((y250.1.1 : Int) == 5) then ((F58 63 y250.2.1.1.1).bind fun y287 => (Sum.elim (fun y288 => ((F61 y288.2.1.1.1).bind fun y289 => (Sum.elim (fun y290 => (some ((((IntKind.wrap .i64 y244.1.1), (y246.1.1, (y248.1.1, (y250.1.1, (ByteArray.empty, (([] : List Int), (0, ((IntKind.wrap .i64 y288.1.1), ())))))))), 0, ()), (), ()))) (fun y290 => (some ((((IntKind.wrap .i64 y244.1.1), (y246.1.1, (y248.1.1, (y250.1.1, (ByteArray.empty, (([] : List Int), (0, ((IntKind.wrap .i64 y288.1.1), ())))))))), y290.1, ()), (), ()))) y289))) (fun y288 => (some ((((IntKind.wrap .i64 y244.1.1), (y246.1.1, (y248.1.1, (y250.1.1, (ByteArray.empty, (([] : List Int), (0, (0, ())))))))), y288.1, ()), (), ()))) y287)) else ((F61 y250.2.1.1.1).bind fun y291 => (Sum.elim (fun y292 => (some ((((IntKind.wrap .i64 y244.1.1), (y246.1.1, (y248.1.1, (y250.1.1, (ByteArray.empty, (([] : List Int), (0, (0, ())))))))), 0, ()), (), ()))) (fun y292 => (some ((((IntKind.wrap .i64 y244.1.1), (y246.1.1, (y248.1.1, (y250.1.1, (ByteArray.empty, (([] : List Int), (0, (0, ())))))))), y292.1, ()), (), ()))) y291))))))) else (bif ((y250.1.1 : Int) == 1) then ((F60 1048576 y250.2.1.1.1).bind fun y293 => (Sum.elim (fun y294 => ((F61 y294.2.1.1.1).bind fun y295 => (Sum.elim (fun y296 => (some ((((IntKind.wrap .i64 y244.1.1), (y246.1.1, (y248.1.1, (y250.1.1, (ByteArray.empty, (y294.1.1, (0, (0, ())))))))), 0, ()), (), ()))) (fun y296 => (some ((((IntKind.wrap .i64 y244.1.1), (y246.1.1, (y248.1.1, (y250.1.1, (ByteArray.empty, (y294.1.1, (0, (0, ())))))))), y296.1, ()), (), ()))) y295))) (fun y294 => (some ((((IntKind.wrap .i64 y244.1.1), (y246.1.1, (y248.1.1, (y250.1.1, (ByteArray.empty, (([] : List Int), (0, (0, ())))))))), y294.1, ()), (), ()))) y293)) else (bif ((y250.1.1 : Int) == 2) then ((F97 y250.2.1.1.1).bind fun y297 => (Sum.elim (fun y298 => ((F96 y298.1.1).bind fun y299 => (bif (!y299.1.2.1) then (some (((0, (0, (0, (0, (ByteArray.empty, (([] : List Int), (0, (0, ())))))))), 4, ()), (), ())) else ((F61 y298.2.1.1.1).bind fun y300 => (Sum.elim (fun y301 => (some ((((IntKind.wrap .i64 y244.1.1), (y246.1.1, (y248.1.1, (y250.1.1, (ByteArray.empty, (([] : List Int), (y299.1.1, (0, ())))))))), 0, ()), (), ()))) (fun y301 => (some ((((IntKind.wrap .i64 y244.1.1), (y246.1.1, (y248.1.1, (y250.1.1, (ByteArray.empty, (([] : List Int), (y299.1.1, (0, ())))))))), y301.1, ()), (), ()))) y300))))) (fun y298 => (some ((((IntKind.wrap .i64 y244.1.1), (y246.1.1, (y248.1.1, (y250.1.1, (ByteArray.empty, (([] : List Int), (0, (0, ())))))))), y298.1, ()), (), ()))) y297)) else (bif ((y250.1.1 : Int) == 3) then ((F97 y250.2.1.1.1).bind fun y302 => (Sum.elim (fun y303 => ((F96 y303.1.1).bind fun y304 => (bif (!y304.1.2.1) then (some (((0, (0, (0, (0, (ByteArray.empty, (([] : List Int), (0, (0, ())))))))), 4, ()), (), ())) else ((F61 y303.2.1.1.1).bind fun y305 => (Sum.elim (fun y306 => (some ((((IntKind.wrap .i64 y244.1.1), (y246.1.1, (y248.1.1, (y250.1.1, (ByteArray.empty, (([] : List Int), (y304.1.1, (0, ())))))))), 0, ()), (), ()))) (fun y306 => (some ((((IntKind.wrap .i64 y244.1.1), (y246.1.1, (y248.1.1, (y250.1.1, (ByteArray.empty, (([] : List Int), (y304.1.1, (0, ())))))))), y306.1, ()), (), ()))) y305))))) (fun y303 => (some ((((IntKind.wrap .i64 y244.1.1), (y246.1.1, (y248.1.1, (y250.1.1, (ByteArray.empty, (([] : List Int), (0, (0, ())))))))), y303.1, ()), (), ()))) y302)) else (bif ((y250.1.1 : Int) == 5) then ((F58 63 y250.2.1.1.1).bind fun y307 => (Sum.elim (fun y308 => ((F61 y308.2.1.1.1).bind fun y309 => (Sum.elim (fun y310 => (some ((((IntKind.wrap .i64 y244.1.1), (y246.1.1, (y248.1.1, (y250.1.1, (ByteArray.empty, (([] : List Int), (0, ((IntKind.wrap .i64 y308.1.1), ())))))))), 0, ()), (), ()))) (fun y310 => (some ((((IntKind.wrap .i64 y244.1.1), (y246.1.1, (y248.1.1, (y250.1.1, (ByteArray.empty, (([] : List Int), (0, ((IntKind.wrap .i64 y308.1.1), ())))))))), y310.1, ()), (), ()))) y309))) (fun y308 => (some ((((IntKind.wrap .i64 y244.1.1), (y246.1.1, (y248.1.1, (y250.1.1, (ByteArray.empty, (([] : List Int), (0, (0, ())))))))), y308.1, ()), (), ()))) y307)) else ((F61 y250.2.1.1.1).bind fun y311 => (Sum.elim (fun y312 => (some ((((IntKind.wrap .i64 y244.1.1), (y246.1.1, (y248.1.1, (y250.1.1, (ByteArray.empty, (([] : List Int), (0, (0, ())))))))), 0, ()), (), ()))) (fun y312 => (some ((((IntKind.wrap .i64 y244.1.1), (y246.1.1, (y248.1.1, (y250.1.1, (ByteArray.empty, (([] : List Int), (0, (0, ())))))))), y312.1, ()), (), ()))) y311)))))))) (fun y250 => (some (((0, (0, (0, (0, (ByteArray.empty, (([] : List Int), (0, (0, ())))))))), y250.1, ()), (), ()))) y249))) (fun y248 => (some (((0, (0, (0, (0, (ByteArray.empty, (([] : List Int), (0, (0, ())))))))), y248.1, ()), (), ()))) y247))) (fun y246 => (some (((0, (0, (0, (0, (ByteArray.empty, (([] : List Int), (0, (0, ())))))))), y246.1, ()), (), ()))) y245))) (fun y244 => (some (((0, (0, (0, (0, (ByteArray.empty, (([] : List Int), (0, (0, ())))))))), y244.1, ()), (), ()))) y243)))
noncomputable def c89 : Con := ⟨i89, o89, fun x => F89 x.1.1⟩
theorem e89 (x : i89.E) : vfn Try.prog C89 LO89 Try.f89 b89 i89 o89 x = F89 x.1.1 := by kernel_rfl
theorem c89_ok : Con.OK Try.prog 89 c89 := (fn_ok C89_ok Try.func89 body89 (loops_of (l := []) (by kernel_rfl) (show LoopsOK Try.prog Try.f89.ntmps [] LO89 from trivial)) i89 o89).congr fun x => (e89 x).symm
noncomputable def b75 : Code := (.seq (.region 0 (regOf Try.f75 0) false) (.seq (.region 1 (regOf Try.f75 1) false) (.seq (.seq (.region 2 (regOf Try.f75 2) false) (.cond (.tmp 12) (.region 3 (regOf Try.f75 3) false) .skip)) (.seq (.seq (.region 4 (regOf Try.f75 4) false) (.cond (.tmp 16) (.seq (.region 5 (regOf Try.f75 5) false) .ret) .skip)) (.seq (.region 6 (regOf Try.f75 6) false) .ret)))))
theorem body75 : Try.f75.body = some b75 := by kernel_rfl
noncomputable def C75 : Tab := [(89, c89), (90, c90)]
theorem C75_ok : TabOK Try.prog C75 := ⟨c89_ok, c90_ok, trivial⟩
noncomputable def LO75 : Tab := []
noncomputable def i75 : Tm := { sl := [(0, .v (.l (.i .u8)))], bx := [], bf := [] }
noncomputable def o75 : OT := (.ret { sl := [(0, .v tDEv), (1, .v (.i .i64))], bx := [], bf := [] })
noncomputable def F75 (a0 : (List Int)) : Option ((DEv × (Int × Unit)) × Unit × Unit) :=
  ((F89 a0).bind fun y313 => (bif ((y313.1.2.1 : Int) == 0) then ((F90 (y313.1.1.1, (y313.1.1.2.1, (y313.1.1.2.2.1, (y313.1.1.2.2.2.1, (y313.1.1.2.2.2.2.1, (y313.1.1.2.2.2.2.2.1, (y313.1.1.2.2.2.2.2.2.1, (y313.1.1.2.2.2.2.2.2.2.1, ()))))))))).bind fun y314 => (bif ((y314.1.1 : Int) != 0) then (some (((0, (0, (0, (0, (ByteArray.empty, (([] : List Int), (0, (0, ())))))))), y314.1.1, ()), (), ())) else (some (((y313.1.1.1, (y313.1.1.2.1, (y313.1.1.2.2.1, (y313.1.1.2.2.2.1, (y313.1.1.2.2.2.2.1, (y313.1.1.2.2.2.2.2.1, (y313.1.1.2.2.2.2.2.2.1, (y313.1.1.2.2.2.2.2.2.2.1, ())))))))), 0, ()), (), ())))) else (bif ((y313.1.2.1 : Int) != 0) then (some (((0, (0, (0, (0, (ByteArray.empty, (([] : List Int), (0, (0, ())))))))), y313.1.2.1, ()), (), ())) else (some (((y313.1.1.1, (y313.1.1.2.1, (y313.1.1.2.2.1, (y313.1.1.2.2.2.1, (y313.1.1.2.2.2.2.1, (y313.1.1.2.2.2.2.2.1, (y313.1.1.2.2.2.2.2.2.1, (y313.1.1.2.2.2.2.2.2.2.1, ())))))))), 0, ()), (), ())))))
noncomputable def c75 : Con := ⟨i75, o75, fun x => F75 x.1.1⟩
theorem e75 (x : i75.E) : vfn Try.prog C75 LO75 Try.f75 b75 i75 o75 x = F75 x.1.1 := by kernel_rfl
theorem c75_ok : Con.OK Try.prog 75 c75 := (fn_ok C75_ok Try.func75 body75 (loops_of (l := []) (by kernel_rfl) (show LoopsOK Try.prog Try.f75.ntmps [] LO75 from trivial)) i75 o75).congr fun x => (e75 x).symm
noncomputable def l74_3 : Code := (.seq (.region 3 (regOf Try.f74 3) false) (.seq (.cond (.tmp 7) .skip (.exit 0)) (.seq (.block 1 (.region 4 (regOf Try.f74 4) false)) (.region 5 (regOf Try.f74 5) false))))
noncomputable def b74 : Code := (.seq (.region 0 (regOf Try.f74 0) false) (.seq (.region 1 (regOf Try.f74 1) false) (.seq (.seq (.region 2 (regOf Try.f74 2) false) (.block 0 (.loop l74_3))) (.seq (.region 6 (regOf Try.f74 6) false) .ret))))
theorem body74 : Try.f74.body = some b74 := by kernel_rfl
noncomputable def C74_3 : Tab := [(58, c58), (59, c59)]
theorem C74_3_ok : TabOK Try.prog C74_3 := ⟨c58_ok, c59_ok, trivial⟩
noncomputable def LO74_3 : Tab := []
noncomputable def i74_3 : Tm := { sl := [(0, .p 0 0), (3, .o 0), (5, .v (.i .u64)), (6, .v (.i .u64))], bx := [[.v (.l (.i .u8))]], bf := [tDRw] }
noncomputable def o74_3 : OT := (.two (.pnc 130 .i64 { sl := [], bx := [[.v (.l (.i .u8))]], bf := [] }) (.exit 0 { sl := [(3, .o 0)], bx := [[.v (.l (.i .u8))]], bf := [tDRw] }))
noncomputable def T74_3 (a5 : Int) (a6 : Int) (b0_0 : (List Int)) (q0 : (List DRw)) : Option (((Unit × (Unit × (Int × (Int × Unit)))) × (((List Int) × Unit) × Unit) × ((List DRw) × Unit)) ⊕ ((Int × (Unit × (((List Int) × Unit) × Unit) × Unit)) ⊕ ((Unit × Unit) × (((List Int) × Unit) × Unit) × ((List DRw) × Unit)))) :=
  (bif (decide ((a6 : Int) < a5)) then ((F58 63 b0_0).bind fun y323 => (Sum.elim (fun y324 => ((F59 y324.2.1.1.1).bind fun y325 => (Sum.elim (fun y326 => ((F58 9223372036854775807 y326.2.1.1.1).bind fun y327 => (Sum.elim (fun y328 => (bif (decide ((q0).length + ([((IntKind.wrap .i64 y324.1.1), (y326.1.1, (y328.1.1, ())))]).length < lim)) then (some (.inl (((), (), a5, (IntKind.wrap .u64 (a6 + 1)), ()), ((y328.2.1.1.1, ()), ()), ((q0 ++ [((IntKind.wrap .i64 y324.1.1), (y326.1.1, (y328.1.1, ())))]), ())))) else none)) (fun y328 => (some (.inr (.inl (y328.1, ((), ((y328.2.2.1.1.1, ()), ()), ())))))) y327))) (fun y326 => (some (.inr (.inl (y326.1, ((), ((y326.2.2.1.1.1, ()), ()), ())))))) y325))) (fun y324 => (some (.inr (.inl (y324.1, ((), ((y324.2.2.1.1.1, ()), ()), ())))))) y323)) else (some (.inr (.inr (((), ()), ((b0_0, ()), ()), (q0, ()))))))
noncomputable def L74_3 (a5 : Int) (a6 : Int) (b0_0 : (List Int)) (q0 : (List DRw)) : Option ((Int × (Unit × (((List Int) × Unit) × Unit) × Unit)) ⊕ ((Unit × Unit) × (((List Int) × Unit) × Unit) × ((List DRw) × Unit))) := loopF (fun x : ((Unit × (Unit × (Int × (Int × Unit)))) × (((List Int) × Unit) × Unit) × ((List DRw) × Unit)) => T74_3 x.1.2.2.1 x.1.2.2.2.1 x.2.1.1.1 x.2.2.1) (((), (), a5, a6, ()), ((b0_0, ()), ()), (q0, ()))
noncomputable def k74_3 : Con := ⟨i74_3, o74_3, fun x => L74_3 x.1.2.2.1 x.1.2.2.2.1 x.2.1.1.1 x.2.2.1⟩
theorem e74_3 (x : i74_3.E) : vround Try.prog C74_3 LO74_3 Try.f74.ntmps l74_3 i74_3 o74_3 x = T74_3 x.1.2.2.1 x.1.2.2.2.1 x.2.1.1.1 x.2.2.1 := by kernel_rfl
theorem k74_3_ok : Con.LOK Try.prog Try.f74.ntmps l74_3 k74_3 := (loop_ok C74_3_ok (loops_of (l := []) (by kernel_rfl) (show LoopsOK Try.prog Try.f74.ntmps [] LO74_3 from trivial)) i74_3 o74_3).congr fun x => (congrArg (fun T => loopF T x) (funext e74_3)).symm
noncomputable def C74 : Tab := [(58, c58), (59, c59)]
theorem C74_ok : TabOK Try.prog C74 := ⟨c58_ok, c59_ok, trivial⟩
noncomputable def LO74 : Tab := [(3, k74_3)]
noncomputable def i74 : Tm := { sl := [(0, .p 0 0)], bx := [[.v (.l (.i .u8))]], bf := [] }
noncomputable def o74 : OT := (.two (.ret { sl := [(0, .v (.l tDRw))], bx := [[.v (.l (.i .u8))]], bf := [] }) (.pnc 130 .i64 { sl := [], bx := [[.v (.l (.i .u8))]], bf := [] }))
noncomputable def F74 (b0_0 : (List Int)) : Option ((((List DRw) × Unit) × (((List Int) × Unit) × Unit) × Unit) ⊕ (Int × (Unit × (((List Int) × Unit) × Unit) × Unit))) :=
  ((F58 64 b0_0).bind fun y315 => (Sum.elim (fun y316 => ((L74_3 y316.1.1 0 y316.2.1.1.1 ([] : List DRw)).bind fun y329 => (Sum.elim (fun y330 => (some (.inr (y330.1, ((), ((y330.2.2.1.1.1, ()), ()), ()))))) (fun y330 => (some (.inl ((y330.2.2.1, ()), ((y330.2.1.1.1, ()), ()), ())))) y329))) (fun y316 => (some (.inr (y316.1, ((), ((y316.2.2.1.1.1, ()), ()), ()))))) y315))
noncomputable def c74 : Con := ⟨i74, o74, fun x => F74 x.2.1.1.1⟩
theorem e74 (x : i74.E) : vfn Try.prog C74 LO74 Try.f74 b74 i74 o74 x = F74 x.2.1.1.1 := by kernel_rfl
theorem c74_ok : Con.OK Try.prog 74 c74 := (fn_ok C74_ok Try.func74 body74 (loops_of (l := [l74_3]) (by kernel_rfl) (show LoopsOK Try.prog Try.f74.ntmps [l74_3] LO74 from ⟨k74_3_ok, trivial⟩)) i74 o74).congr fun x => (e74 x).symm
noncomputable def l38_15 : Code := (.seq (.region 15 (regOf Try.f38 15) false) (.seq (.cond (.tmp 51) .skip (.exit 1)) (.seq (.block 2 (.seq (.region 16 (regOf Try.f38 16) false) (.seq (.seq (.region 17 (regOf Try.f38 17) false) (.cond (.tmp 61) (.seq (.region 18 (regOf Try.f38 18) false) .ret) .skip)) (.region 19 (regOf Try.f38 19) false)))) (.region 20 (regOf Try.f38 20) false))))
noncomputable def b38 : Code := (.seq (.region 0 (regOf Try.f38 0) false) (.seq (.region 1 (regOf Try.f38 1) false) (.seq (.region 2 (regOf Try.f38 2) false) (.seq (.seq (.region 3 (regOf Try.f38 3) false) (.cond (.tmp 11) (.seq (.region 4 (regOf Try.f38 4) false) .ret) .skip)) (.seq (.region 5 (regOf Try.f38 5) false) (.seq (.seq (.region 6 (regOf Try.f38 6) false) (.block 0 (.seq (.seq (.region 8 (regOf Try.f38 8) false) (.cond (.tmp 30) .skip (.seq (.region 9 (regOf Try.f38 9) false) (.cond (.tmp 30) .skip (.region 10 (regOf Try.f38 10) false))))) (.cond (.tmp 30) (.region 11 (regOf Try.f38 11) false) (.seq (.region 12 (regOf Try.f38 12) false) (.cond (.tmp 40) (.seq (.region 13 (regOf Try.f38 13) false) (.seq (.region 14 (regOf Try.f38 14) false) (.block 1 (.loop l38_15)))) (.seq (.region 21 (regOf Try.f38 21) false) (.cond (.tmp 70) (.region 22 (regOf Try.f38 22) false) (.seq (.region 23 (regOf Try.f38 23) false) (.cond (.tmp 85) (.region 24 (regOf Try.f38 24) false) (.seq (.region 25 (regOf Try.f38 25) false) (.cond (.tmp 98) (.region 26 (regOf Try.f38 26) false) (.seq (.region 7 (regOf Try.f38 7) false) .ret))))))))))))) (.seq (.region 27 (regOf Try.f38 27) false) (.seq (.region 28 (regOf Try.f38 28) false) .ret))))))))
theorem body38 : Try.f38.body = some b38 := by kernel_rfl
noncomputable def C38_15 : Tab := [(60, c60), (75, c75)]
theorem C38_15_ok : TabOK Try.prog C38_15 := ⟨c60_ok, c75_ok, trivial⟩
noncomputable def LO38_15 : Tab := []
noncomputable def i38_15 : Tm := { sl := [(0, .v (.l (.i .u8))), (2, .p 0 0), (3, .p 1 0), (4, .p 2 0), (49, .v (.i .u64)), (50, .v (.i .u64))], bx := [[.v (.i .u8), .v (.i .i64), .v (.i .i64), .v .b, .v (.i .u64), .v (.l (.i .u64)), .v (.l tDRw), .o 0, .v (.i .u64), .v (.i .u64), .v (.i .u32), .v (.i .u64), .v (.l (.i .u8)), .v (.i .i64)], [.v (.i .i64)], [.v (.l (.i .u8))]], bf := [tDEv] }
noncomputable def o38_15 : OT := (.two (.ret { sl := [], bx := [[.v (.i .u8), .v (.i .i64), .v (.i .i64), .v .b, .v (.i .u64), .v (.l (.i .u64)), .v (.l tDRw), .v (.l tDEv), .v (.i .u64), .v (.i .u64), .v (.i .u32), .v (.i .u64), .v (.l (.i .u8)), .v (.i .i64)], [.v (.i .i64)], [.v (.l (.i .u8))]], bf := [] }) (.two (.pnc 130 .i64 { sl := [], bx := [[.v (.i .u8), .v (.i .i64), .v (.i .i64), .v .b, .v (.i .u64), .v (.l (.i .u64)), .v (.l tDRw), .v (.l tDEv), .v (.i .u64), .v (.i .u64), .v (.i .u32), .v (.i .u64), .v (.l (.i .u8)), .v (.i .i64)], [.v (.i .i64)], [.v (.l (.i .u8))]], bf := [] }) (.exit 1 { sl := [], bx := [[.v (.i .u8), .v (.i .i64), .v (.i .i64), .v .b, .v (.i .u64), .v (.l (.i .u64)), .v (.l tDRw), .v (.l tDEv), .v (.i .u64), .v (.i .u64), .v (.i .u32), .v (.i .u64), .v (.l (.i .u8)), .v (.i .i64)], [.v (.i .i64)], [.v (.l (.i .u8))]], bf := [] })))
noncomputable def T38_15 (a0 : (List Int)) (a49 : Int) (a50 : Int) (b0_0 : Int) (b0_1 : Int) (b0_2 : Int) (b0_3 : Bool) (b0_4 : Int) (b0_5 : (List Int)) (b0_6 : (List DRw)) (b0_8 : Int) (b0_9 : Int) (b0_10 : Int) (b0_11 : Int) (b0_12 : (List Int)) (b0_13 : Int) (b1_0 : Int) (b2_0 : (List Int)) (q0 : (List DEv)) : Option ((((List Int) × (Unit × (Unit × (Unit × (Int × (Int × Unit)))))) × ((Int × (Int × (Int × (Bool × (Int × ((List Int) × ((List DRw) × (Unit × (Int × (Int × (Int × DRw))))))))))) × ((Int × Unit) × (((List Int) × Unit) × Unit))) × ((List DEv) × Unit)) ⊕ ((Unit × (DLt × ((Int × Unit) × (((List Int) × Unit) × Unit))) × Unit) ⊕ ((Int × (Unit × (DLt × ((Int × Unit) × (((List Int) × Unit) × Unit))) × Unit)) ⊕ (Unit × (DLt × ((Int × Unit) × (((List Int) × Unit) × Unit))) × Unit)))) :=
  (bif (decide ((a50 : Int) < a49)) then ((F60 (((a0).length : Nat) : Int) b2_0).bind fun y369 => (Sum.elim (fun y370 => ((F75 y370.1.1).bind fun y371 => (bif ((y371.1.2.1 : Int) != 0) then (some (.inr (.inl ((), ((0, 0, 0, false, 0, ([] : List Int), ([] : List DRw), ([] : List DEv), 0, 0, 0, 0, ([] : List Int), 0, ()), (4, ()), (y370.2.1.1.1, ()), ()), ())))) else (bif (decide ((q0).length + ([(y371.1.1.1, (y371.1.1.2.1, (y371.1.1.2.2.1, (y371.1.1.2.2.2.1, (y371.1.1.2.2.2.2.1, (y371.1.1.2.2.2.2.2.1, (y371.1.1.2.2.2.2.2.2.1, (y371.1.1.2.2.2.2.2.2.2.1, ()))))))))]).length < lim)) then (some (.inl ((a0, (), (), (), a49, (IntKind.wrap .u64 (a50 + 1)), ()), ((b0_0, b0_1, b0_2, b0_3, b0_4, b0_5, b0_6, (), b0_8, b0_9, b0_10, b0_11, b0_12, b0_13, ()), (b1_0, ()), (y370.2.1.1.1, ()), ()), ((q0 ++ [(y371.1.1.1, (y371.1.1.2.1, (y371.1.1.2.2.1, (y371.1.1.2.2.2.1, (y371.1.1.2.2.2.2.1, (y371.1.1.2.2.2.2.2.1, (y371.1.1.2.2.2.2.2.2.1, (y371.1.1.2.2.2.2.2.2.2.1, ()))))))))]), ())))) else none)))) (fun y370 => (some (.inr (.inr (.inl (y370.1, ((), ((b0_0, b0_1, b0_2, b0_3, b0_4, b0_5, b0_6, q0, b0_8, b0_9, b0_10, b0_11, b0_12, b0_13, ()), (b1_0, ()), (y370.2.2.1.1.1, ()), ()), ()))))))) y369)) else (some (.inr (.inr (.inr ((), ((b0_0, b0_1, b0_2, b0_3, b0_4, b0_5, b0_6, q0, b0_8, b0_9, b0_10, b0_11, b0_12, b0_13, ()), (b1_0, ()), (b2_0, ()), ()), ()))))))
noncomputable def L38_15 (a0 : (List Int)) (a49 : Int) (a50 : Int) (b0_0 : Int) (b0_1 : Int) (b0_2 : Int) (b0_3 : Bool) (b0_4 : Int) (b0_5 : (List Int)) (b0_6 : (List DRw)) (b0_8 : Int) (b0_9 : Int) (b0_10 : Int) (b0_11 : Int) (b0_12 : (List Int)) (b0_13 : Int) (b1_0 : Int) (b2_0 : (List Int)) (q0 : (List DEv)) : Option ((Unit × (DLt × ((Int × Unit) × (((List Int) × Unit) × Unit))) × Unit) ⊕ ((Int × (Unit × (DLt × ((Int × Unit) × (((List Int) × Unit) × Unit))) × Unit)) ⊕ (Unit × (DLt × ((Int × Unit) × (((List Int) × Unit) × Unit))) × Unit))) := loopF (fun x : (((List Int) × (Unit × (Unit × (Unit × (Int × (Int × Unit)))))) × ((Int × (Int × (Int × (Bool × (Int × ((List Int) × ((List DRw) × (Unit × (Int × (Int × (Int × DRw))))))))))) × ((Int × Unit) × (((List Int) × Unit) × Unit))) × ((List DEv) × Unit)) => T38_15 x.1.1 x.1.2.2.2.2.1 x.1.2.2.2.2.2.1 x.2.1.1.1 x.2.1.1.2.1 x.2.1.1.2.2.1 x.2.1.1.2.2.2.1 x.2.1.1.2.2.2.2.1 x.2.1.1.2.2.2.2.2.1 x.2.1.1.2.2.2.2.2.2.1 x.2.1.1.2.2.2.2.2.2.2.2.1 x.2.1.1.2.2.2.2.2.2.2.2.2.1 x.2.1.1.2.2.2.2.2.2.2.2.2.2.1 x.2.1.1.2.2.2.2.2.2.2.2.2.2.2.1 x.2.1.1.2.2.2.2.2.2.2.2.2.2.2.2.1 x.2.1.1.2.2.2.2.2.2.2.2.2.2.2.2.2.1 x.2.1.2.1.1 x.2.1.2.2.1.1 x.2.2.1) ((a0, (), (), (), a49, a50, ()), ((b0_0, b0_1, b0_2, b0_3, b0_4, b0_5, b0_6, (), b0_8, b0_9, b0_10, b0_11, b0_12, b0_13, ()), (b1_0, ()), (b2_0, ()), ()), (q0, ()))
noncomputable def k38_15 : Con := ⟨i38_15, o38_15, fun x => L38_15 x.1.1 x.1.2.2.2.2.1 x.1.2.2.2.2.2.1 x.2.1.1.1 x.2.1.1.2.1 x.2.1.1.2.2.1 x.2.1.1.2.2.2.1 x.2.1.1.2.2.2.2.1 x.2.1.1.2.2.2.2.2.1 x.2.1.1.2.2.2.2.2.2.1 x.2.1.1.2.2.2.2.2.2.2.2.1 x.2.1.1.2.2.2.2.2.2.2.2.2.1 x.2.1.1.2.2.2.2.2.2.2.2.2.2.1 x.2.1.1.2.2.2.2.2.2.2.2.2.2.2.1 x.2.1.1.2.2.2.2.2.2.2.2.2.2.2.2.1 x.2.1.1.2.2.2.2.2.2.2.2.2.2.2.2.2.1 x.2.1.2.1.1 x.2.1.2.2.1.1 x.2.2.1⟩
theorem e38_15 (x : i38_15.E) : vround Try.prog C38_15 LO38_15 Try.f38.ntmps l38_15 i38_15 o38_15 x = T38_15 x.1.1 x.1.2.2.2.2.1 x.1.2.2.2.2.2.1 x.2.1.1.1 x.2.1.1.2.1 x.2.1.1.2.2.1 x.2.1.1.2.2.2.1 x.2.1.1.2.2.2.2.1 x.2.1.1.2.2.2.2.2.1 x.2.1.1.2.2.2.2.2.2.1 x.2.1.1.2.2.2.2.2.2.2.2.1 x.2.1.1.2.2.2.2.2.2.2.2.2.1 x.2.1.1.2.2.2.2.2.2.2.2.2.2.1 x.2.1.1.2.2.2.2.2.2.2.2.2.2.2.1 x.2.1.1.2.2.2.2.2.2.2.2.2.2.2.2.1 x.2.1.1.2.2.2.2.2.2.2.2.2.2.2.2.2.1 x.2.1.2.1.1 x.2.1.2.2.1.1 x.2.2.1 := by kernel_rfl
theorem k38_15_ok : Con.LOK Try.prog Try.f38.ntmps l38_15 k38_15 := (loop_ok C38_15_ok (loops_of (l := []) (by kernel_rfl) (show LoopsOK Try.prog Try.f38.ntmps [] LO38_15 from trivial)) i38_15 o38_15).congr fun x => (congrArg (fun T => loopF T x) (funext e38_15)).symm
noncomputable def C38 : Tab := [(57, c57), (58, c58), (59, c59), (60, c60), (61, c61), (73, c73), (74, c74), (75, c75)]
theorem C38_ok : TabOK Try.prog C38 := ⟨c57_ok, c58_ok, c59_ok, c60_ok, c61_ok, c73_ok, c74_ok, c75_ok, trivial⟩
noncomputable def LO38 : Tab := [(15, k38_15)]
noncomputable def i38 : Tm := { sl := [(0, .v (.l (.i .u8)))], bx := [], bf := [] }
noncomputable def o38 : OT := (.ret { sl := [(0, .v tDLt), (1, .v (.i .i64))], bx := [], bf := [] })
noncomputable def F38 (a0 : (List Int)) : Option ((DLt × (Int × Unit)) × Unit × Unit) :=
  ((F57 a0).bind fun y331 => ((F58 18446744073709551615 y331.2.1.1.1).bind fun y332 => (Sum.elim (fun y333 => (bif ((y333.1.1 : Int) != 1) then (some (((0, (0, (0, (false, (0, (([] : List Int), (([] : List DRw), (([] : List DEv), (0, (0, (0, (0, (([] : List Int), (0, ())))))))))))))), 4, ()), (), ())) else ((F73 y333.2.1.1.1).bind fun y334 => (Sum.elim (fun y335 => ((F58 63 y335.2.1.1.1).bind fun y336 => (Sum.elim (fun y337 => ((F58 63 y337.2.1.1.1).bind fun y338 => (Sum.elim (fun y339 => ((F58 1 y339.2.1.1.1).bind fun y340 => (Sum.elim (fun y341 => ((F58 9223372036854775807 y341.2.1.1.1).bind fun y342 => (Sum.elim (fun y343 => (bif ((y335.1.1 : Int) == 1) then ((F59 y343.2.1.1.1).bind fun y344 => (Sum.elim (fun y345 => ((F74 y345.2.1.1.1).bind fun y346 => (Sum.elim (fun y347 => ((F61 y347.2.1.1.1).bind fun y348 => (Sum.elim (fun y349 => (some (((y335.1.1, ((IntKind.wrap .i64 y337.1.1), ((IntKind.wrap .i64 y339.1.1), (((y341.1.1 : Int) == 1), (y343.1.1, (y345.1.1, (y347.1.1, (([] : List DEv), (0, (0, (0, (0, (([] : List Int), (0, ())))))))))))))), 0, ()), (), ()))) (fun y349 => (some (((y335.1.1, ((IntKind.wrap .i64 y337.1.1), ((IntKind.wrap .i64 y339.1.1), (((y341.1.1 : Int) == 1), (y343.1.1, (y345.1.1, (y347.1.1, (([] : List DEv), (0, (0, (0, (0, (([] : List Int), (0, ())))))))))))))), y349.1, ()), (), ()))) y348))) (fun y347 => (some (((y335.1.1, ((IntKind.wrap .i64 y337.1.1), ((IntKind.wrap .i64 y339.1.1), (((y341.1.1 : Int) == 1), (y343.1.1, (([] : List Int), (([] : List DRw), (([] : List DEv), (0, (0, (0, (0, (([] : List Int), (0, ())))))))))))))), y347.1, ()), (), ()))) y346))) (fun y345 => (some (((y335.1.1, ((IntKind.wrap .i64 y337.1.1), ((IntKind.wrap .i64 y339.1.1), (((y341.1.1 : Int) == 1), (y343.1.1, (([] : List Int), (([] : List DRw), (([] : List DEv), (0, (0, (0, (0, (([] : List Int), (0, ())))))))))))))), y345.1, ()), (), ()))) y344)) else (bif ((y335.1.1 : Int) == 2) then ((F59 y343.2.1.1.1).bind fun y350 => (Sum.elim (fun y351 => ((F74 y351.2.1.1.1).bind fun y352 => (Sum.elim (fun y353 => ((F61 y353.2.1.1.1).bind fun y354 => (Sum.elim (fun y355 => (some (((y335.1.1, ((IntKind.wrap .i64 y337.1.1), ((IntKind.wrap .i64 y339.1.1), (((y341.1.1 : Int) == 1), (y343.1.1, (y351.1.1, (y353.1.1, (([] : List DEv), (0, (0, (0, (0, (([] : List Int), (0, ())))))))))))))), 0, ()), (), ()))) (fun y355 => (some (((y335.1.1, ((IntKind.wrap .i64 y337.1.1), ((IntKind.wrap .i64 y339.1.1), (((y341.1.1 : Int) == 1), (y343.1.1, (y351.1.1, (y353.1.1, (([] : List DEv), (0, (0, (0, (0, (([] : List Int), (0, ())))))))))))))), y355.1, ()), (), ()))) y354))) (fun y353 => (some (((y335.1.1, ((IntKind.wrap .i64 y337.1.1), ((IntKind.wrap .i64 y339.1.1), (((y341.1.1 : Int) == 1), (y343.1.1, (([] : List Int), (([] : List DRw), (([] : List DEv), (0, (0, (0, (0, (([] : List Int), (0, ())))))))))))))), y353.1, ()), (), ()))) y352))) (fun y351 => (some (((y335.1.1, ((IntKind.wrap .i64 y337.1.1), ((IntKind.wrap .i64 y339.1.1), (((y341.1.1 : Int) == 1), (y343.1.1, (([] : List Int), (([] : List DRw), (([] : List DEv), (0, (0, (0, (0, (([] : List Int), (0, ())))))))))))))), y351.1, ()), (), ()))) y350)) else (bif ((y335.1.1 : Int) == 4) then ((F59 y343.2.1.1.1).bind fun y356 => (Sum.elim (fun y357 => ((F74 y357.2.1.1.1).bind fun y358 => (Sum.elim (fun y359 => ((F61 y359.2.1.1.1).bind fun y360 => (Sum.elim (fun y361 => (some (((y335.1.1, ((IntKind.wrap .i64 y337.1.1), ((IntKind.wrap .i64 y339.1.1), (((y341.1.1 : Int) == 1), (y343.1.1, (y357.1.1, (y359.1.1, (([] : List DEv), (0, (0, (0, (0, (([] : List Int), (0, ())))))))))))))), 0, ()), (), ()))) (fun y361 => (some (((y335.1.1, ((IntKind.wrap .i64 y337.1.1), ((IntKind.wrap .i64 y339.1.1), (((y341.1.1 : Int) == 1), (y343.1.1, (y357.1.1, (y359.1.1, (([] : List DEv), (0, (0, (0, (0, (([] : List Int), (0, ())))))))))))))), y361.1, ()), (), ()))) y360))) (fun y359 => (some (((y335.1.1, ((IntKind.wrap .i64 y337.1.1), ((IntKind.wrap .i64 y339.1.1), (((y341.1.1 : Int) == 1), (y343.1.1, (([] : List Int), (([] : List DRw), (([] : List DEv), (0, (0, (0, (0, (([] : List Int), (0, ())))))))))))))), y359.1, ()), (), ()))) y358))) (fun y357 => (some (((y335.1.1, ((IntKind.wrap .i64 y337.1.1), ((IntKind.wrap .i64 y339.1.1), (((y341.1.1 : Int) == 1), (y343.1.1, (([] : List Int), (([] : List DRw), (([] : List DEv), (0, (0, (0, (0, (([] : List Int), (0, ())))))))))))))), y357.1, ()), (), ()))) y356)) else (bif ((y335.1.1 : Int) == 3) then ((F59 y343.2.1.1.1).bind fun y362 => (Sum.elim (fun y363 => ((F58 (IntKind.wrap .u64 (((a0).length : Nat) : Int)) y363.2.1.1.1).bind fun y364 => (Sum.elim (fun y365 => ((L38_15 a0 y365.1.1 0 y335.1.1 (IntKind.wrap .i64 y337.1.1) (IntKind.wrap .i64 y339.1.1) ((y341.1.1 : Int) == 1) y343.1.1 y363.1.1 ([] : List DRw) 0 0 0 0 ([] : List Int) 0 0 y365.2.1.1.1 ([] : List DEv)).bind fun y372 => (Sum.elim (fun y373 => (some (((y373.2.1.1.1, (y373.2.1.1.2.1, (y373.2.1.1.2.2.1, (y373.2.1.1.2.2.2.1, (y373.2.1.1.2.2.2.2.1, (y373.2.1.1.2.2.2.2.2.1, (y373.2.1.1.2.2.2.2.2.2.1, (y373.2.1.1.2.2.2.2.2.2.2.1, (y373.2.1.1.2.2.2.2.2.2.2.2.1, (y373.2.1.1.2.2.2.2.2.2.2.2.2.1, (y373.2.1.1.2.2.2.2.2.2.2.2.2.2.1, (y373.2.1.1.2.2.2.2.2.2.2.2.2.2.2.1, (y373.2.1.1.2.2.2.2.2.2.2.2.2.2.2.2.1, (y373.2.1.1.2.2.2.2.2.2.2.2.2.2.2.2.2.1, ())))))))))))))), y373.2.1.2.1.1, ()), (), ()))) (fun y373 => (Sum.elim (fun y374 => (some (((y374.2.2.1.1.1, (y374.2.2.1.1.2.1, (y374.2.2.1.1.2.2.1, (y374.2.2.1.1.2.2.2.1, (y374.2.2.1.1.2.2.2.2.1, (y374.2.2.1.1.2.2.2.2.2.1, (y374.2.2.1.1.2.2.2.2.2.2.1, (y374.2.2.1.1.2.2.2.2.2.2.2.1, (y374.2.2.1.1.2.2.2.2.2.2.2.2.1, (y374.2.2.1.1.2.2.2.2.2.2.2.2.2.1, (y374.2.2.1.1.2.2.2.2.2.2.2.2.2.2.1, (y374.2.2.1.1.2.2.2.2.2.2.2.2.2.2.2.1, (y374.2.2.1.1.2.2.2.2.2.2.2.2.2.2.2.2.1, (y374.2.2.1.1.2.2.2.2.2.2.2.2.2.2.2.2.2.1, ())))))))))))))), y374.1, ()), (), ()))) (fun y374 => ((F61 y374.2.1.2.2.1.1).bind fun y375 => (Sum.elim (fun y376 => (some (((y374.2.1.1.1, (y374.2.1.1.2.1, (y374.2.1.1.2.2.1, (y374.2.1.1.2.2.2.1, (y374.2.1.1.2.2.2.2.1, (y374.2.1.1.2.2.2.2.2.1, (y374.2.1.1.2.2.2.2.2.2.1, (y374.2.1.1.2.2.2.2.2.2.2.1, (y374.2.1.1.2.2.2.2.2.2.2.2.1, (y374.2.1.1.2.2.2.2.2.2.2.2.2.1, (y374.2.1.1.2.2.2.2.2.2.2.2.2.2.1, (y374.2.1.1.2.2.2.2.2.2.2.2.2.2.2.1, (y374.2.1.1.2.2.2.2.2.2.2.2.2.2.2.2.1, (y374.2.1.1.2.2.2.2.2.2.2.2.2.2.2.2.2.1, ())))))))))))))), 0, ()), (), ()))) (fun y376 => (some (((y374.2.1.1.1, (y374.2.1.1.2.1, (y374.2.1.1.2.2.1, (y374.2.1.1.2.2.2.1, (y374.2.1.1.2.2.2.2.1, (y374.2.1.1.2.2.2.2.2.1, (y374.2.1.1.2.2.2.2.2.2.1, (y374.2.1.1.2.2.2.2.2.2.2.1, (y374.2.1.1.2.2.2.2.2.2.2.2.1, (y374.2.1.1.2.2.2.2.2.2.2.2.2.1, (y374.2.1.1.2.2.2.2.2.2.2.2.2.2.1, (y374.2.1.1.2.2.2.2.2.2.2.2.2.2.2.1, (y374.2.1.1.2.2.2.2.2.2.2.2.2.2.2.2.1, (y374.2.1.1.2.2.2.2.2.2.2.2.2.2.2.2.2.1, ())))))))))))))), y376.1, ()), (), ()))) y375))) y373)) y372))) (fun y365 => (some (((y335.1.1, ((IntKind.wrap .i64 y337.1.1), ((IntKind.wrap .i64 y339.1.1), (((y341.1.1 : Int) == 1), (y343.1.1, (y363.1.1, (([] : List DRw), (([] : List DEv), (0, (0, (0, (0, (([] : List Int), (0, ())))))))))))))), y365.1, ()), (), ()))) y364))) (fun y363 => (some (((y335.1.1, ((IntKind.wrap .i64 y337.1.1), ((IntKind.wrap .i64 y339.1.1), (((y341.1.1 : Int) == 1), (y343.1.1, (([] : List Int), (([] : List DRw), (([] : List DEv), (0, (0, (0, (0, (([] : List Int), (0, ())))))))))))))), y363.1, ()), (), ()))) y362)) else (bif ((y335.1.1 : Int) == 5) then ((F59 y343.2.1.1.1).bind fun y377 => (Sum.elim (fun y378 => ((F58 9223372036854775807 y378.2.1.1.1).bind fun y379 => (Sum.elim (fun y380 => ((F58 1099511627776 y380.2.1.1.1).bind fun y381 => (Sum.elim (fun y382 => ((F58 4294967295 y382.2.1.1.1).bind fun y383 => (Sum.elim (fun y384 => ((F61 y384.2.1.1.1).bind fun y385 => (Sum.elim (fun y386 => (some (((y335.1.1, ((IntKind.wrap .i64 y337.1.1), ((IntKind.wrap .i64 y339.1.1), (((y341.1.1 : Int) == 1), (y343.1.1, (y378.1.1, (([] : List DRw), (([] : List DEv), (y380.1.1, (y382.1.1, ((IntKind.wrap .u32 y384.1.1), (0, (([] : List Int), (0, ())))))))))))))), 0, ()), (), ()))) (fun y386 => (some (((y335.1.1, ((IntKind.wrap .i64 y337.1.1), ((IntKind.wrap .i64 y339.1.1), (((y341.1.1 : Int) == 1), (y343.1.1, (y378.1.1, (([] : List DRw), (([] : List DEv), (y380.1.1, (y382.1.1, ((IntKind.wrap .u32 y384.1.1), (0, (([] : List Int), (0, ())))))))))))))), y386.1, ()), (), ()))) y385))) (fun y384 => (some (((y335.1.1, ((IntKind.wrap .i64 y337.1.1), ((IntKind.wrap .i64 y339.1.1), (((y341.1.1 : Int) == 1), (y343.1.1, (([] : List Int), (([] : List DRw), (([] : List DEv), (0, (0, (0, (0, (([] : List Int), (0, ())))))))))))))), y384.1, ()), (), ()))) y383))) (fun y382 => (some (((y335.1.1, ((IntKind.wrap .i64 y337.1.1), ((IntKind.wrap .i64 y339.1.1), (((y341.1.1 : Int) == 1), (y343.1.1, (([] : List Int), (([] : List DRw), (([] : List DEv), (0, (0, (0, (0, (([] : List Int), (0, ())))))))))))))), y382.1, ()), (), ()))) y381))) (fun y380 => (some (((y335.1.1, ((IntKind.wrap .i64 y337.1.1), ((IntKind.wrap .i64 y339.1.1), (((y341.1.1 : Int) == 1), (y343.1.1, (([] : List Int), (([] : List DRw), (([] : List DEv), (0, (0, (0, (0, (([] : List Int), (0, ())))))))))))))), y380.1, ()), (), ()))) y379))) (fun y378 => (some (((y335.1.1, ((IntKind.wrap .i64 y337.1.1), ((IntKind.wrap .i64 y339.1.1), (((y341.1.1 : Int) == 1), (y343.1.1, (([] : List Int), (([] : List DRw), (([] : List DEv), (0, (0, (0, (0, (([] : List Int), (0, ())))))))))))))), y378.1, ()), (), ()))) y377)) else (bif ((y335.1.1 : Int) == 6) then ((F58 1099511627776 y343.2.1.1.1).bind fun y387 => (Sum.elim (fun y388 => ((F58 1099511627776 y388.2.1.1.1).bind fun y389 => (Sum.elim (fun y390 => ((F60 (((a0).length : Nat) : Int) y390.2.1.1.1).bind fun y391 => (Sum.elim (fun y392 => ((F61 y392.2.1.1.1).bind fun y393 => (Sum.elim (fun y394 => (some (((y335.1.1, ((IntKind.wrap .i64 y337.1.1), ((IntKind.wrap .i64 y339.1.1), (((y341.1.1 : Int) == 1), (y343.1.1, (([] : List Int), (([] : List DRw), (([] : List DEv), (0, (y388.1.1, (0, (y390.1.1, (y392.1.1, (0, ())))))))))))))), 0, ()), (), ()))) (fun y394 => (some (((y335.1.1, ((IntKind.wrap .i64 y337.1.1), ((IntKind.wrap .i64 y339.1.1), (((y341.1.1 : Int) == 1), (y343.1.1, (([] : List Int), (([] : List DRw), (([] : List DEv), (0, (y388.1.1, (0, (y390.1.1, (y392.1.1, (0, ())))))))))))))), y394.1, ()), (), ()))) y393))) (fun y392 => (some (((y335.1.1, ((IntKind.wrap .i64 y337.1.1), ((IntKind.wrap .i64 y339.1.1), (((y341.1.1 : Int) == 1), (y343.1.1, (([] : List Int), (([] : List DRw), (([] : List DEv), (0, (0, (0, (0, (([] : List Int), (0, ())))))))))))))), y392.1, ()), (), ()))) y391))) (fun y390 => (some (((y335.1.1, ((IntKind.wrap .i64 y337.1.1), ((IntKind.wrap .i64 y339.1.1), (((y341.1.1 : Int) == 1), (y343.1.1, (([] : List Int), (([] : List DRw), (([] : List DEv), (0, (0, (0, (0, (([] : List Int), (0, ())))))))))))))), y390.1, ()), (), ()))) y389))) (fun y388 => (some (((y335.1.1, ((IntKind.wrap .i64 y337.1.1), ((IntKind.wrap .i64 y339.1.1), (((y341.1.1 : Int) == 1), (y343.1.1, (([] : List Int), (([] : List DRw), (([] : List DEv), (0, (0, (0, (0, (([] : List Int), (0, ())))))))))))))), y388.1, ()), (), ()))) y387)) else (bif ((y335.1.1 : Int) == 7) then ((F58 65536 y343.2.1.1.1).bind fun y395 => (Sum.elim (fun y396 => ((F61 y396.2.1.1.1).bind fun y397 => (Sum.elim (fun y398 => (some (((y335.1.1, ((IntKind.wrap .i64 y337.1.1), ((IntKind.wrap .i64 y339.1.1), (((y341.1.1 : Int) == 1), (y343.1.1, (([] : List Int), (([] : List DRw), (([] : List DEv), (0, (0, (0, (0, (([] : List Int), ((IntKind.wrap .i64 y396.1.1), ())))))))))))))), 0, ()), (), ()))) (fun y398 => (some (((y335.1.1, ((IntKind.wrap .i64 y337.1.1), ((IntKind.wrap .i64 y339.1.1), (((y341.1.1 : Int) == 1), (y343.1.1, (([] : List Int), (([] : List DRw), (([] : List DEv), (0, (0, (0, (0, (([] : List Int), ((IntKind.wrap .i64 y396.1.1), ())))))))))))))), y398.1, ()), (), ()))) y397))) (fun y396 => (some (((y335.1.1, ((IntKind.wrap .i64 y337.1.1), ((IntKind.wrap .i64 y339.1.1), (((y341.1.1 : Int) == 1), (y343.1.1, (([] : List Int), (([] : List DRw), (([] : List DEv), (0, (0, (0, (0, (([] : List Int), (0, ())))))))))))))), y396.1, ()), (), ()))) y395)) else (some (((0, (0, (0, (false, (0, (([] : List Int), (([] : List DRw), (([] : List DEv), (0, (0, (0, (0, (([] : List Int), (0, ())))))))))))))), 4, ()), (), ())))))))))) (fun y343 => (some (((0, (0, (0, (false, (0, (([] : List Int), (([] : List DRw), (([] : List DEv), (0, (0, (0, (0, (([] : List Int), (0, ())))))))))))))), y343.1, ()), (), ()))) y342))) (fun y341 => (some (((0, (0, (0, (false, (0, (([] : List Int), (([] : List DRw), (([] : List DEv), (0, (0, (0, (0, (([] : List Int), (0, ())))))))))))))), y341.1, ()), (), ()))) y340))) (fun y339 => (some (((0, (0, (0, (false, (0, (([] : List Int), (([] : List DRw), (([] : List DEv), (0, (0, (0, (0, (([] : List Int), (0, ())))))))))))))), y339.1, ()), (), ()))) y338))) (fun y337 => (some (((0, (0, (0, (false, (0, (([] : List Int), (([] : List DRw), (([] : List DEv), (0, (0, (0, (0, (([] : List Int), (0, ())))))))))))))), y337.1, ()), (), ()))) y336))) (fun y335 => (some (((0, (0, (0, (false, (0, (([] : List Int), (([] : List DRw), (([] : List DEv), (0, (0, (0, (0, (([] : List Int), (0, ())))))))))))))), y335.1, ()), (), ()))) y334)))) (fun y333 => (some (((0, (0, (0, (false, (0, (([] : List Int), (([] : List DRw), (([] : List DEv), (0, (0, (0, (0, (([] : List Int), (0, ())))))))))))))), y333.1, ()), (), ()))) y332)))
noncomputable def c38 : Con := ⟨i38, o38, fun x => F38 x.1.1⟩
theorem e38 (x : i38.E) : vfn Try.prog C38 LO38 Try.f38 b38 i38 o38 x = F38 x.1.1 := by kernel_rfl
theorem c38_ok : Con.OK Try.prog 38 c38 := (fn_ok C38_ok Try.func38 body38 (loops_of (l := [l38_15]) (by kernel_rfl) (show LoopsOK Try.prog Try.f38.ntmps [l38_15] LO38 from ⟨k38_15_ok, trivial⟩)) i38 o38).congr fun x => (e38 x).symm
noncomputable def b12 : Code := (.seq (.region 0 (regOf Try.f12 0) false) (.seq (.region 1 (regOf Try.f12 1) false) (.seq (.seq (.region 2 (regOf Try.f12 2) false) (.cond (.tmp 15) (.seq (.region 3 (regOf Try.f12 3) false) .ret) .skip)) (.seq (.seq (.region 4 (regOf Try.f12 4) false) (.cond (.tmp 20) (.seq (.region 5 (regOf Try.f12 5) false) .ret) .skip)) (.seq (.region 6 (regOf Try.f12 6) false) (.seq (.seq (.region 7 (regOf Try.f12 7) false) (.cond (.tmp 28) (.seq (.region 8 (regOf Try.f12 8) false) .ret) .skip)) (.seq (.seq (.region 9 (regOf Try.f12 9) true) (.cond (.tmp 36) (.seq (.region 10 (regOf Try.f12 10) false) .ret) .skip)) (.seq (.region 11 (regOf Try.f12 11) false) .ret))))))))
theorem body12 : Try.f12.body = some b12 := by kernel_rfl
noncomputable def C12 : Tab := [(32, c32), (37, c37), (38, c38)]
theorem C12_ok : TabOK Try.prog C12 := ⟨c32_ok, c37_ok, c38_ok, trivial⟩
noncomputable def LO12 : Tab := []
noncomputable def i12 : Tm := { sl := [(0, .v (.l (.i .u8)))], bx := [], bf := [] }
noncomputable def o12 : OT := (.ret { sl := [(0, .v tDLt), (1, .v (.i .i64))], bx := [], bf := [] })
noncomputable def F12 (a0 : (List Int)) : Option ((DLt × (Int × Unit)) × Unit × Unit) :=
  ((F37 a0 4194304).bind fun y399 => (bif ((y399.1.2.2.1 : Int) != 0) then (some (((0, (0, (0, (false, (0, (([] : List Int), (([] : List DRw), (([] : List DEv), (0, (0, (0, (0, (([] : List Int), (0, ())))))))))))))), y399.1.2.2.1, ()), (), ())) else (bif (decide (((((y399.1.2.1).length : Nat) : Int) : Int) > 0)) then (some (((0, (0, (0, (false, (0, (([] : List Int), (([] : List DRw), (([] : List DEv), (0, (0, (0, (0, (([] : List Int), (0, ())))))))))))))), 4, ()), (), ())) else ((F38 y399.1.1).bind fun y400 => (bif ((y400.1.2.1 : Int) != 0) then (some (((0, (0, (0, (false, (0, (([] : List Int), (([] : List DRw), (([] : List DEv), (0, (0, (0, (0, (([] : List Int), (0, ())))))))))))))), y400.1.2.1, ()), (), ())) else ((F32 (y400.1.1.1, (y400.1.1.2.1, (y400.1.1.2.2.1, (y400.1.1.2.2.2.1, (y400.1.1.2.2.2.2.1, (y400.1.1.2.2.2.2.2.1, (y400.1.1.2.2.2.2.2.2.1, (y400.1.1.2.2.2.2.2.2.2.1, (y400.1.1.2.2.2.2.2.2.2.2.1, (y400.1.1.2.2.2.2.2.2.2.2.2.1, (y400.1.1.2.2.2.2.2.2.2.2.2.2.1, (y400.1.1.2.2.2.2.2.2.2.2.2.2.2.1, (y400.1.1.2.2.2.2.2.2.2.2.2.2.2.2.1, (y400.1.1.2.2.2.2.2.2.2.2.2.2.2.2.2.1, ()))))))))))))))).bind fun y401 => (bif (!(((strL y401.2.2.1) : ByteArray).toList == ((strL a0) : ByteArray).toList)) then (some (((0, (0, (0, (false, (0, (([] : List Int), (([] : List DRw), (([] : List DEv), (0, (0, (0, (0, (([] : List Int), (0, ())))))))))))))), 4, ()), (), ())) else (some (((y400.1.1.1, (y400.1.1.2.1, (y400.1.1.2.2.1, (y400.1.1.2.2.2.1, (y400.1.1.2.2.2.2.1, (y400.1.1.2.2.2.2.2.1, (y400.1.1.2.2.2.2.2.2.1, (y400.1.1.2.2.2.2.2.2.2.1, (y400.1.1.2.2.2.2.2.2.2.2.1, (y400.1.1.2.2.2.2.2.2.2.2.2.1, (y400.1.1.2.2.2.2.2.2.2.2.2.2.1, (y400.1.1.2.2.2.2.2.2.2.2.2.2.2.1, (y400.1.1.2.2.2.2.2.2.2.2.2.2.2.2.1, (y400.1.1.2.2.2.2.2.2.2.2.2.2.2.2.2.1, ())))))))))))))), 0, ()), (), ())))))))))
noncomputable def c12 : Con := ⟨i12, o12, fun x => F12 x.1.1⟩
theorem e12 (x : i12.E) : vfn Try.prog C12 LO12 Try.f12 b12 i12 o12 x = F12 x.1.1 := by kernel_rfl
theorem c12_ok : Con.OK Try.prog 12 c12 := (fn_ok C12_ok Try.func12 body12 (loops_of (l := []) (by kernel_rfl) (show LoopsOK Try.prog Try.f12.ntmps [] LO12 from trivial)) i12 o12).congr fun x => (e12 x).symm
noncomputable def F32h (a0 : DLt) : Option ((Unit × Unit) × (((List Int) × Unit) × Unit) × Unit) := (F32 a0).bind fun y => bif List.isEmpty (α := Int) y.2.2.1 then none else some (((), ()), (((y.2.2.1, ()), ()), ()))
noncomputable def c32h : Con := ⟨i32, (.ret { sl := [(0, .m (.i .u8) 0)], bx := [[.r (.i .u8)]], bf := [] }), fun x => F32h x.1.1⟩
theorem c32h_ok : Con.OK Try.prog 32 c32h := heat (ik := .u8) rfl rfl c32_ok
noncomputable def b8 : Code := (.seq (.region 0 (regOf Try.f8 0) false) (.seq (.region 1 (regOf Try.f8 1) false) (.seq (.region 2 (regOf Try.f8 2) false) (.seq (.seq (.region 3 (regOf Try.f8 3) false) (.cond (.tmp 26) (.seq (.region 4 (regOf Try.f8 4) false) .ret) .skip)) (.seq (.region 5 (regOf Try.f8 5) false) (.seq (.region 6 (regOf Try.f8 6) false) (.seq (.region 7 (regOf Try.f8 7) false) .ret)))))))
theorem body8 : Try.f8.body = some b8 := by kernel_rfl
noncomputable def C8 : Tab := [(12, c12), (32, c32h), (500010, cHot), (500035, cHot)]
theorem C8_ok : TabOK Try.prog C8 := ⟨c12_ok, c32h_ok, cHot_ok, cHot_ok, trivial⟩
noncomputable def LO8 : Tab := []
noncomputable def i8 : Tm := { sl := [], bx := [], bf := [] }
noncomputable def o8 : OT := (.ret { sl := [(0, .v .b)], bx := [], bf := [] })
noncomputable def F8 : Option ((Bool × Unit) × Unit × Unit) :=
  ((F32h (7, (1, (2, (false, (3, (([] : List Int), (([] : List DRw), (([] : List DEv), (0, (0, (0, (0, (([] : List Int), (3, ()))))))))))))))).bind fun y402 => ((F12 y402.2.1.1.1).bind fun y403 => (bif ((y403.1.2.1 : Int) != 0) then (some ((false, ()), (), ())) else (bif ((y403.1.1.2.2.2.2.2.2.2.2.2.2.2.2.2.1 : Int) != 3) then (some ((false, ()), (), ())) else (bif ((y403.1.1.2.2.1 : Int) != 2) then (some ((false, ()), (), ())) else (bif (decide (0 ≤ (2 : Int) ∧ (2 : Int) < (((y402.2.1.1.1).length : Nat) : Int))) then (bif (decide ((2 : Int).toNat < (y402.2.1.1.1).length)) then (bif (decide (0 ≤ (2 : Int) ∧ (2 : Int) < (((y402.2.1.1.1).length : Nat) : Int))) then (bif (decide ((2 : Int).toNat < (y402.2.1.1.1).length)) then ((F12 ((y402.2.1.1.1).set (2 : Int).toNat (iXor .u8 ((y402.2.1.1.1).getD (2 : Int).toNat (0 : Int)) 1))).bind fun y404 => (some ((((y404.1.2.1 : Int) != 0), ()), (), ()))) else none) else none) else none) else none))))))
noncomputable def c8 : Con := ⟨i8, o8, fun x => F8⟩
theorem e8 (x : i8.E) : vfn Try.prog C8 LO8 Try.f8 b8 i8 o8 x = F8 := by kernel_rfl
theorem c8_ok : Con.OK Try.prog 8 c8 := (fn_ok C8_ok Try.func8 body8 (loops_of (l := []) (by kernel_rfl) (show LoopsOK Try.prog Try.f8.ntmps [] LO8 from trivial)) i8 o8).congr fun x => (e8 x).symm
noncomputable def b4 : Code := (.seq (.region 0 (regOf Try.f4 0) false) (.seq (.seq (.region 1 (regOf Try.f4 1) false) (.cond (.tmp 13) (.seq (.region 2 (regOf Try.f4 2) false) .ret) .skip)) (.seq (.seq (.region 3 (regOf Try.f4 3) false) (.cond (.tmp 15) (.region 4 (regOf Try.f4 4) false) .skip)) (.seq (.region 5 (regOf Try.f4 5) false) (.seq (.seq (.region 6 (regOf Try.f4 6) false) (.cond (.tmp 24) (.seq (.region 7 (regOf Try.f4 7) false) .ret) .skip)) (.seq (.region 8 (regOf Try.f4 8) true) .ret))))))
noncomputable def C4 : Tab := [(8, c8), (10, c10), (12, c12), (13, c13)]
noncomputable def LO4 : Tab := []
noncomputable def i4 : Tm := { sl := [(0, .v (.l (.i .u8))), (1, .v .b)], bx := [], bf := [] }
noncomputable def o4 : OT := (.ret { sl := [(0, .v .b)], bx := [], bf := [] })
noncomputable def F4 (a0 : (List Int)) (a1 : Bool) : Option ((Bool × Unit) × Unit × Unit) :=
  ((F8).bind fun y405 => (bif (!y405.1.1) then ((F8).bind fun y406 => (some ((y406.1.1, ()), (), ()))) else (bif (decide (((((a0).length : Nat) : Int) : Int) > 500)) then ((F8).bind fun y407 => (some ((y407.1.1, ()), (), ()))) else (bif a1 then ((F13 a0).bind fun y408 => ((F12 y408.2.2.1).bind fun y409 => (bif ((y409.1.2.1 : Int) != 0) then (bif ((y409.1.1.1 : Int) == 0) then (some ((((y409.1.1.2.2.2.2.1 : Int) == 0), ()), (), ())) else (some ((false, ()), (), ()))) else ((F10 (y409.1.1.1, (y409.1.1.2.1, (y409.1.1.2.2.1, (y409.1.1.2.2.2.1, (y409.1.1.2.2.2.2.1, (y409.1.1.2.2.2.2.2.1, (y409.1.1.2.2.2.2.2.2.1, (y409.1.1.2.2.2.2.2.2.2.1, (y409.1.1.2.2.2.2.2.2.2.2.1, (y409.1.1.2.2.2.2.2.2.2.2.2.1, (y409.1.1.2.2.2.2.2.2.2.2.2.2.1, (y409.1.1.2.2.2.2.2.2.2.2.2.2.2.1, (y409.1.1.2.2.2.2.2.2.2.2.2.2.2.2.1, (y409.1.1.2.2.2.2.2.2.2.2.2.2.2.2.2.1, ()))))))))))))))).bind fun y410 => (some (((((strL y410.2.2.1) : ByteArray).toList == ((strL y408.2.2.1) : ByteArray).toList), ()), (), ())))))) else ((F12 a0).bind fun y411 => (bif ((y411.1.2.1 : Int) != 0) then (bif ((y411.1.1.1 : Int) == 0) then (some ((((y411.1.1.2.2.2.2.1 : Int) == 0), ()), (), ())) else (some ((false, ()), (), ()))) else ((F10 (y411.1.1.1, (y411.1.1.2.1, (y411.1.1.2.2.1, (y411.1.1.2.2.2.1, (y411.1.1.2.2.2.2.1, (y411.1.1.2.2.2.2.2.1, (y411.1.1.2.2.2.2.2.2.1, (y411.1.1.2.2.2.2.2.2.2.1, (y411.1.1.2.2.2.2.2.2.2.2.1, (y411.1.1.2.2.2.2.2.2.2.2.2.1, (y411.1.1.2.2.2.2.2.2.2.2.2.2.1, (y411.1.1.2.2.2.2.2.2.2.2.2.2.2.1, (y411.1.1.2.2.2.2.2.2.2.2.2.2.2.2.1, (y411.1.1.2.2.2.2.2.2.2.2.2.2.2.2.2.1, ()))))))))))))))).bind fun y412 => (some (((((strL y412.2.2.1) : ByteArray).toList == ((strL a0) : ByteArray).toList), ()), (), ())))))))))
noncomputable def c4 : Con := ⟨i4, o4, fun x => F4 x.1.1 x.1.2.1⟩
theorem e4 (x : i4.E) : vfn Try.prog C4 LO4 Try.f4 b4 i4 o4 x = F4 x.1.1 x.1.2.1 := by kernel_rfl
end Go.IM.V
namespace Go.IM.V
open Go Go.IM
theorem toList_loop (bs : ByteArray) : ∀ (d i : Nat) (r : List UInt8), i + d = bs.size → ByteArray.toList.loop bs i r = r.reverse ++ bs.data.toList.drop i := by
  intro d
  induction d with
  | zero =>
    intro i r h
    unfold ByteArray.toList.loop
    rw [if_neg (by omega), List.drop_eq_nil_of_le (by simp; omega), List.append_nil]
  | succ d ih =>
    intro i r h
    have hs : bs.size = bs.data.toList.length := by simp
    unfold ByteArray.toList.loop
    rw [if_pos (by omega), ih (i + 1) _ (by omega), List.drop_eq_getElem_cons (l := bs.data.toList) (i := i) (by omega)]
    have hlt : i < bs.data.size := by have : bs.size = bs.data.size := rfl; omega
    have : bs.get! i = bs.data.toList[i]'(by omega) := by
      show bs.data[i]! = _
      rw [getElem!_pos bs.data i hlt]
      simp
    simp [this]
theorem toListB (bs : ByteArray) : bs.toList = bs.data.toList := by
  have := toList_loop bs bs.size 0 [] (by omega)
  unfold ByteArray.toList
  rw [this]; simp
theorem strL_toList (l : List Int) : (strL l).toList = l.map fun n => UInt8.ofNat n.toNat := by rw [toListB]; simp [strL]
theorem strL_beq {a b : List Int} (ha : ∀ x ∈ a, 0 ≤ x ∧ x < 256) (hb : ∀ x ∈ b, 0 ≤ x ∧ x < 256) : ((strL a).toList == (strL b).toList) = decide (a = b) := by
  rw [strL_toList, strL_toList, Bool.eq_iff_iff, beq_iff_eq, decide_eq_true_iff]
  constructor
  · intro h
    have back : ∀ l : List Int, (∀ x ∈ l, 0 ≤ x ∧ x < 256) → (l.map fun n => UInt8.ofNat n.toNat).map (fun b => (b.toNat : Int)) = l := by
      intro l hl
      rw [List.map_map]
      conv => rhs; rw [← List.map_id l]
      apply List.map_congr_left
      intro x hx
      have := hl x hx
      simp [UInt8.toNat_ofNat']
      omega
    rw [← back a ha, ← back b hb, h]
  · intro h; rw [h]
end Go.IM.V
namespace Go.IM.V
open Go Go.IM Go.Proofs
def Vok (v : List Int) : Prop := ∀ x ∈ v, 0 ≤ x ∧ x < 18446744073709551616
abbrev gv (v : List Int) (k : Nat) : Int := v.getD k 0
theorem Vok.gv {v : List Int} (h : Vok v) (k : Nat) : 0 ≤ gv v k ∧ gv v k < 18446744073709551616 := by
  unfold V.gv
  rw [List.getD_eq_getElem?_getD]
  rcases Nat.lt_or_ge k v.length with hk | hk
  · rw [List.getElem?_eq_getElem hk]; exact h _ (List.getElem_mem hk)
  · rw [List.getElem?_eq_none hk]; simp
theorem F79_eq (a : List Int) (h : a.length < 2 ^ 39) : F79 a = some (r1 a) := by
  unfold F79
  refine nilBr_of ?_ (fun h0 => ?_)
  · rw [cif, if_pos (by unfold lim; simp; omega)]; rfl
  · rw [List.eq_nil_of_length_eq_zero h0]
def trimN (a : List Int) : Nat → Nat
  | 0 => 0
  | n + 1 => if gv a n = 0 then trimN a n else n + 1
theorem trimN_le (a : List Int) : ∀ n, trimN a n ≤ n := by
  intro n
  induction n with
  | zero => exact Nat.le_refl _
  | succ n ih => simp only [trimN]; split <;> omega
def trim (a : List Int) : List Int := a.take (trimN a a.length)
theorem L62_run (a : List Int) (hn : a.length < 2 ^ 39) : ∀ k, k ≤ a.length → L62_2 a (k : Nat) = some (r1 ((trimN a k : Nat) : Int)) := by
  intro k
  induction k with
  | zero =>
    intro _
    rw [L62_2_eq]
    simp only [T62_2, cif]
    rw [if_neg (by omega)]
    rfl
  | succ k ih =>
    intro hk
    rw [L62_2_eq]
    have hw : IntKind.wrap .i64 (((k + 1 : Nat) : Int) - 1) = (k : Int) := by rw [w64 (by omega) (by omega)]; omega
    simp only [T62_2, cif]
    rw [hw, if_pos (by omega), if_pos (by omega)]
    simp only [Int.toNat_natCast]
    by_cases h : gv a k = 0
    · have hb : (a.getD k 0 == 0) = true := by simpa using h
      rw [hb]
      simp only [cond_true, Option.bind_some, Sum.elim_inl]
      rw [ih (by omega)]
      simp only [trimN]
      rw [if_pos h]
    · have hb : (a.getD k 0 == 0) = false := by simpa using h
      rw [hb]
      simp only [cond_false, Option.bind_some, Sum.elim_inr, trimN]
      rw [if_neg h]
theorem F62_eq (a : List Int) (hn : a.length < 2 ^ 39) : F62 a = some (r1 (trim a)) := by
  unfold F62
  rw [L62_run a hn a.length (Nat.le_refl _)]
  have := trimN_le a a.length
  simp only [Option.bind_some, cif]
  rw [if_pos (by omega), Int.toNat_natCast, F79_eq _ (by rw [List.length_take]; omega)]
  rfl
theorem trim_len (a : List Int) : (trim a).length = trimN a a.length := by
  unfold trim; rw [List.length_take]; have := trimN_le a a.length; omega
def dgF : Nat → Int → List Int
  | 0, n => [n]
  | f + 1, n => if n < 128 then [n] else (128 + n % 128) :: dgF f (n / 128)
def dg (n : Int) : List Int := dgF 9 n
theorem dgF_len : ∀ (f : Nat) (n : Int), (dgF f n).length ≤ f + 1
  | 0, _ => by simp [dgF]
  | f + 1, n => by
    unfold dgF
    split
    · simp
    · have := dgF_len f (n / 128); simp; omega
theorem dg_len (n : Int) : (dg n).length ≤ 10 := dgF_len 9 n
theorem dgF_lt {f : Nat} {n : Int} (h : n < 128) : dgF f n = [n] := by
  cases f with
  | zero => rfl
  | succ f => unfold dgF; rw [if_pos h]
theorem or128' : ∀ a : Fin 256, iOr .u8 (a.val : Int) 128 = 128 + (a.val : Int) % 128 := by decide +kernel
theorem or128 (n : Int) : iOr .u8 (IntKind.wrap .u8 n) 128 = 128 + n % 128 := by
  rw [wu8_mod]
  have := or128' ⟨(n % 256).toNat, by omega⟩
  simp only at this
  rw [show (((n % 256).toNat : Nat) : Int) = n % 256 from by omega] at this
  rw [this]; omega
theorem shr7 {n : Int} (h : 0 ≤ n) : iShr .u64 n 7 = n / 128 := by
  unfold iShr
  show n.fdiv (2 ^ 7) = _
  rw [Int.fdiv_eq_ediv_of_nonneg _ (by omega)]
  rfl
theorem L51_run : ∀ (f : Nat) (n : Int) (q : List Int), 0 ≤ n → n < 128 ^ (f + 1) → q.length + f < lim →
    ∃ n' p, L51_1 n q = some (((), n', ()), (), (q ++ p, ())) ∧ 0 ≤ n' ∧ n' < 128 ∧ p ++ [n'] = dgF f n ∧ p.length ≤ f := by
  intro f
  induction f with
  | zero =>
    intro n q h0 h1 hq
    refine ⟨n, [], ?_, h0, by omega, rfl, by simp⟩
    rw [L51_1_eq]
    simp only [T51_1, cif]
    rw [if_neg (by omega)]
    simp
  | succ f ih =>
    intro n q h0 h1 hq
    by_cases hn : n < 128
    · refine ⟨n, [], ?_, h0, hn, by rw [dgF_lt hn]; rfl, by simp⟩
      rw [L51_1_eq]
      simp only [T51_1, cif]
      rw [if_neg (by omega)]
      simp
    · have hl : (q ++ [128 + n % 128]).length = q.length + 1 := by simp
      obtain ⟨n', p, e, a, b, c, d⟩ := ih (n / 128) (q ++ [128 + n % 128]) (by omega) (by rw [Int.pow_succ] at h1; omega) (by rw [hl]; omega)
      refine ⟨n', (128 + n % 128) :: p, ?_, a, b, ?_, by simp; omega⟩
      · rw [L51_1_eq]
        simp only [T51_1, cif]
        rw [if_pos (by omega), if_pos (by simp; omega), or128, shr7 h0]
        simp only [Option.bind_some, Sum.elim_inl]
        rw [e]
        simp
      · rw [dgF, if_neg hn, List.cons_append, c]
theorem F51_eq (n : Int) (q : List Int) (h0 : 0 ≤ n) (h1 : n < 18446744073709551616) (hq : q.length + 10 < lim) : F51 n q = some (ro (q ++ dg n)) := by
  obtain ⟨n', p, e, a, b, c, d⟩ := L51_run 9 n q h0 (by rw [show (128 : Int) ^ (9 + 1) = 1180591620717411303424 from by decide]; omega) (by omega)
  unfold F51
  rw [e]
  simp only [Option.bind_some, cif]
  rw [if_pos (by simp; omega), wu8_mod, Int.emod_eq_of_lt a (by omega), List.append_assoc, c]
  rfl
theorem L26_run : ∀ (f : Nat) (n : Int) (q : List Int), 0 ≤ n → n < 18446744073709551616 → n < 128 ^ (f + 1) → q.length + f < lim →
    ∃ n' p, L26_3 n q = some ((n', (), ()), (), (q ++ p, ())) ∧ 0 ≤ n' ∧ n' < 128 ∧ p ++ [n'] = dgF f n ∧ p.length ≤ f := by
  intro f
  induction f with
  | zero =>
    intro n q h0 h2 h1 hq
    refine ⟨n, [], ?_, h0, by omega, rfl, by simp⟩
    rw [L26_3_eq]
    simp only [T26_3, cif]
    rw [if_neg (by omega)]
    simp
  | succ f ih =>
    intro n q h0 h2 h1 hq
    by_cases hn : n < 128
    · refine ⟨n, [], ?_, h0, hn, by rw [dgF_lt hn]; rfl, by simp⟩
      rw [L26_3_eq]
      simp only [T26_3, cif]
      rw [if_neg (by omega)]
      simp
    · have hl : (q ++ [128 + n % 128]).length = q.length + 1 := by simp
      obtain ⟨n', p, e, a, b, c, d⟩ := ih (n / 128) (q ++ [128 + n % 128]) (by omega) (by omega) (by rw [Int.pow_succ] at h1; omega) (by rw [hl]; omega)
      refine ⟨n', (128 + n % 128) :: p, ?_, a, b, ?_, by simp; omega⟩
      · rw [L26_3_eq]
        simp only [T26_3, cif]
        rw [if_pos (by omega), if_pos (by simp; omega), Int.tmod_eq_emod_of_nonneg h0, Int.tdiv_eq_ediv_of_nonneg h0, wu64 (n := 128 + n % 128) (by omega) (by omega),
          wu8_mod, Int.emod_eq_of_lt (a := 128 + n % 128) (by omega) (by omega), wu64 (n := n / 128) (by omega) (by omega)]
        simp only [Option.bind_some, Sum.elim_inl]
        rw [e]
        simp
      · rw [dgF, if_neg hn, List.cons_append, c]
theorem F26_eq (q : List Int) (n : Int) (h0 : 0 ≤ n) (h1 : n < 18446744073709551616) (hq : q.length + 10 < lim) : F26 q n = some (ro (q ++ dg n)) := by
  obtain ⟨n', p, e, a, b, c, d⟩ := L26_run 9 n q h0 h1 (by rw [show (128 : Int) ^ (9 + 1) = 1180591620717411303424 from by decide]; omega) (by omega)
  unfold F26
  simp only [cif]
  rw [if_pos (by omega), e]
  simp only [Option.bind_some, cif]
  rw [if_pos (by simp; omega), wu8_mod, Int.emod_eq_of_lt a (by omega), List.append_assoc, c]
  rfl
def dgT (t : List Int) : List Int := dg t.length ++ t
theorem dgT_len (t : List Int) : (dgT t).length ≤ 10 + t.length := by unfold dgT; have := dg_len t.length; simp; omega
theorem F52_eq (t q : List Int) (ht : t.length < 4294967296) (hq : q.length + t.length + 10 < lim) : F52 t q = some (ro (q ++ dgT t)) := by
  unfold F52
  rw [wu64 (by omega) (by omega), F51_eq _ _ (by omega) (by omega) (by omega)]
  have := dg_len t.length
  simp only [Option.bind_some, cif]
  rw [if_pos (by simp; omega), List.append_assoc]
  rfl
theorem F27_eq (q t : List Int) (ht : t.length < 4294967296) (hq : q.length + t.length + 10 < lim) : F27 q t = some (ro (q ++ dgT t)) := by
  unfold F27
  rw [wu64 (by omega) (by omega), F26_eq _ _ (by omega) (by omega) (by omega)]
  have := dg_len t.length
  simp only [Option.bind_some, cif]
  rw [if_pos (by simp; omega), List.append_assoc]
  rfl
def fixF (n : Int) : Nat → List Int
  | 0 => []
  | k + 1 => (n / 256 ^ k) % 256 :: fixF n k
def fix8 (n : Int) : List Int := fixF n 8
theorem fixF_len (n : Int) : ∀ k, (fixF n k).length = k
  | 0 => rfl
  | k + 1 => by simp [fixF, fixF_len n k]
theorem shr8 {n : Int} (h : 0 ≤ n) (k : Nat) (hk : k < 8) : IntKind.wrap .u8 (iShr .u64 n ((8 * k : Nat) : Int)) = (n / 256 ^ k) % 256 := by
  rw [wu8_mod]
  unfold iShr
  rw [Int.toNat_natCast, Nat.min_eq_left (by show 8 * k ≤ 64; omega), Int.fdiv_eq_ediv_of_nonneg _ (by exact Int.le_of_lt (Int.pow_pos (by decide))), Int.pow_mul]
  rfl
theorem L83_run (n : Int) (h0 : 0 ≤ n) : ∀ (k : Nat) (q : List Int), k ≤ 8 → q.length + k < lim → L83_2 n ((k : Int) - 1) q = some (((), ()), (), (q ++ fixF n k, ())) := by
  intro k
  induction k with
  | zero =>
    intro q hk hq
    rw [L83_2_eq]
    simp only [T83_2, cif]
    rw [if_neg (by omega)]
    simp [fixF]
  | succ k ih =>
    intro q hk hq
    rw [L83_2_eq]
    simp only [T83_2, cif]
    have hw : IntKind.wrap .i64 (8 * (((k + 1 : Nat) : Int) - 1)) = ((8 * k : Nat) : Int) := by rw [w64 (by omega) (by omega)]; omega
    have hw2 : IntKind.wrap .i64 (((k + 1 : Nat) : Int) - 1 - 1) = (k : Int) - 1 := by rw [w64 (by omega) (by omega)]; omega
    rw [if_pos (by omega), hw, hw2, shr8 h0 k (by omega), if_pos (by omega), if_pos (by simp; omega)]
    simp only [Option.bind_some, Sum.elim_inl]
    rw [ih (q ++ [(n / 256 ^ k) % 256]) (by omega) (by simp; omega)]
    simp [fixF]
theorem F83_eq (n : Int) (q : List Int) (h0 : 0 ≤ n) (hq : q.length + 8 < lim) : F83 n q = some (ro (q ++ fix8 n)) := by
  unfold F83
  have := L83_run n h0 8 q (by omega) hq
  rw [show ((8 : Nat) : Int) - 1 = 7 from rfl] at this
  rw [this]
  rfl
theorem L67_run (n : Int) (h0 : 0 ≤ n) : ∀ (k : Nat) (q : List Int), k ≤ 8 → q.length + k < lim → L67_4 n (8 - (k : Int)) q = some (((), ()), (), (q ++ fixF n k, ())) := by
  intro k
  induction k with
  | zero =>
    intro q hk hq
    rw [L67_4_eq]
    simp only [T67_4, cif]
    rw [if_neg (by omega)]
    simp [fixF]
  | succ k ih =>
    intro q hk hq
    rw [L67_4_eq]
    simp only [T67_4, cif]
    have hw : IntKind.wrap .i64 (56 - IntKind.wrap .i64 (8 * (8 - ((k + 1 : Nat) : Int)))) = ((8 * k : Nat) : Int) := by
      rw [w64 (n := 8 * (8 - ((k + 1 : Nat) : Int))) (by omega) (by omega), w64 (by omega) (by omega)]; omega
    have hw2 : IntKind.wrap .i64 (8 - ((k + 1 : Nat) : Int) + 1) = 8 - (k : Int) := by rw [w64 (by omega) (by omega)]; omega
    rw [if_pos (by omega), hw, hw2, shr8 h0 k (by omega), if_pos (by omega), if_pos (by simp; omega)]
    simp only [Option.bind_some, Sum.elim_inl]
    rw [ih (q ++ [(n / 256 ^ k) % 256]) (by omega) (by simp; omega)]
    simp [fixF]
theorem F67_eq (q : List Int) (n : Int) (h0 : 0 ≤ n) (hq : q.length + 8 < lim) : F67 q n = some (ro (q ++ fix8 n)) := by
  unfold F67
  simp only [cif]
  rw [if_pos (by omega)]
  have := L67_run n h0 8 q (by omega) hq
  rw [show (8 : Int) - ((8 : Nat) : Int) = 0 from rfl] at this
  rw [this]
  rfl
def qbits (x : Nat) : Int := if FloatKind.f64.format.order x x != some Ordering.eq then 9221120237041090561 else (x : Int)
theorem F68_eq (x : Nat) : F68 x = some (r1 (qbits x)) := by
  unfold F68 F85 qbits
  simp only [Option.bind_some]
  cases FloatKind.f64.format.order x x != some Ordering.eq <;> rfl
theorem F84_eq (x : Nat) : F84 x = some (r1 (qbits x)) := F68_eq x
theorem qbits_nn (x : Nat) : 0 ≤ qbits x := by unfold qbits; split <;> omega
abbrev Ev : Type := Int × Int × Int × Int × ByteArray × List Int × Nat × Int × Unit
def encR (k : Int) (text : List Int) (num : Nat) (node : Int) : List Int :=
  if k = 1 then dgT text else if k = 2 ∨ k = 3 then fix8 (qbits num) else if k = 5 then dg (IntKind.wrap .u64 node) else []
def encE (e : Ev) : List Int :=
  dg (IntKind.wrap .u64 e.1) ++ dg e.2.1 ++ dg e.2.2.1 ++ [e.2.2.2.1] ++ (if 1 ≤ e.2.2.2.1 ∧ e.2.2.2.1 ≤ 4 then dgT (bytesL e.2.2.2.2.1) else []) ++ encR e.2.2.2.1 e.2.2.2.2.2.1 e.2.2.2.2.2.2.1 e.2.2.2.2.2.2.2.1
theorem bytesL_len (s : ByteArray) : (bytesL s).length = s.size := by unfold bytesL; simp
structure EvOK (e : Ev) : Prop where
  s0 : 0 ≤ e.2.1
  s1 : e.2.1 < 18446744073709551616
  t0 : 0 ≤ e.2.2.1
  t1 : e.2.2.1 < 18446744073709551616
  key : e.2.2.2.2.1.size < 4294967296
  text : e.2.2.2.1 = 1 → e.2.2.2.2.2.1.length < 4294967296
theorem F66_eq (e : Ev) (h : EvOK e) : F66 e = some (ro (encE e)) := by
  obtain ⟨w, s, t, k, key, text, num, node, ⟨⟩⟩ := e
  obtain ⟨s0, s1, t0, t1, hk, ht⟩ := h
  simp only at s0 s1 t0 t1 hk ht
  have l1 := dg_len (IntKind.wrap .u64 w)
  have l2 := dg_len s
  have l3 := dg_len t
  have l4 := bytesL_len key
  have l5 := dgT_len (bytesL key)
  have hw : 0 ≤ IntKind.wrap .u64 w ∧ IntKind.wrap .u64 w < 18446744073709551616 := by rw [wu64_mod]; omega
  have hn : 0 ≤ IntKind.wrap .u64 node ∧ IntKind.wrap .u64 node < 18446744073709551616 := by rw [wu64_mod]; omega
  have hlim : lim = 1099511627776 := rfl
  unfold F66 encE
  simp only [cif, beq_iff_eq, Bool.cond_eq_ite, decide_eq_true_eq]
  rw [F51_eq _ _ hw.1 hw.2 (by simp; omega)]
  simp only [Option.bind_some, List.nil_append]
  rw [F51_eq _ _ s0 s1 (by omega)]
  simp only [Option.bind_some]
  rw [F51_eq _ _ t0 t1 (by simp; omega)]
  simp only [Option.bind_some]
  rw [if_pos (by simp; omega)]
  unfold encR
  have key' : ∀ q : List Int, q.length ≤ 31 → F52 (bytesL key) q = some (ro (q ++ dgT (bytesL key))) := fun q hq => F52_eq _ _ (by omega) (by omega)
  have text' : k = 1 → ∀ q : List Int, q.length ≤ 4294967396 → F52 text q = some (ro (q ++ dgT text)) := fun h1 q hq => F52_eq _ _ (ht h1) (by have := ht h1; omega)
  have node' : ∀ q : List Int, q.length ≤ 4294967396 → F51 (IntKind.wrap .u64 node) q = some (ro (q ++ dg (IntKind.wrap .u64 node))) := fun q hq => F51_eq _ _ hn.1 hn.2 (by omega)
  have num' : ∀ q : List Int, q.length ≤ 4294967396 → F83 (qbits num) q = some (ro (q ++ fix8 (qbits num))) := fun q hq => F83_eq _ _ (qbits_nn _) (by omega)
  by_cases k1 : 1 ≤ k
  · by_cases k4 : k ≤ 4
    · rw [if_pos (show k ≥ 1 from k1), if_pos k4, if_pos ⟨k1, k4⟩, key' _ (by simp; omega)]
      simp only [Option.bind_some]
      by_cases e1 : k = 1
      · rw [if_pos e1, if_pos e1, text' e1 _ (by simp; omega)]; rfl
      rw [if_neg e1, if_neg e1]
      by_cases e2 : k = 2
      · rw [if_pos e2, if_pos (Or.inl e2), F84_eq]; simp only [Option.bind_some]; rw [num' _ (by simp; omega)]; rfl
      rw [if_neg e2]
      by_cases e3 : k = 3
      · rw [if_pos e3, if_pos (Or.inr e3), F84_eq]; simp only [Option.bind_some]; rw [num' _ (by simp; omega)]; rfl
      simp only [e2, e3, show ¬ k = 5 from by omega, if_false, or_self, List.append_nil]
    · rw [if_pos (show k ≥ 1 from k1), if_neg k4]
      simp only [show ¬ k = 1 from by omega, show ¬ k = 2 from by omega, show ¬ k = 3 from by omega, show ¬ (1 ≤ k ∧ k ≤ 4) from by omega, if_false, or_self, List.append_nil]
      by_cases e5 : k = 5
      · rw [if_pos e5, if_pos e5, node' _ (by simp; omega)]; rfl
      · rw [if_neg e5, if_neg e5, List.append_nil]
  · rw [if_neg (show ¬ k ≥ 1 from k1)]
    simp only [show ¬ k = 1 from by omega, show ¬ k = 2 from by omega, show ¬ k = 3 from by omega, show ¬ k = 5 from by omega, show ¬ (1 ≤ k ∧ k ≤ 4) from by omega, if_false, or_self, List.append_nil]
theorem F33_eq (e : Ev) (h : EvOK e) (h1 : 1 ≤ e.2.2.2.1) : F33 e = some (ro (encE e)) := by
  obtain ⟨w, s, t, k, key, text, num, node, ⟨⟩⟩ := e
  obtain ⟨s0, s1, t0, t1, hk, ht⟩ := h
  simp only at s0 s1 t0 t1 hk ht h1
  have l1 := dg_len (IntKind.wrap .u64 w)
  have l2 := dg_len s
  have l3 := dg_len t
  have l4 := bytesL_len key
  have l5 := dgT_len (bytesL key)
  have hw : 0 ≤ IntKind.wrap .u64 w ∧ IntKind.wrap .u64 w < 18446744073709551616 := by rw [wu64_mod]; omega
  have hn : 0 ≤ IntKind.wrap .u64 node ∧ IntKind.wrap .u64 node < 18446744073709551616 := by rw [wu64_mod]; omega
  have hlim : lim = 1099511627776 := rfl
  unfold F33 encE
  simp only [cif, beq_iff_eq, Bool.cond_eq_ite, decide_eq_true_eq]
  rw [F26_eq _ _ hw.1 hw.2 (by simp; omega)]
  simp only [Option.bind_some, List.nil_append]
  rw [F26_eq _ _ s0 s1 (by omega)]
  simp only [Option.bind_some]
  rw [F26_eq _ _ t0 t1 (by simp; omega)]
  simp only [Option.bind_some]
  rw [if_pos (by simp; omega)]
  unfold encR
  have key' : ∀ q : List Int, q.length ≤ 31 → F27 q (bytesL key) = some (ro (q ++ dgT (bytesL key))) := fun q hq => F27_eq _ _ (by omega) (by omega)
  have text' : k = 1 → ∀ q : List Int, q.length ≤ 4294967396 → F27 q text = some (ro (q ++ dgT text)) := fun h1 q hq => F27_eq _ _ (ht h1) (by have := ht h1; omega)
  have node' : ∀ q : List Int, q.length ≤ 4294967396 → F26 q (IntKind.wrap .u64 node) = some (ro (q ++ dg (IntKind.wrap .u64 node))) := fun q hq => F26_eq _ _ hn.1 hn.2 (by omega)
  have num' : ∀ q : List Int, q.length ≤ 4294967396 → F67 q (qbits num) = some (ro (q ++ fix8 (qbits num))) := fun q hq => F67_eq _ _ (qbits_nn _) (by omega)
  by_cases k4 : k ≤ 4
  · rw [if_pos k4, if_pos ⟨h1, k4⟩, key' _ (by simp; omega)]
    simp only [Option.bind_some]
    by_cases e1 : k = 1
    · rw [if_pos e1, if_pos e1, text' e1 _ (by simp; omega)]; simp only [Option.bind_some, show ¬ k = 2 from by omega, show ¬ k = 3 from by omega, show ¬ k = 5 from by omega, if_false]
    rw [if_neg e1, if_neg e1]
    by_cases e2 : k = 2
    · rw [if_pos e2, if_pos (Or.inl e2), F68_eq]; simp only [Option.bind_some]; rw [num' _ (by simp; omega)]; simp only [Option.bind_some, show ¬ k = 5 from by omega, if_false]
    rw [if_neg e2]
    by_cases e3 : k = 3
    · rw [if_pos e3, if_pos (Or.inr e3), F68_eq]; simp only [Option.bind_some]; rw [num' _ (by simp; omega)]; simp only [Option.bind_some, show ¬ k = 5 from by omega, if_false]
    simp only [e2, e3, show ¬ k = 5 from by omega, if_false, or_self, List.append_nil]
  · rw [if_neg k4]
    simp only [show ¬ k = 1 from by omega, show ¬ k = 2 from by omega, show ¬ k = 3 from by omega, show ¬ (1 ≤ k ∧ k ≤ 4) from by omega, if_false, or_self, List.append_nil]
    by_cases e5 : k = 5
    · rw [if_pos e5, if_pos e5, node' _ (by simp; omega)]; rfl
    · rw [if_neg e5, if_neg e5, List.append_nil]
def rgt (e : Ev) : Int :=
  if e.1 < 0 ∨ 63 < e.1 ∨ e.2.1 = 0 ∨ e.2.2.1 = 0 ∨ e.2.2.2.1 < 1 ∨ 6 < e.2.2.2.1 then 1
  else if e.2.2.2.1 = 5 ∧ (e.2.2.2.2.2.2.2.1 < 0 ∨ 63 < e.2.2.2.2.2.2.2.1) then 1
  else if e.2.2.2.1 ≤ 4 ∧ (e.2.2.2.2.1.size = 0 ∨ 64 < e.2.2.2.2.1.size) then 6
  else if e.2.2.2.1 = 1 ∧ 1048576 < e.2.2.2.2.2.1.length then 6
  else if 9223372036854775807 < e.2.1 ∨ 9223372036854775807 < e.2.2.1 then 8 else 0
structure EvW (e : Ev) : Prop where
  s0 : 0 ≤ e.2.1
  s1 : e.2.1 < 18446744073709551616
  t0 : 0 ≤ e.2.2.1
  t1 : e.2.2.1 < 18446744073709551616
  key : e.2.2.2.2.1.size < 4294967296
theorem EvW.ok {e : Ev} (h : EvW e) (hr : rgt e = 0) : EvOK e := by
  refine ⟨h.1, h.2, h.3, h.4, h.5, fun h1 => ?_⟩
  unfold rgt at hr
  split at hr
  · cases hr
  split at hr
  · cases hr
  split at hr
  · cases hr
  split at hr
  · cases hr
  omega
def plain (e : Ev) : Ev :=
  (e.1, e.2.1, e.2.2.1, e.2.2.2.1, if 1 ≤ e.2.2.2.1 ∧ e.2.2.2.1 ≤ 4 then e.2.2.2.2.1 else ByteArray.empty, if e.2.2.2.1 = 1 then e.2.2.2.2.2.1 else [],
    if e.2.2.2.1 = 2 ∨ e.2.2.2.1 = 3 then (qbits e.2.2.2.2.2.2.1).toNat else 0, if e.2.2.2.1 = 5 then e.2.2.2.2.2.2.2.1 else 0, ())
theorem rgt_kind {e : Ev} (h : rgt e = 0) : 1 ≤ e.2.2.2.1 := by
  unfold rgt at h
  split at h
  · cases h
  · omega
def Bys (l : List Int) : Prop := ∀ x ∈ l, 0 ≤ x ∧ x < 256
theorem Bys.drop {l : List Int} (h : Bys l) (n : Nat) : Bys (l.drop n) := fun x hx => h x (List.mem_of_mem_drop hx)
theorem Bys.take {l : List Int} (h : Bys l) (n : Nat) : Bys (l.take n) := fun x hx => h x (List.mem_of_mem_take hx)
theorem Bys.app {a b : List Int} (ha : Bys a) (hb : Bys b) : Bys (a ++ b) := fun x hx => (List.mem_append.1 hx).elim (ha x) (hb x)
def tk : Nat → Int → List Int → (Int × List Int) ⊕ Int
  | _, _, [] => .inr 5
  | i, acc, b :: r => if (i = 9 ∧ 1 < b) ∨ (0 < i ∧ b = 0) then .inr 4 else if b < 128 then .inl (acc + b % 128 * 128 ^ i, r) else tk (i + 1) (acc + b % 128 * 128 ^ i) r
theorem and127' : ∀ a : Fin 256, iAnd .u8 (a.val : Int) 127 = (a.val : Int) % 128 := by decide +kernel
theorem and127 {b : Int} (h0 : 0 ≤ b) (h1 : b < 256) : iAnd .u8 b 127 = b % 128 := by
  have := and127' ⟨b.toNat, by omega⟩
  simpa [Int.toNat_of_nonneg h0] using this
theorem or_nat {x y : Nat} (hx : x < 2 ^ 64) (hy : y < 2 ^ 64) : iOr .u64 (x : Int) (y : Int) = ((x ||| y : Nat) : Int) := by
  show IntKind.wrap .u64 (((BitVec.ofInt 64 (x : Int) ||| BitVec.ofInt 64 (y : Int) : BitVec 64).toNat : Nat) : Int) = _
  rw [BitVec.ofInt_natCast, BitVec.ofInt_natCast, BitVec.toNat_or, BitVec.toNat_ofNat, BitVec.toNat_ofNat, Nat.mod_eq_of_lt hx, Nat.mod_eq_of_lt hy]
  have := Nat.or_lt_two_pow hx hy
  exact wu64 (by omega) (by omega)
theorem or_shl {acc c : Int} {i : Nat} (hi : i ≤ 9) (h0 : 0 ≤ acc) (h1 : acc < 128 ^ i) (c0 : 0 ≤ c) (c1 : c < 128) (h9 : i = 9 → c ≤ 1) :
    iOr .u64 acc (iShl .u64 c ((7 * i : Nat) : Int)) = acc + c * 128 ^ i := by
  obtain ⟨x, rfl⟩ := Int.eq_ofNat_of_zero_le h0
  obtain ⟨y, rfl⟩ := Int.eq_ofNat_of_zero_le c0
  have hp : ((128 : Int) ^ i) = ((2 ^ (7 * i) : Nat) : Int) := by rw [Nat.pow_mul]; simp
  rw [hp] at h1 ⊢
  have hx : x < 2 ^ (7 * i) := by exact_mod_cast h1
  have hy : y * 2 ^ (7 * i) < 2 ^ 64 := by
    rcases Nat.lt_or_ge i 9 with q | q
    · have : 2 ^ (7 * i) ≤ 2 ^ 56 := Nat.pow_le_pow_right (by decide) (by omega)
      calc y * 2 ^ (7 * i) ≤ 127 * 2 ^ 56 := Nat.mul_le_mul (by omega) this
        _ < 2 ^ 64 := by decide
    · obtain rfl : i = 9 := by omega
      have := h9 rfl
      calc y * 2 ^ (7 * 9) ≤ 1 * 2 ^ 63 := Nat.mul_le_mul (by omega) (by decide)
        _ < 2 ^ 64 := by decide
  have hx64 : x < 2 ^ 64 := Nat.lt_of_lt_of_le hx (Nat.pow_le_pow_right (by decide) (by omega))
  have hs : iShl .u64 (y : Int) ((7 * i : Nat) : Int) = ((y * 2 ^ (7 * i) : Nat) : Int) := by
    unfold iShl
    rw [Int.toNat_natCast, Nat.min_eq_left (by show 7 * i ≤ 64; omega), show (y : Int) * 2 ^ (7 * i) = ((y * 2 ^ (7 * i) : Nat) : Int) from by simp]
    generalize y * 2 ^ (7 * i) = z at hy
    exact wu64 (by omega) (by omega)
  rw [hs, or_nat hx64 hy, ← Nat.shiftLeft_eq, Nat.or_comm, ← Nat.shiftLeft_add_eq_or_of_lt hx, Nat.shiftLeft_eq]
  simp
  omega
abbrev r3 {α β γ : Type} (x : α) (y : β) (z : γ) : (α × β × γ × Unit) × Unit × Unit := ((x, y, z, ()), (), ())
theorem acc_lt {acc c : Int} {i : Nat} (h1 : acc < 128 ^ i) (c1 : c < 128) : acc + c * 128 ^ i < 128 ^ (i + 1) := by
  have hp : (0 : Int) < 128 ^ i := Int.pow_pos (by decide)
  rw [Int.pow_succ]
  have : c * 128 ^ i ≤ 127 * 128 ^ i := Int.mul_le_mul_of_nonneg_right (by omega) (Int.le_of_lt hp)
  omega
theorem L80_run (xs : List Int) (hb : Bys xs) : ∀ (r : List Int) (i : Nat) (acc : Int), r = xs.drop i → i ≤ 9 → i ≤ xs.length → 0 ≤ acc → acc < 128 ^ i →
    L80_3 xs acc xs (xs.length : Nat) (i : Nat) = some (match tk i acc r with | .inl q => .inl (r3 q.1 q.2 0) | .inr e => if e = 4 then .inl (r3 0 xs 4) else .inr ((), (), ())) := by
  intro r
  induction r with
  | nil =>
    intro i acc hr hi hl h0 h1
    have : xs.length ≤ i := by
      have := congrArg List.length hr
      simp at this
      omega
    rw [L80_3_eq]
    simp only [T80_3, cif]
    rw [if_neg (by omega)]
    rfl
  | cons b r ih =>
    intro i acc hr hi hl h0 h1
    have hlt : i < xs.length := by
      have := congrArg List.length hr
      simp at this
      omega
    have hd := List.drop_eq_getElem_cons hlt
    rw [hd] at hr
    cases hr
    obtain ⟨b0, b1⟩ := hb _ (List.getElem_mem hlt)
    have hg : xs.getD (i : Int).toNat 0 = xs[i] := by rw [Int.toNat_natCast, List.getD_eq_getElem?_getD, List.getElem?_eq_getElem hlt]; rfl
    have hw : IntKind.wrap .i64 (7 * (i : Int)) = ((7 * i : Nat) : Int) := by rw [w64 (by omega) (by omega)]; omega
    have hw2 : IntKind.wrap .i64 ((i : Int) + 1) = ((i + 1 : Nat) : Int) := by rw [w64 (by omega) (by omega)]; omega
    rw [L80_3_eq]
    simp only [T80_3, cif, beq_iff_eq, Bool.cond_eq_ite, decide_eq_true_eq, hg, hw, hw2, and127 b0 b1]
    rw [if_pos (by omega), if_pos (by omega)]
    rw [wu64 (n := xs[i] % 128) (by omega) (by omega)]
    by_cases c : (i = 9 ∧ 1 < xs[i]) ∨ (0 < i ∧ xs[i] = 0)
    · unfold tk
      rw [if_pos c]
      by_cases c9 : i = 9
      · rw [if_pos (by omega)]
        by_cases c1 : xs[i] > 1
        · rw [if_pos c1]; rfl
        · rw [if_neg c1, if_pos (by omega), if_pos (by omega)]; rfl
      · rw [if_neg (by omega), if_pos (by omega), if_pos (by omega)]; rfl
    · unfold tk
      rw [if_neg c]
      have hor : iOr .u64 acc (iShl .u64 (xs[i] % 128) ((7 * i : Nat) : Int)) = acc + xs[i] % 128 * 128 ^ i := or_shl hi h0 h1 (by omega) (by omega) (by omega)
      have hp : (0 : Int) < 128 ^ i := Int.pow_pos (by decide)
      have hnn : 0 ≤ xs[i] % 128 * 128 ^ i := Int.mul_nonneg (by omega) (Int.le_of_lt hp)
      rw [hor]
      have main : (if (0 : Int) ≤ ((7 * i : Nat) : Int) then
          (if xs[i] < 128 then (if 0 ≤ ((i + 1 : Nat) : Int) ∧ ((i + 1 : Nat) : Int) ≤ (xs.length : Int) then some (.inr (.inl (r3 (acc + xs[i] % 128 * 128 ^ i) (xs.drop ((i + 1 : Nat) : Int).toNat) 0))) else none)
          else some (.inl ((xs, acc + xs[i] % 128 * 128 ^ i, xs, (xs.length : Int), ((i + 1 : Nat) : Int), ()), (), ()))) else none :
          Option ((((List Int) × (Int × ((List Int) × (Int × (Int × Unit))))) × Unit × Unit) ⊕ (((Int × ((List Int) × (Int × Unit))) × Unit × Unit) ⊕ (Unit × Unit × Unit)))).bind
          (Sum.elim (fun x => L80_3 x.1.1 x.1.2.1 x.1.2.2.1 x.1.2.2.2.1 x.1.2.2.2.2.1) some) =
          some (match (if xs[i] < 128 then .inl (acc + xs[i] % 128 * 128 ^ i, xs.drop (i + 1)) else tk (i + 1) (acc + xs[i] % 128 * 128 ^ i) (xs.drop (i + 1)) : (Int × List Int) ⊕ Int) with
            | .inl q => .inl (r3 q.1 q.2 0) | .inr e => if e = 4 then .inl (r3 0 xs 4) else .inr ((), (), ())) := by
        rw [if_pos (by omega)]
        by_cases c128 : xs[i] < 128
        · rw [if_pos c128, if_pos c128, if_pos (by omega), Int.toNat_natCast]; rfl
        · rw [if_neg c128, if_neg c128]
          simp only [Option.bind_some, Sum.elim_inl]
          exact ih (i + 1) _ rfl (by omega) (by omega) (by omega) (acc_lt h1 (by omega))
      by_cases c9 : i = 9
      · rw [if_pos (by omega), if_neg (by omega), if_pos (by omega), if_neg (by omega)]
        exact main
      · rw [if_neg (by omega)]
        by_cases c0 : 0 < i
        · rw [if_pos (by omega), if_neg (by omega)]
          exact main
        · rw [if_neg (by omega)]
          exact main
theorem tk_err {r : List Int} : ∀ {i : Nat} {acc e : Int}, tk i acc r = .inr e → e = 4 ∨ e = 5 := by
  induction r with
  | nil => intro i acc e h; cases h; exact .inr rfl
  | cons b r ih =>
    intro i acc e h
    unfold tk at h
    split at h
    · cases h; exact .inl rfl
    · split at h
      · cases h
      · exact ih h
theorem F80_eq (xs : List Int) (hb : Bys xs) : F80 xs = some (match tk 0 0 xs with | .inl q => r3 q.1 q.2 0 | .inr e => r3 0 xs e) := by
  unfold F80
  have := L80_run xs hb xs 0 0 (by simp) (by omega) (by omega) (by omega) (by decide)
  rw [show ((0 : Nat) : Int) = 0 from rfl] at this
  rw [this]
  cases h : tk 0 0 xs with
  | inl q => rfl
  | inr e =>
    rcases tk_err h with rfl | rfl
    · rfl
    · rfl
theorem dgF_byte : ∀ (f : Nat) (n : Int), 0 ≤ n → n < 128 ^ (f + 1) → Bys (dgF f n)
  | 0, n, h0, h1 => fun x hx => by
    simp only [dgF, List.mem_singleton] at hx
    subst hx
    have : (128 : Int) ^ (0 + 1) = 128 := rfl
    omega
  | f + 1, n, h0, h1 => fun x hx => by
    unfold dgF at hx
    split at hx
    · simp at hx; omega
    · rcases List.mem_cons.1 hx with rfl | hx
      · omega
      · exact dgF_byte f (n / 128) (by omega) (by rw [Int.pow_succ] at h1; omega) x hx
theorem dg_byte {n : Int} (h0 : 0 ≤ n) (h1 : n < 18446744073709551616) : Bys (dg n) :=
  dgF_byte 9 n h0 (by rw [show (128 : Int) ^ (9 + 1) = 1180591620717411303424 from by decide]; omega)
theorem tk_app (rest : List Int) : ∀ (f i : Nat) (n acc : Int), f + i = 9 → 0 ≤ n → n < 2 ^ (64 - 7 * i) → (0 < i → 1 ≤ n) → tk i acc (dgF f n ++ rest) = .inl (acc + n * 128 ^ i, rest) := by
  intro f
  induction f with
  | zero =>
    intro i n acc hi h0 h1 hn
    obtain rfl : i = 9 := by omega
    have h2 : n < 2 := h1
    show tk 9 acc (n :: rest) = _
    unfold tk
    rw [if_neg (by omega), if_pos (by omega), Int.emod_eq_of_lt h0 (by omega)]
  | succ f ih =>
    intro i n acc hi h0 h1 hn
    unfold dgF
    by_cases hs : n < 128
    · rw [if_pos hs]
      show tk i acc (n :: rest) = _
      unfold tk
      rw [if_neg (by omega), if_pos hs, Int.emod_eq_of_lt h0 hs]
    · rw [if_neg hs]
      show tk i acc ((128 + n % 128) :: (dgF f (n / 128) ++ rest)) = _
      unfold tk
      rw [if_neg (by omega), if_neg (by omega)]
      have hp : (2 : Int) ^ (64 - 7 * i) = 2 ^ (64 - 7 * (i + 1)) * 128 := by
        rw [show 64 - 7 * i = (64 - 7 * (i + 1)) + 7 from by omega, Int.pow_add]; rfl
      rw [ih (i + 1) (n / 128) _ (by omega) (by omega) (by rw [hp] at h1; omega) (fun _ => by omega)]
      have hm : (128 + n % 128) % 128 = n % 128 := by omega
      rw [hm, Int.pow_succ]
      have : n * 128 ^ i = n % 128 * 128 ^ i + n / 128 * (128 ^ i * 128) := by
        rw [show n / 128 * (128 ^ i * 128) = (n / 128 * 128) * 128 ^ i from by rw [Int.mul_comm (128 ^ i) 128, Int.mul_assoc], ← Int.add_mul]
        congr 1
        omega
      rw [this, Int.add_assoc]
theorem tk_dg {n : Int} (h0 : 0 ≤ n) (h1 : n < 18446744073709551616) (rest : List Int) : tk 0 0 (dg n ++ rest) = .inl (n, rest) := by
  have := tk_app rest 9 0 n 0 (by omega) h0 h1 (by omega)
  rw [dg, this]
  simp
theorem tk_inv : ∀ (xs : List Int) (i : Nat) (acc m : Int) (rest : List Int), Bys xs → i ≤ 9 → tk i acc xs = .inl (m, rest) →
    ∃ n, xs = dgF (9 - i) n ++ rest ∧ m = acc + n * 128 ^ i ∧ 0 ≤ n ∧ n < 2 ^ (64 - 7 * i) ∧ (0 < i → 1 ≤ n) := by
  intro xs
  induction xs with
  | nil => intro i acc m rest hb hi h; cases h
  | cons b r ih =>
    intro i acc m rest hb hi h
    obtain ⟨b0, b1⟩ := hb b (List.mem_cons_self ..)
    unfold tk at h
    split at h
    · cases h
    · rename_i hc
      split at h
      · rename_i h128
        cases h
        refine ⟨b, ?_, by rw [Int.emod_eq_of_lt b0 h128], b0, ?_, by omega⟩
        · rw [dgF_lt h128]; rfl
        · by_cases h9 : i = 9
          · subst h9; show b < 2; omega
          · have hp : (2 : Int) ^ (64 - 7 * i) = 2 ^ (57 - 7 * i) * 128 := by
              rw [show 64 - 7 * i = (57 - 7 * i) + 7 from by omega, Int.pow_add]; rfl
            have : (0 : Int) < 2 ^ (57 - 7 * i) := Int.pow_pos (by decide)
            omega
      · rename_i h128
        have hi9 : i ≠ 9 := by omega
        obtain ⟨n, h1, h2, h3, h4, h5⟩ := ih (i + 1) _ m rest (fun x hx => hb x (List.mem_cons_of_mem _ hx)) (by omega) h
        have h5 := h5 (by omega)
        have hp : (2 : Int) ^ (64 - 7 * i) = 2 ^ (64 - 7 * (i + 1)) * 128 := by
          rw [show 64 - 7 * i = (64 - 7 * (i + 1)) + 7 from by omega, Int.pow_add]; rfl
        refine ⟨b % 128 + n * 128, ?_, ?_, by omega, by rw [hp]; omega, by omega⟩
        · rw [show 9 - i = (9 - (i + 1)) + 1 from by omega]
          unfold dgF
          rw [if_neg (by omega), h1, show 128 + (b % 128 + n * 128) % 128 = b from by omega, show (b % 128 + n * 128) / 128 = n from by omega]
          rfl
        · rw [h2, Int.pow_succ, Int.add_mul, Int.add_assoc, show n * (128 ^ i * 128) = n * 128 * 128 ^ i from by rw [Int.mul_comm (128 ^ i) 128, Int.mul_assoc]]
theorem tk_some {xs : List Int} {m : Int} {rest : List Int} (hb : Bys xs) (h : tk 0 0 xs = .inl (m, rest)) : xs = dg m ++ rest ∧ 0 ≤ m ∧ m < 18446744073709551616 := by
  obtain ⟨n, h1, h2, h3, h4, _⟩ := tk_inv xs 0 0 m rest hb (by omega) h
  have : m = n := by rw [h2]; simp
  subst this
  exact ⟨h1, h3, h4⟩
def tkT (most : Int) (xs : List Int) : (List Int × List Int) ⊕ Int :=
  match tk 0 0 xs with
  | .inr e => .inr e
  | .inl (n, r) => if most < 0 ∨ n > most then .inr 6 else if n > (r.length : Int) then .inr 5 else .inl (r.take n.toNat, r.drop n.toNat)
theorem tkT_app {t rest : List Int} {most : Int} (h : (t.length : Int) ≤ most) (hl : t.length < 2 ^ 63) : tkT most (dgT t ++ rest) = .inl (t, rest) := by
  unfold tkT dgT
  rw [List.append_assoc, tk_dg (by omega) (by omega)]
  simp only
  rw [if_neg (by omega), if_neg (by simp; omega), Int.toNat_natCast]
  simp
theorem tkT_some {xs t rest : List Int} {most : Int} (hb : Bys xs) (h : tkT most xs = .inl (t, rest)) : xs = dgT t ++ rest ∧ (t.length : Int) ≤ most := by
  unfold tkT at h
  split at h
  · cases h
  · rename_i n r hk
    obtain ⟨h1, h2, h3⟩ := tk_some hb hk
    split at h
    · cases h
    · split at h
      · cases h
      · cases h
        have hlen : (r.take n.toNat).length = n.toNat := by rw [List.length_take]; omega
        refine ⟨?_, by rw [hlen]; omega⟩
        unfold dgT
        rw [hlen, Int.toNat_of_nonneg h2, List.append_assoc, List.take_append_drop, ← h1]
abbrev tin {α : Type} (x : α) (r : List Int) : (α × Unit) × ((List Int × Unit) × Unit) × Unit := ((x, ()), ((r, ()), ()), ())
abbrev tie (e : Int) (r : List Int) : Int × (Unit × ((List Int × Unit) × Unit) × Unit) := (e, ((), ((r, ()), ()), ()))
def tnum (most : Int) (xs : List Int) : (Int × List Int) ⊕ Int :=
  match tk 0 0 xs with
  | .inr e => .inr e
  | .inl (n, r) => if n > most then .inr 6 else .inl (n, r)
theorem F81_z : F81 0 = some (.inl ((), (), ())) := rfl
theorem F58_eq (most : Int) (xs : List Int) (hb : Bys xs) : F58 most xs = some (match tnum most xs with | .inl q => .inl (tin q.1 q.2) | .inr e => .inr (tie e xs)) := by
  unfold F58 tnum
  rw [F80_eq xs hb]
  cases h : tk 0 0 xs with
  | inr e =>
    simp only [Option.bind_some]
    rcases tk_err h with rfl | rfl <;> rfl
  | inl q =>
    obtain ⟨n, r⟩ := q
    simp only [Option.bind_some, F81_z, Sum.elim_inl, cif]
    by_cases c : n > most
    · rw [if_pos c, if_pos c]; rfl
    · rw [if_neg c, if_neg c]
theorem F73_eq (xs : List Int) : F73 xs = some (match xs with | [] => .inr (tie 5 []) | b :: r => .inl (tin b r)) := by
  unfold F73
  cases xs with
  | nil => rfl
  | cons b r =>
    simp only [Bool.cond_eq_ite, beq_iff_eq, List.length_cons, decide_eq_true_eq]
    rw [if_neg (by omega), if_pos (by omega), if_pos (by omega)]
    rfl
theorem F61_eq (xs : List Int) : F61 xs = some (match xs with | [] => .inl ((), (([], ()), ()), ()) | b :: r => .inr (tie 4 (b :: r))) := by
  unfold F61
  cases xs with
  | nil => rfl
  | cons b r =>
    simp only [cif, List.length_cons]
    rw [if_pos (by omega)]
    rfl
def dgs : List Int → List Int
  | [] => []
  | n :: l => dg n ++ dgs l
theorem dgs_len : ∀ l, (dgs l).length ≤ 10 * l.length
  | [] => by simp [dgs]
  | n :: l => by have := dgs_len l; have := dg_len n; simp only [dgs, List.length_append, List.length_cons]; omega
theorem dgs_byte : ∀ {l : List Int}, Vok l → Bys (dgs l)
  | [], _ => fun x hx => by cases hx
  | n :: l, h => (dg_byte (h n (List.mem_cons_self ..)).1 (h n (List.mem_cons_self ..)).2).app (dgs_byte fun x hx => h x (List.mem_cons_of_mem _ hx))
def encL (l : List Int) : List Int := dg l.length ++ dgs l
def encV (v : List Int) : List Int := encL (trim v)
theorem encL_len (l : List Int) : (encL l).length ≤ 10 + 10 * l.length := by
  unfold encL; have := dgs_len l; have := dg_len l.length; simp; omega
theorem trim_sub (a : List Int) : ∀ x ∈ trim a, x ∈ a := fun x hx => List.mem_of_mem_take hx
theorem trim_le (a : List Int) : (trim a).length ≤ a.length := by rw [trim_len]; exact trimN_le _ _
theorem L53_run (v : List Int) (hv : Vok v) (hl : v.length < 2 ^ 30) : ∀ (d k : Nat) (q : List Int), k + d = v.length → q.length + 10 * d + 10 < lim → L53_4 v (v.length : Nat) (k : Nat) q = some (((), ()), (), (q ++ dgs (v.drop k), ())) := by
  intro d
  induction d with
  | zero =>
    intro k q hk hq
    rw [L53_4_eq]
    simp only [T53_4, cif]
    rw [if_neg (by omega), List.drop_eq_nil_of_le (by omega)]
    simp [dgs]
  | succ d ih =>
    intro k q hk hq
    have hlt : k < v.length := by omega
    obtain ⟨a0, a1⟩ := hv _ (List.getElem_mem hlt)
    have hg : v.getD (k : Int).toNat 0 = v[k] := by rw [Int.toNat_natCast, List.getD_eq_getElem?_getD, List.getElem?_eq_getElem hlt]; rfl
    have hw : IntKind.wrap .i64 ((k : Int) + 1) = ((k + 1 : Nat) : Int) := by rw [w64 (by omega) (by omega)]; omega
    rw [L53_4_eq]
    simp only [T53_4, cif, hg, hw]
    rw [if_pos (by omega), if_pos (by omega), F51_eq _ _ a0 a1 (by omega)]
    simp only [Option.bind_some, Sum.elim_inl]
    have := dg_len v[k]
    rw [ih (k + 1) _ (by omega) (by simp; omega), List.drop_eq_getElem_cons hlt]
    simp [dgs]
theorem F53_eq (v q : List Int) (hv : Vok v) (hl : v.length < 2 ^ 30) (hq : q.length + 10 * v.length + 30 < lim) : F53 v q = some (ro (q ++ encV v)) := by
  unfold F53
  have h1 := trim_le v
  have h2 := dg_len (trim v).length
  rw [F62_eq v (by omega)]
  simp only [Option.bind_some]
  rw [wu64 (by omega) (by omega), F51_eq _ _ (by omega) (by omega) (by omega)]
  simp only [Option.bind_some]
  have := L53_run (trim v) (fun x hx => hv x (trim_sub v x hx)) (by omega) (trim v).length 0 (q ++ dg (trim v).length) (by omega) (by simp; omega)
  rw [show ((0 : Nat) : Int) = 0 from rfl] at this
  rw [this]
  simp [encV, encL]
theorem L37a_run (p a : List Int) (hn : a.length < 2 ^ 39) : ∀ k, k ≤ a.length → L28_2 p a (k : Nat) = some (r1 ((trimN a k : Nat) : Int)) := by
  intro k
  induction k with
  | zero =>
    intro _
    rw [L28_2_eq]
    simp only [T28_2, cif]
    rw [if_neg (by omega)]
    rfl
  | succ k ih =>
    intro hk
    rw [L28_2_eq]
    have hw : IntKind.wrap .i64 (((k + 1 : Nat) : Int) - 1) = (k : Int) := by rw [w64 (by omega) (by omega)]; omega
    simp only [T28_2, cif]
    rw [hw, if_pos (by omega), if_pos (by omega)]
    simp only [Int.toNat_natCast]
    by_cases h : gv a k = 0
    · have hb : (a.getD k 0 == 0) = true := by simpa using h
      rw [hb]
      simp only [cond_true, Option.bind_some, Sum.elim_inl]
      rw [ih (by omega)]
      simp only [trimN]
      rw [if_pos h]
    · have hb : (a.getD k 0 == 0) = false := by simpa using h
      rw [hb]
      simp only [cond_false, Option.bind_some, Sum.elim_inr, trimN]
      rw [if_neg h]
theorem L37b_run (v : List Int) (n : Nat) (hn : n ≤ v.length) (hv : Vok v) (hl : v.length < 2 ^ 30) : ∀ (d k : Nat) (q : List Int), k + d = n → q.length + 10 * d + 10 < lim → L28_6 v (n : Nat) (k : Nat) q = some (((), ()), (), (q ++ dgs ((v.take n).drop k), ())) := by
  intro d
  induction d with
  | zero =>
    intro k q hk hq
    rw [L28_6_eq]
    simp only [T28_6, cif]
    rw [if_neg (by omega), List.drop_eq_nil_of_le (by simp; omega)]
    simp [dgs]
  | succ d ih =>
    intro k q hk hq
    have hlt : k < v.length := by omega
    obtain ⟨a0, a1⟩ := hv _ (List.getElem_mem hlt)
    have hg : v.getD (k : Int).toNat 0 = v[k] := by rw [Int.toNat_natCast, List.getD_eq_getElem?_getD, List.getElem?_eq_getElem hlt]; rfl
    have hw : IntKind.wrap .i64 ((k : Int) + 1) = ((k + 1 : Nat) : Int) := by rw [w64 (by omega) (by omega)]; omega
    rw [L28_6_eq]
    simp only [T28_6, cif, hg, hw]
    rw [if_pos (by omega), if_pos (by omega), F26_eq _ _ a0 a1 (by omega)]
    simp only [Option.bind_some, Sum.elim_inl]
    have := dg_len v[k]
    rw [ih (k + 1) _ (by omega) (by simp; omega), List.drop_eq_getElem_cons (l := v.take n) (i := k) (by simp; omega)]
    simp [dgs]
def Sml (v : List Int) : Prop := ∀ x ∈ v, 0 ≤ x ∧ x ≤ 9223372036854775807
theorem Sml.trim {v : List Int} (h : Sml v) : Sml (trim v) := fun x hx => h x (trim_sub v x hx)
theorem encL_byte {l : List Int} (h : Vok l) (hl : l.length < 2 ^ 63) : Bys (encL l) := (dg_byte (by omega) (by omega)).app (dgs_byte h)
theorem strL_size (a : List Int) : (strL a).size = a.length := by unfold strL; show (Array.size _) = _; simp
theorem bytesL_byte (s : ByteArray) : Bys (bytesL s) := fun x hx => by
  unfold bytesL at hx
  obtain ⟨b, _, rfl⟩ := List.mem_map.1 hx
  have := b.toNat_lt
  omega
theorem fixF_byte (n : Int) : ∀ k, Bys (fixF n k)
  | 0 => fun x hx => by cases hx
  | k + 1 => fun x hx => by
    rcases List.mem_cons.1 hx with rfl | hx
    · omega
    · exact fixF_byte n k x hx
structure EvB (e : Ev) : Prop where
  w : EvW e
  text : Bys e.2.2.2.2.2.1
  num : e.2.2.2.2.2.2.1 < 18446744073709551616
theorem dgT_byte {t : List Int} (h : Bys t) (hl : t.length < 2 ^ 63) : Bys (dgT t) := (dg_byte (by omega) (by omega)).app h
end Go.IM.V
namespace Go.IM.Crc
open Go Go.IM
noncomputable def stepI (s : Int) : Int := iXor .u32 (iShr .u32 s 1) (IntKind.wrap .u32 (2197175160 * iAnd .u32 s 1))
noncomputable def stepsI : Nat → Int → Int
  | 0, s => s
  | d + 1, s => stepsI d (stepI s)
noncomputable def sumI : List UInt8 → Int → Int
  | [], s => s
  | b :: r, s => sumI r (stepsI 8 (iXor .u32 s (IntKind.wrap .u32 (b.toNat : Int))))
noncomputable def topI (s : Int) : Int := iShr .u32 s 31
noncomputable def bitI (b : Int) (k : Nat) : Int := iAnd .u32 (IntKind.wrap .u32 (iShr .u8 b ((k : Nat) : Int))) 1
noncomputable def rstepI (b : Int) (k : Nat) (s : Int) : Int := if bitI b k = topI s then iShl .u32 s 1 else iXor .u32 (iShl .u32 s 1) 517762881
noncomputable def rstepsI (b : Int) : Nat → Nat → Int → Int
  | 0, _, s => s
  | d + 1, k, s => rstepsI b d (k + 1) (rstepI b k s)
noncomputable def rsumI : List UInt8 → Int → Int
  | [], s => s
  | b :: r, s => rsumI r (rstepsI (b.toNat : Int) 8 0 s)
noncomputable def turnI (s : Int) : Nat → Nat → Int → Int
  | 0, _, t => t
  | d + 1, k, t => turnI s d (k + 1) (iOr .u32 (iShl .u32 t 1) (iAnd .u32 (iShr .u32 s ((k : Nat) : Int)) 1))
noncomputable def rsum (B : List UInt8) : Int := turnI (iNot .u32 (rsumI B 4294967295)) 32 0 0
/- Plain: the two sums are one. -/
theorem wrap_u32 (n : Int) : IntKind.wrap .u32 n = n % 4294967296 := by
  simp [IntKind.wrap, IntKind.bits, IntKind.signed]
theorem ofInt_toNat (s : BitVec 32) : BitVec.ofInt 32 (s.toNat : Int) = s := by
  apply BitVec.eq_of_toNat_eq
  have := s.isLt
  rw [BitVec.toNat_ofInt]
  omega
theorem wrap_bv (s : BitVec 32) : IntKind.wrap .u32 (s.toNat : Int) = (s.toNat : Int) := by
  have := s.isLt
  rw [wrap_u32]; omega
theorem xor_bv (s t : BitVec 32) : iXor .u32 (s.toNat : Int) (t.toNat : Int) = ((s ^^^ t).toNat : Int) := by
  unfold iXor
  show IntKind.wrap .u32 ((BitVec.ofInt 32 (s.toNat : Int) ^^^ BitVec.ofInt 32 (t.toNat : Int)).toNat : Int) = _
  rw [ofInt_toNat, ofInt_toNat, wrap_bv]
theorem and_bv (s t : BitVec 32) : iAnd .u32 (s.toNat : Int) (t.toNat : Int) = ((s &&& t).toNat : Int) := by
  unfold iAnd
  show IntKind.wrap .u32 ((BitVec.ofInt 32 (s.toNat : Int) &&& BitVec.ofInt 32 (t.toNat : Int)).toNat : Int) = _
  rw [ofInt_toNat, ofInt_toNat, wrap_bv]
theorem or_bv (s t : BitVec 32) : iOr .u32 (s.toNat : Int) (t.toNat : Int) = ((s ||| t).toNat : Int) := by
  unfold iOr
  show IntKind.wrap .u32 ((BitVec.ofInt 32 (s.toNat : Int) ||| BitVec.ofInt 32 (t.toNat : Int)).toNat : Int) = _
  rw [ofInt_toNat, ofInt_toNat, wrap_bv]
theorem not_bv (s : BitVec 32) : iNot .u32 (s.toNat : Int) = ((~~~s).toNat : Int) := by
  unfold iNot
  have h : (if IntKind.u32.signed then (-1 : Int) else IntKind.u32.max) = ((BitVec.allOnes 32).toNat : Int) := by decide
  rw [h, xor_bv, BitVec.allOnes_xor]
theorem shr_bv (s : BitVec 32) (n : Nat) (hn : n ≤ 32) : iShr .u32 (s.toNat : Int) (n : Int) = ((s >>> n).toNat : Int) := by
  unfold iShr
  have h : min (n : Int).toNat IntKind.u32.bits = n := by show min n 32 = n; omega
  rw [h, BitVec.toNat_ushiftRight, Nat.shiftRight_eq_div_pow]
  have h2 : ((2 : Int) ^ n) = ((2 ^ n : Nat) : Int) := by simp
  rw [h2, Int.fdiv_eq_ediv_of_nonneg _ (Int.natCast_nonneg _)]
  rfl
theorem shl_bv (s : BitVec 32) : iShl .u32 (s.toNat : Int) 1 = ((s <<< 1).toNat : Int) := by
  unfold iShl
  have h : min (1 : Int).toNat IntKind.u32.bits = 1 := by decide
  rw [h, wrap_u32, BitVec.toNat_shiftLeft, Nat.shiftLeft_eq]
  have := s.isLt
  omega
theorem mul_bv (s : BitVec 32) : IntKind.wrap .u32 (2197175160 * (s.toNat : Int)) = ((2197175160#32 * s).toNat : Int) := by
  rw [wrap_u32, BitVec.toNat_mul]
  show _ = ((2197175160 * s.toNat % 2 ^ 32 : Nat) : Int)
  omega
def pad (b : UInt8) : BitVec 32 := BitVec.ofNat 32 b.toNat
def stepB (s : BitVec 32) : BitVec 32 := (s >>> 1) ^^^ (2197175160#32 * (s &&& 1#32))
def stepsB : Nat → BitVec 32 → BitVec 32
  | 0, s => s
  | d + 1, s => stepsB d (stepB s)
def sumB : List UInt8 → BitVec 32 → BitVec 32
  | [], s => s
  | b :: r, s => sumB r (stepsB 8 (s ^^^ pad b))
theorem step_bv (s : BitVec 32) : stepI (s.toNat : Int) = ((stepB s).toNat : Int) := by
  unfold stepI stepB
  have h : iShr .u32 (s.toNat : Int) 1 = ((s >>> 1).toNat : Int) := shr_bv s 1 (by omega)
  have h2 : iAnd .u32 (s.toNat : Int) 1 = ((s &&& 1#32).toNat : Int) := by
    have := and_bv s 1#32
    exact this
  rw [h, h2, mul_bv, xor_bv]
theorem steps_bv : ∀ (d : Nat) (s : BitVec 32), stepsI d (s.toNat : Int) = ((stepsB d s).toNat : Int) := by
  intro d
  induction d with
  | zero => intro s; rfl
  | succ d ih => intro s; rw [stepsI, stepsB, step_bv, ih]
theorem pad_toNat (b : UInt8) : (b.toNat : Int) = ((pad b).toNat : Int) := by
  unfold pad
  have := b.toNat_lt
  rw [BitVec.toNat_ofNat]; omega
theorem sum_bv : ∀ (B : List UInt8) (s : BitVec 32), sumI B (s.toNat : Int) = ((sumB B s).toNat : Int) := by
  intro B
  induction B with
  | nil => intro s; rfl
  | cons b r ih => intro s; rw [sumI, sumB, pad_toNat, wrap_bv, xor_bv, steps_bv, ih]
def bitStep (β : Bool) (s : BitVec 32) : BitVec 32 := (s >>> 1) ^^^ (if s.getLsbD 0 != β then 2197175160#32 else 0#32)
def bitsStep (b : BitVec 32) : Nat → Nat → BitVec 32 → BitVec 32
  | 0, _, s => s
  | d + 1, k, s => bitsStep b d (k + 1) (bitStep (b.getLsbD k) s)
theorem and_one (s : BitVec 32) : s &&& 1#32 = if s.getLsbD 0 then 1#32 else 0#32 := by
  apply BitVec.eq_of_getLsbD_eq
  intro i hi
  rw [BitVec.getLsbD_and]
  by_cases h : i = 0
  · subst h
    cases hs : s.getLsbD 0 <;> simp
  · have : (1#32).getLsbD i = false := by
      rw [BitVec.getLsbD_one]; simp; omega
    rw [this]
    cases hs : s.getLsbD 0 <;> simp [this]
theorem stepB_bit (s : BitVec 32) : stepB s = (s >>> 1) ^^^ (if s.getLsbD 0 then 2197175160#32 else 0#32) := by
  unfold stepB
  rw [and_one]
  cases s.getLsbD 0 <;> simp
theorem split (b : BitVec 32) : ∀ (d k : Nat) (s : BitVec 32), stepsB d (s ^^^ (b >>> k)) = bitsStep b d k s ^^^ (b >>> (k + d)) := by
  intro d
  induction d with
  | zero => intro k s; rfl
  | succ d ih =>
    intro k s
    rw [stepsB, bitsStep]
    have h : stepB (s ^^^ (b >>> k)) = bitStep (b.getLsbD k) s ^^^ (b >>> (k + 1)) := by
      rw [stepB_bit]
      unfold bitStep
      have e1 : (s ^^^ b >>> k) >>> 1 = s >>> 1 ^^^ b >>> (k + 1) := by
        apply BitVec.eq_of_getLsbD_eq
        intro i hi
        simp [BitVec.getLsbD_ushiftRight, Nat.add_comm, Nat.add_left_comm, Nat.add_assoc]
      have e2 : (s ^^^ b >>> k).getLsbD 0 = (s.getLsbD 0 != b.getLsbD k) := by simp
      rw [e1, e2]
      rw [BitVec.xor_assoc, BitVec.xor_assoc, BitVec.xor_comm (b >>> (k + 1))]
    rw [h, ih (k + 1), show k + 1 + d = k + (d + 1) by omega]
theorem split8 (b : UInt8) (s : BitVec 32) : stepsB 8 (s ^^^ pad b) = bitsStep (pad b) 8 0 s := by
  have h := split (pad b) 8 0 s
  have e0 : pad b >>> 0 = pad b := by simp
  have e8 : pad b >>> (0 + 8) = 0#32 := by
    apply BitVec.eq_of_toNat_eq
    have := b.toNat_lt
    rw [BitVec.toNat_ushiftRight, Nat.shiftRight_eq_div_pow]
    unfold pad
    rw [BitVec.toNat_ofNat]
    simp
    omega
  rw [e0, e8] at h
  rw [h, BitVec.xor_zero]
/- Plain: the two sums are one (by the highest bit first). -/
def rev (s : BitVec 32) : BitVec 32 := s.reverse
theorem rev_get (s : BitVec 32) (i : Nat) (hi : i < 32) : (rev s).getLsbD i = s.getLsbD (31 - i) := by
  unfold rev
  rw [BitVec.getLsbD_reverse, BitVec.getMsbD]
  simp [hi]
theorem rev_xor (s t : BitVec 32) : rev (s ^^^ t) = rev s ^^^ rev t := by
  apply BitVec.eq_of_getLsbD_eq
  intro i hi
  rw [rev_get _ _ hi, BitVec.getLsbD_xor, BitVec.getLsbD_xor, rev_get _ _ hi, rev_get _ _ hi]
theorem rev_not (s : BitVec 32) : rev (~~~s) = ~~~(rev s) := by
  apply BitVec.eq_of_getLsbD_eq
  intro i hi
  rw [rev_get _ _ hi, BitVec.getLsbD_not, BitVec.getLsbD_not, rev_get _ _ hi]
  simp [hi]; omega
theorem rev_rev (s : BitVec 32) : rev (rev s) = s := by
  apply BitVec.eq_of_getLsbD_eq
  intro i hi
  rw [rev_get _ _ hi, rev_get _ _ (by omega)]
  congr 1; omega
theorem rev_shr (s : BitVec 32) : rev (s >>> 1) = rev s <<< 1 := by
  apply BitVec.eq_of_getLsbD_eq
  intro i hi
  rw [rev_get _ _ hi, BitVec.getLsbD_ushiftRight, BitVec.getLsbD_shiftLeft]
  by_cases h : i = 0
  · subst h
    simp
  · rw [rev_get _ _ (by omega)]
    have : 1 + (31 - i) = 31 - (i - 1) := by omega
    rw [this]
    simp [hi]; omega
def rstepB (β : Bool) (s : BitVec 32) : BitVec 32 := (s <<< 1) ^^^ (if s.getLsbD 31 != β then 517762881#32 else 0#32)
theorem rstep_rev (β : Bool) (s : BitVec 32) : rstepB β (rev s) = rev (bitStep β s) := by
  unfold rstepB bitStep
  rw [rev_xor, rev_shr, rev_get _ _ (by omega)]
  have e1 : rev 2197175160#32 = 517762881#32 := by decide +kernel
  have e2 : rev 0#32 = 0#32 := by decide +kernel
  congr 1
  by_cases h : (s.getLsbD (31 - 31) != β) = true
  · have h2 : (s.getLsbD 0 != β) = true := h
    rw [if_pos h, if_pos h2, e1]
  · have h2 : ¬ (s.getLsbD 0 != β) = true := h
    rw [if_neg h, if_neg h2, e2]
theorem bit_toNat (s : BitVec 32) : ((s &&& 1#32).toNat : Int) = if s.getLsbD 0 then 1 else 0 := by
  rw [and_one]; cases s.getLsbD 0 <;> simp
theorem bit_bv (b : UInt8) (k : Nat) (hk : k < 8) : bitI (b.toNat : Int) k = if (pad b).getLsbD k then 1 else 0 := by
  unfold bitI
  have h1 : iShr .u8 (b.toNat : Int) (k : Int) = ((pad b >>> k).toNat : Int) := by
    have := shr_bv (pad b) k (by omega)
    rw [← pad_toNat] at this
    rw [← this]
    unfold iShr
    have e : min (k : Int).toNat IntKind.u8.bits = min (k : Int).toNat IntKind.u32.bits := by show min k 8 = min k 32; omega
    rw [e]
  rw [h1, wrap_bv]
  have h2 := and_bv (pad b >>> k) 1#32
  have h3 : iAnd .u32 ((pad b >>> k).toNat : Int) 1 = (((pad b >>> k) &&& 1#32).toNat : Int) := h2
  rw [h3, bit_toNat]
  simp
theorem top_bv (s : BitVec 32) : topI (s.toNat : Int) = if s.getLsbD 31 then 1 else 0 := by
  unfold topI
  have h : iShr .u32 (s.toNat : Int) 31 = ((s >>> 31).toNat : Int) := shr_bv s 31 (by omega)
  rw [h]
  have h2 : s >>> 31 = (s >>> 31) &&& 1#32 := by
    apply BitVec.eq_of_getLsbD_eq
    intro i hi
    rw [BitVec.getLsbD_and, BitVec.getLsbD_ushiftRight, BitVec.getLsbD_one]
    by_cases h : i = 0
    · subst h; simp
    · rw [BitVec.getLsbD_of_ge _ _ (by omega)]; simp
  rw [h2, bit_toNat]
  simp
theorem rstep_bv (b : UInt8) (k : Nat) (hk : k < 8) (s : BitVec 32) : rstepI (b.toNat : Int) k (s.toNat : Int) = ((rstepB ((pad b).getLsbD k) s).toNat : Int) := by
  unfold rstepI rstepB
  rw [bit_bv b k hk, top_bv, shl_bv]
  have hx : iXor .u32 ((s <<< 1).toNat : Int) 517762881 = ((s <<< 1 ^^^ 517762881#32).toNat : Int) := xor_bv (s <<< 1) 517762881#32
  rw [hx]
  cases (pad b).getLsbD k <;> cases s.getLsbD 31 <;> simp
theorem rsteps_bv (b : UInt8) : ∀ (d k : Nat), k + d ≤ 8 → ∀ (s : BitVec 32), rstepsI (b.toNat : Int) d k ((rev s).toNat : Int) = ((rev (bitsStep (pad b) d k s)).toNat : Int) := by
  intro d
  induction d with
  | zero => intro k _ s; rfl
  | succ d ih =>
    intro k hk s
    rw [rstepsI, bitsStep, rstep_bv b k (by omega), rstep_rev, ih (k + 1) (by omega)]
theorem rsum_bv : ∀ (B : List UInt8) (s : BitVec 32), rsumI B ((rev s).toNat : Int) = ((rev (sumB B s)).toNat : Int) := by
  intro B
  induction B with
  | nil => intro s; rfl
  | cons b r ih => intro s; rw [rsumI, sumB, rsteps_bv b 8 0 (by omega), ih, split8]
def turnB (s : BitVec 32) : Nat → Nat → BitVec 32 → BitVec 32
  | 0, _, t => t
  | d + 1, k, t => turnB s d (k + 1) ((t <<< 1) ||| ((s >>> k) &&& 1#32))
theorem turn_bv (s : BitVec 32) : ∀ (d k : Nat), k + d ≤ 32 → ∀ (t : BitVec 32), turnI (s.toNat : Int) d k (t.toNat : Int) = ((turnB s d k t).toNat : Int) := by
  intro d
  induction d with
  | zero => intro k _ t; rfl
  | succ d ih =>
    intro k hk t
    rw [turnI, turnB, shl_bv, shr_bv s k (by omega)]
    have h3 : iAnd .u32 ((s >>> k).toNat : Int) 1 = (((s >>> k) &&& 1#32).toNat : Int) := and_bv (s >>> k) 1#32
    rw [h3, or_bv, ih (k + 1) (by omega)]
theorem turn_spec (s : BitVec 32) : ∀ (d k : Nat), k + d = 32 → ∀ (t : BitVec 32), (∀ j, j < 32 → t.getLsbD j = (decide (j < k) && s.getLsbD (k - 1 - j))) → turnB s d k t = rev s := by
  intro d
  induction d with
  | zero =>
    intro k hk t ht
    obtain rfl : k = 32 := by omega
    apply BitVec.eq_of_getLsbD_eq
    intro i hi
    show t.getLsbD i = _
    rw [ht i hi, rev_get _ _ hi]
    simp [hi]
  | succ d ih =>
    intro k hk t ht
    rw [turnB]
    refine ih (k + 1) (by omega) _ fun j hj => ?_
    rw [BitVec.getLsbD_or, BitVec.getLsbD_shiftLeft, BitVec.getLsbD_and, BitVec.getLsbD_ushiftRight, BitVec.getLsbD_one]
    by_cases h0 : j = 0
    · subst h0; simp
    · rw [ht (j - 1) (by omega)]
      have e : k - 1 - (j - 1) = k + 1 - 1 - j := by omega
      rw [e]
      by_cases hjk : j < k + 1
      · have : j - 1 < k := by omega
        simp [hjk, this, hj, h0]
      · have : ¬ j - 1 < k := by omega
        simp [hjk, this, h0]
theorem sums_alike (B : List UInt8) : iNot .u32 (sumI B 4294967295) = rsum B := by
  have e1 : (4294967295 : Int) = ((BitVec.allOnes 32).toNat : Int) := by decide
  have e2 : (4294967295 : Int) = ((rev (BitVec.allOnes 32)).toNat : Int) := by decide +kernel
  unfold rsum
  have h1 : sumI B 4294967295 = ((sumB B (BitVec.allOnes 32)).toNat : Int) := by rw [e1, sum_bv]
  have h2 : rsumI B 4294967295 = ((rev (sumB B (BitVec.allOnes 32))).toNat : Int) := by rw [e2, rsum_bv]
  rw [h1, h2, not_bv, not_bv]
  have h3 := turn_bv (~~~(rev (sumB B (BitVec.allOnes 32)))) 32 0 (by omega) 0#32
  have e0 : ((0#32).toNat : Int) = 0 := by decide
  rw [e0] at h3
  rw [h3, turn_spec _ 32 0 rfl 0#32 (fun j _ => by simp), rev_not, rev_rev]
end Go.IM.Crc