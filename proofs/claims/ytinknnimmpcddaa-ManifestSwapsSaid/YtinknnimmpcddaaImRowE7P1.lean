/- What the code of a law comes to, and what that tells: part 1. Lemmas alone; no conditions. -/
import Derived.Test.YtinknnimmpcddaaProg
import Derived.KernelRfl
import Derived.Test.YtinknnimmpcddaaImM5
import Derived.Test.YtinknnimmpcddaaImM2
set_option linter.unusedVariables false
set_option linter.unusedSimpArgs false
set_option linter.constructorNameAsVariable false
namespace Go.IM.V
open Go Go.IM
variable {P : Program} {m m1 : M} {S0 : Nat → Prop} {env env1 : Env} {X Y : Cx}
theorem repC_φ {p : Nat → Prop} {S1 : Nat → Prop} {c : Cl} {w : Value} (h : repC P X c w) : repC P { X with env := { X.env with φ := p }, S0 := S1 } c w := by cases c <;> exact h
theorem repCs_φ {p : Nat → Prop} {S1 : Nat → Prop} : ∀ {cs : List Cl} {ws : List Value}, repCs P X cs ws → repCs P { X with env := { X.env with φ := p }, S0 := S1 } cs ws := by
 intro cs; induction cs with
 | nil => intro ws h; cases ws <;> exact h
 | cons c cs ih => intro ws h; cases ws with
  | nil => exact h
  | cons w ws => exact ⟨repC_φ h.1, ih h.2⟩
theorem repS_φ {p : Nat → Prop} {S1 : Nat → Prop} {s : V.S1} {w : Value} (h : repS P X s w) : repS P { X with env := { X.env with φ := p }, S0 := S1 } s w := by
 cases s with
 | x => trivial
 | s c => exact repC_φ (c := c) h
 | a cs => obtain ⟨b, h1, h2⟩ := h; exact ⟨b, h1, repCs_φ h2⟩
theorem repSlots_φ {p : Nat → Prop} {S1 : Nat → Prop} {av : Nat → Value} : ∀ {l : List (Nat × V.S1)}, repSlots P X av l → repSlots P { X with env := { X.env with φ := p }, S0 := S1 } av l := by
 intro l; induction l with
 | nil => intro h; trivial
 | cons q l ih => intro h; exact ⟨repS_φ h.1, ih h.2⟩
theorem repSlots_le {X Y : Cx} (hle : CxLe X Y) {av : Nat → Value} : ∀ {l : List (Nat × S1)}, repSlots P X av l → repSlots P Y av l := by
 intro l; induction l with
 | nil => intro _; trivial
 | cons p l ih => intro h; exact ⟨h.1.le hle, ih h.2⟩
theorem start_nobox {t : Tm} (ht : t.bx = []) {x : t.E} (hT : RelT P (t.cx x S0 env m) (t.inst 0 x).bx) {S1 : Nat → Prop} (hS : ∀ i, S1 i → S0 i ∨ env.φ i) :
  RelT P (t.cx x S1 { env with φ := fun _ => False } m) (t.inst 0 x).bx ∧ (∀ i, ¬ Wb (t.cx x S1 { env with φ := fun _ => False } m) i) ∧
   ∀ {av : Nat → Value} {l : List (Nat × V.S1)}, repSlots P (t.cx x S0 env m) av l → repSlots P (t.cx x S1 { env with φ := fun _ => False } m) av l := by
 have hbx : (t.inst 0 x).bx = [] := by
  have h : (bxI id id t.bx x.2.1).length = 0 := by rw [bxI_len, ht]; rfl
  exact List.eq_nil_of_length_eq_zero h
 have hSle : ∀ i, (t.inst 0 x).S S1 { env with φ := fun _ => False } i → (t.inst 0 x).S S0 env i := by
  intro i w; rcases w with w | ⟨j, hj, _⟩ | w
  ·rcases hS i w with w | w
   ·exact .inl w
   ·exact .inr (.inr w)
  ·rw [hbx] at hj; exact absurd hj (Nat.not_lt_zero _)
  ·exact w.elim
 have hmono : Mono ((t.inst 0 x).S S0 env) m ((t.inst 0 x).S S1 { env with φ := fun _ => False }) m := fun i r hr hn => ⟨hr, fun w => hn (hSle i w)⟩
 have hnj : ∀ j, ¬ j < (t.inst 0 x).bx.length := fun j hj => by rw [hbx] at hj; exact Nat.not_lt_zero _ hj
 refine ⟨⟨hT.free, hT.bar, rfl, rfl, rfl, fun j hj => absurd hj (hnj j), fun i w => hT.slt i (hSle i w), fun j b hb => ?_, hT.bfd, fun j cs hcs => ?_, fun j j' hj => absurd hj (hnj j), fun i w => w.elim, fun j hj => absurd hj (hnj j), hT.rts, hT.unq⟩, fun i w => ?_, ?_⟩
 ·exact BufOK.le (Wb := fun _ => False) (Wl := fun _ => False) (X := t.cx x S0 env m) (Y := t.cx x S1 { env with φ := fun _ => False } m) (Fr2.refl hT.free) hmono (fun _ w => w.elim) rfl (hT.bf j b hb) (fun _ _ _ w => w)
 ·rw [hbx] at hcs; cases hcs
 ·rcases w with ⟨j, hj, _⟩ | w
  ·exact hnj j hj
  ·exact w
 ·intro av l h; have hle : CxLe (t.cx x S0 env m) { t.cx x S1 { env with φ := fun _ => False } m with env := env, S0 := fun _ => False } :=
   ⟨hmono, Nat.le_refl _, fun _ _ => rfl, fun j b hb => ⟨b.live, hb, rfl⟩, fun _ _ h => h, fun _ _ _ h => h, fun _ w => w.elim, fun _ w => w, Nat.le_refl _, fun _ _ h => h⟩
  exact repSlots_φ (p := fun _ => False) (S1 := S1) (repSlots_le hle h)
def hoIn (k : IntKind) : Tm := { sl := [(0, .o 0)], bf := [.i k] }
def hoTm (k : IntKind) : Tm := { sl := [(0, .m (.i k) 0)], bx := [[.r (.i k)]] }
theorem BufOK.at {X : Cx} {j i : Nat} {b : Bf} (h : BufOK P X j b) (hi : X.env.τ j = some i) : 0 < b.e.n ∧ ¬ X.S i ∧ ∃ k c e fr, X.m.alive i = some k ∧ k.obj = .cells c e fr ∧ P.cellsOf e = b.e.n ∧ k.ro = false ∧ c.size = b.xs.length * b.e.n ∧
   (∀ (q : Nat) (x : b.e.El), b.xs[q]? = some x → repE P X.S X.m b.e x (c.extract (q * b.e.n) (q * b.e.n + b.e.n)).toList) ∧ (b.live = true → k.sup = false ∧ k.root ≤ X.m.nxt) := by
 obtain ⟨h1, h2⟩ := h; rw [hi] at h2; exact ⟨h1, h2⟩
theorem BufOK.nil {X : Cx} {j : Nat} {b : Bf} (h : BufOK P X j b) (hi : X.env.τ j = none) : b.cap = false → b.xs = [] := by
 obtain ⟨h1, h2⟩ := h; rw [hi] at h2; exact h2
theorem heat [Orc P] {k : FuncId} {ins : Tm} (hi : ins.bx = []) (hf : ins.bf = []) {ik : IntKind} {F : ins.E → Option (OT.ret (hoIn ik)).E} (h : Con.OK P k ⟨ins, .ret (hoIn ik), F⟩) :
  Con.OK P k ⟨ins, .ret (hoTm ik), fun x => (F x).bind fun y => bif List.isEmpty (α := Int) y.2.2.1 then none else some (((), ()), (((y.2.2.1, ()), ()), ()))⟩ := by
 intro x y2 hF S0 env m args hT hB hsl hnil; simp only [Option.bind_eq_some_iff] at hF; obtain ⟨y, hy, hF⟩ := hF; cases hxe : List.isEmpty (α := Int) y.2.2.1 with
 | true => rw [hxe] at hF; cases hF
 | false =>
 rw [hxe] at hF; simp only [cond_false, Option.some.injEq] at hF; subst hF; have hne : (y.2.2.1 : List Int) ≠ [] := fun q => by rw [show (y.2.2.1 : List Int) = [] from q] at hxe; cases hxe
 obtain ⟨hT', hW', hsl'⟩ := start_nobox hi hT (S1 := fun i => S0 i ∨ env.φ i) (fun _ w => w); obtain ⟨c, m1, env1, hcal, hend0, v, rfl, hv0⟩ := h x _ hy _ _ m args hT' (fun i w => absurd w (hW' i)) (hsl' hsl) hnil; have hend : Ended P (ins.cx x (fun i => S0 i ∨ env.φ i) { env with φ := fun _ => False } m) (fun i => S0 i ∨ env.φ i) env1 m1 (hoIn ik) y := hend0; have hv : repC P ((hoIn ik).cx y (fun i => S0 i ∨ env.φ i) env1 m1) (.o 0) v := hv0
 clear hend0 hv0; have hwl' : ∀ i, ¬ Wl (ins.cx x (fun i => S0 i ∨ env.φ i) { env with φ := fun _ => False } m) i := by
  rintro i ⟨j, b, hb, _⟩
  have hb' : (bfI ins.bf x.2.2)[j]? = some b := hb
  have : ∀ {l : List Ty} {z : BfE l}, l = [] → bfI l z = [] := by intro l z hl; subst hl; rfl
  rw [this hf] at hb'; cases hb'
 have hfr0 : Fr2 (fun _ => False) (fun _ => False) m m1 := hend.fr.mono (fun i w => hW' i w) (fun i w => absurd w (hwl' i)); have hnxt : m.nxt ≤ m1.nxt := hfr0.nxt; have hS0 : ∀ i, S0 i ∨ env.φ i → i < m.nxt := fun i w => hT.slt i (w.elim .inl (fun w => .inr (.inr w)))
 obtain ⟨b, hb, hbw⟩ := hv; have hbe : b = ⟨.i ik, y.2.2.1, true, false⟩ := by
  have hb1 : (bfI [Ty.i ik] y.2.2)[0]? = some b := hb; simp only [bfI, List.getElem?_cons_zero, Option.some.injEq] at hb1; exact hb1.symm
 subst hbe; have hB0 := hend.T.bf 0 _ hb; cases hτ : env1.τ 0 with
 | none => exact absurd (hB0.nil hτ rfl) hne
 | some i =>
 obtain ⟨hpos, hSi, kb, cc, eo, fr, b1, b2, b3, b4, b5, b6, b7⟩ := hB0.at hτ; obtain ⟨b8, b9⟩ := b7 rfl; have hw : v = .slice (some ⟨i, 0, none⟩) (List.length (α := Int) y.2.2.1) (List.length (α := Int) y.2.2.1) := by
  have : bufW P ((hoIn ik).cx y (fun i => S0 i ∨ env.φ i) env1 m1) ⟨.i ik, y.2.2.1, true, false⟩ (some i) v := by rw [← hτ]; exact hbw
  exact this
 have hilt : i < m1.nxt := alive_lt hfr0.free b1; have hin : m.nxt ≤ i := by
  rcases hend.wl i ⟨0, _, hb, rfl, hτ⟩ with w | w | w
  ·exact absurd w (hwl' i)
  ·exact absurd w (hW' i)
  ·exact w
 have hgi : m1.get i = some kb := alive_get b1; have hrn : m.nxt ≤ kb.root := by
  rcases hfr0.new i kb hgi hin with w | ⟨_, _, _, w, _⟩
  ·exact w
  ·exact w.elim id id |>.elim
 have hfam : ∀ j b, m1.get j = some b → b.root = kb.root → m.nxt ≤ j := by
  intro j b hj hr; rcases Nat.lt_or_ge j m.nxt with q | q
  ·obtain ⟨b0, g1, g2, _⟩ := hfr0.old j b hj q; rcases g2 with g2 | ⟨_, _, g2⟩
   ·have := hT.rts.lt hT.free g1
    have h3 : b0.root < m.nxt := this; omega
   ·exact g2.elim
  ·exact q
 let eld : Nat → Prop := fun j => j ≠ i ∧ ∃ b, m1.get j = some b ∧ b.root = kb.root
 let env2 : Env := { τ := fun _ => none, β := fun _ => i, φ := fun j => env.φ j ∨ eld j }
 let t2 : Tm := hoTm ik
 let y2 : t2.E := (((), ()), (((y.2.2.1, ()), ()), ()))
 have hbx : (t2.inst 0 y2).bx = [[.r false (.i ik) y.2.2.1]] := rfl; have hhas : ∀ j, j < 1 → hasOf (t2.inst 0 y2).bx j = true := by
  intro j hj; obtain rfl : j = 0 := by omega
  exact (hasOf_get (bx := (t2.inst 0 y2).bx) (j := 0) rfl).trans (has1_run (e := .i ik) hne)
 have hS2 : ∀ q, (t2.inst 0 y2).S S0 env2 q → (S0 q ∨ env.φ q) ∨ q = i ∨ eld q := by
  intro q w; rcases w with w | ⟨_, _, _, w⟩ | w | w
  ·exact .inl (.inl w)
  ·exact .inr (.inl w.symm)
  ·exact .inl (.inr w)
  ·exact .inr (.inr w)
 have hXnb : ∀ j, ¬ j < (ins.inst 0 x).bx.length := by
  intro j hj; have : (ins.inst 0 x).bx.length = 0 := by show (bxI id id ins.bx x.2.1).length = 0; rw [bxI_len, hi]; rfl
  omega
 refine ⟨.ret v, m1, env2, hcal, ⟨hfr0.mono (fun _ w => w.elim) (fun _ w => w.elim), ⟨hfr0.free, hend.T.bar, rfl, rfl, rfl, fun j hj hh => .inr (.inl ⟨j, hj, hh, rfl⟩), fun q w => ?_, fun j b hb => (by cases hb), fun j j' b b' i hb => (by cases hb), fun j cs hcs => ?_, fun j j' hj hj' _ _ _ => ?_, fun q w => .inr (.inr w), fun j hj hh w => ?_, hend.T.rts, hend.T.unq⟩,
  fun j hj => absurd hj (hXnb j), fun q w => ?_, fun q w => ?_, fun j hj => absurd hj (hXnb j), fun j L hj => absurd hj (hXnb j), fun q w => .inl w⟩, v, rfl, ?_⟩
 ·rcases hS2 q w with w | rfl | ⟨_, b, w, _⟩
  ·exact Nat.lt_of_lt_of_le (hS0 q w) hnxt
  ·exact hilt
  ·exact get_lt hfr0.free w
 ·have hj0 : j = 0 := by
   have : j < 1 := lt_of_get (l := (t2.inst 0 y2).bx) hcs
   omega
  subst hj0; have hcs' : some [Cl.r false (.i ik) y.2.2.1] = some cs := hcs
  cases hcs'; refine ⟨⟨hpos, fun _ => ⟨kb, cc, eo, fr, b1, b2, b4, b8, ⟨b9, fun q => by cases q⟩, fun _ => b3, b5, fun q z hz => ?_, ?_, fun j b hj hr => ?_⟩⟩, fun q => by cases q⟩
  ·exact b6 q z hz
  ·exact hend.T.rts i kb hgi
  ·by_cases hji : j = i
   ·exact .inl hji
   ·refine .inr ⟨.inr ⟨hji, b, hj, hr⟩, ?_⟩; cases hs : b.sup with
    | true => rfl
    | false => exact absurd (hend.T.unq.one j i b kb hj hgi hr hs b8) hji
 ·have h1 : j < 1 := hj; have h2 : j' < 1 := hj'; omega
 ·rcases w with w | ⟨w, _⟩
  ·have h2 := hS0 i (.inr w); omega
  ·exact w rfl
 ·rcases w with ⟨j, hj, _, w⟩ | w | ⟨_, b, w, hr⟩
  ·right; have hw : i = q := w; show m.nxt ≤ q; omega
  ·exact .inl (.inr w)
  ·exact .inr (hfam q b w hr)
 ·obtain ⟨j, b, hb, _⟩ := w; cases hb
 ·refine ⟨Nat.zero_lt_one, ⟨by rw [hw]; rfl, by rw [hw]; exact .inr hilt⟩, fun L hL => ?_⟩
  have hL' : some (List.length (α := Int) y.2.2.1) = some L := hL
  cases hL'; refine ⟨fun q => absurd (List.eq_nil_of_length_eq_zero q) hne, fun _ => hw⟩
def iT : Tm := { sl := [] }
def oT : Tm := { sl := [(0, .v .b)] }
def cT : Con := ⟨iT, .ret oT, fun _ => some ((true, ()), (), ())⟩
theorem orc_ok [Orc P] {k : FuncId} (h : ∀ args : Array Value, args.size = 0 → Orc.O P k args = some (.bool true)) : Con.OK P k cT := by
 intro x y hF S0 env m args hT hB hsl hnil; have hs : args.size = 0 := hnil; have hy : y = ((true, ()), (), ()) := by have : some ((true, ()), (), ()) = some y := hF; cases this; rfl
 subst hy; refine ⟨.ret (.bool true), m, env, ⟨0, fun n _ => ?_⟩, ⟨Fr2.refl hT.free, hT, fun j hj => absurd hj (Nat.not_lt_zero _), fun i w => .inl w, fun i w => .inl w, fun j hj => absurd hj (Nat.not_lt_zero _), fun j L hj => absurd hj (Nat.not_lt_zero _), fun i w => w⟩, ⟨.bool true, rfl, ofV_rep (.bool true)⟩⟩; unfold callF; rw [h args hs]
def iS3 (f : FuncId) : Tm := { sl := [(0, .v .s), (1, .fn f), (2, .v .b)] }
def oI : Tm := { sl := [(0, .v (.i .i64))] }
theorem orc_ok3 [Orc P] {k f : FuncId} {g : ByteArray → Int} (h : ∀ s, Orc.O P k #[.string s, .func (.func f) #[] #[], .bool true] = some (.int .i64 (g s))) :
  Con.OK P k ⟨iS3 f, .ret oI, fun x => bif x.1.2.2.1 then some ((g x.1.1, ()), (), ()) else none⟩ := by
 intro x y hF S0 env m args hT hB hsl hnil; obtain ⟨⟨s, ⟨⟩, b, ⟨⟩⟩, ⟨⟩, ⟨⟩⟩ := x; cases b with
 | false => cases hF
 | true =>
  have hs : args.size = 3 := hnil; have hy : y = ((g s, ()), (), ()) := by have : some ((g s, ()), (), ()) = some y := hF; cases this; rfl
  subst hy; have h0 : args.getD 0 undef = .string s := hsl.1.1; have h1 : args.getD 1 undef = .func (.func f) #[] #[] := hsl.2.1.1; have h2 : args.getD 2 undef = .bool true := hsl.2.2.1.1; have ha : args = #[.string s, .func (.func f) #[] #[], .bool true] := by
   refine Array.ext (by simpa using hs) fun i hi hj => ?_
   have e : ∀ j, (hq : j < args.size) → args.getD j undef = args[j] := fun j hq => by simp [hq]
   rcases i with _ | _ | _ | i
   ·rw [← e 0 hi, h0]; rfl
   ·rw [← e 1 hi, h1]; rfl
   ·rw [← e 2 hi, h2]; rfl
   ·simp at hj; omega
  subst ha; refine ⟨.ret (.int .i64 (g s)), m, env, ⟨0, fun n _ => ?_⟩, ⟨Fr2.refl hT.free, hT, fun j hj => absurd hj (Nat.not_lt_zero _), fun i w => .inl w, fun i w => .inl w, fun j hj => absurd hj (Nat.not_lt_zero _), fun j L hj => absurd hj (Nat.not_lt_zero _), fun i w => w⟩, ⟨.int .i64 (g s), rfl, ofV_rep (.int .i64 (g s))⟩⟩; unfold callF; rw [h s]
theorem noL [Orc P] {N : Nat} {c : Code} {LO : Tab} (h : loopsOf c = []) : ∀ b ∈ loopsOf c, ∀ con, lookC LO (headReg b) = some con → con.LOK P N b := loops_of (l := []) h trivial
end Go.IM.V
namespace Go.IM
open Go Go.Proofs
def badR (r : Int) : Bool := ((decide (r < 97) || decide (r > 122)) && (decide (r < 48) || decide (r > 57))) && (r != 46) && (r != 45)
noncomputable abbrev call0 (q : Nat) (f : FuncId) (args : Array Value) (m : M) : Option (COut × M) := @callF Try.prog (Orc.none Try.prog) (@E Try.prog (Orc.none Try.prog) (q + 10)) f args m
theorem rune_m1 (m : M) (q : Nat) : call0 q 41 #[.int .i32 (Int.negSucc 0)] m = some (.ret (.bool true), m) := by kernel_rfl
theorem rune_neg (n : Nat) (m : M) (q : Nat) : call0 q 41 #[.int .i32 (Int.negSucc (n + 1))] m = some (.ret (.bool true), m) := by kernel_rfl
theorem rune_neg2 (n : Nat) : badR (Int.negSucc n) = true := by
  unfold badR; rw [decide_eq_true (show Int.negSucc n < 97 by omega), decide_eq_true (show Int.negSucc n < 48 by omega)]; have h5 : Int.negSucc n ≠ 46 := by omega
  have h6 : Int.negSucc n ≠ 45 := by omega
  simp [h5, h6]
theorem rune_big2 {r : Int} (h : 123 ≤ r) : badR r = true := by
  unfold badR; rw [decide_eq_true (show r > 122 by omega), decide_eq_true (show r > 57 by omega)]; have h5 : r ≠ 46 := by omega
  have h6 : r ≠ 45 := by omega
  simp [h5, h6]
theorem rune_0 (m : M) (q : Nat) : call0 q 41 #[.int .i32 (Int.ofNat 0)] m = some (.ret (.bool true), m) := by kernel_rfl
theorem rune_1 (m : M) (q : Nat) : call0 q 41 #[.int .i32 (Int.ofNat 1)] m = some (.ret (.bool true), m) := by kernel_rfl
theorem rune_2 (m : M) (q : Nat) : call0 q 41 #[.int .i32 (Int.ofNat 2)] m = some (.ret (.bool true), m) := by kernel_rfl
theorem rune_3 (m : M) (q : Nat) : call0 q 41 #[.int .i32 (Int.ofNat 3)] m = some (.ret (.bool true), m) := by kernel_rfl
theorem rune_4 (m : M) (q : Nat) : call0 q 41 #[.int .i32 (Int.ofNat 4)] m = some (.ret (.bool true), m) := by kernel_rfl
theorem rune_5 (m : M) (q : Nat) : call0 q 41 #[.int .i32 (Int.ofNat 5)] m = some (.ret (.bool true), m) := by kernel_rfl
theorem rune_6 (m : M) (q : Nat) : call0 q 41 #[.int .i32 (Int.ofNat 6)] m = some (.ret (.bool true), m) := by kernel_rfl
theorem rune_7 (m : M) (q : Nat) : call0 q 41 #[.int .i32 (Int.ofNat 7)] m = some (.ret (.bool true), m) := by kernel_rfl
theorem rune_8 (m : M) (q : Nat) : call0 q 41 #[.int .i32 (Int.ofNat 8)] m = some (.ret (.bool true), m) := by kernel_rfl
theorem rune_9 (m : M) (q : Nat) : call0 q 41 #[.int .i32 (Int.ofNat 9)] m = some (.ret (.bool true), m) := by kernel_rfl
theorem rune_10 (m : M) (q : Nat) : call0 q 41 #[.int .i32 (Int.ofNat 10)] m = some (.ret (.bool true), m) := by kernel_rfl
theorem rune_11 (m : M) (q : Nat) : call0 q 41 #[.int .i32 (Int.ofNat 11)] m = some (.ret (.bool true), m) := by kernel_rfl
theorem rune_12 (m : M) (q : Nat) : call0 q 41 #[.int .i32 (Int.ofNat 12)] m = some (.ret (.bool true), m) := by kernel_rfl
theorem rune_13 (m : M) (q : Nat) : call0 q 41 #[.int .i32 (Int.ofNat 13)] m = some (.ret (.bool true), m) := by kernel_rfl
theorem rune_14 (m : M) (q : Nat) : call0 q 41 #[.int .i32 (Int.ofNat 14)] m = some (.ret (.bool true), m) := by kernel_rfl
theorem rune_15 (m : M) (q : Nat) : call0 q 41 #[.int .i32 (Int.ofNat 15)] m = some (.ret (.bool true), m) := by kernel_rfl
theorem rune_16 (m : M) (q : Nat) : call0 q 41 #[.int .i32 (Int.ofNat 16)] m = some (.ret (.bool true), m) := by kernel_rfl
theorem rune_17 (m : M) (q : Nat) : call0 q 41 #[.int .i32 (Int.ofNat 17)] m = some (.ret (.bool true), m) := by kernel_rfl
theorem rune_18 (m : M) (q : Nat) : call0 q 41 #[.int .i32 (Int.ofNat 18)] m = some (.ret (.bool true), m) := by kernel_rfl
theorem rune_19 (m : M) (q : Nat) : call0 q 41 #[.int .i32 (Int.ofNat 19)] m = some (.ret (.bool true), m) := by kernel_rfl
theorem rune_20 (m : M) (q : Nat) : call0 q 41 #[.int .i32 (Int.ofNat 20)] m = some (.ret (.bool true), m) := by kernel_rfl
theorem rune_21 (m : M) (q : Nat) : call0 q 41 #[.int .i32 (Int.ofNat 21)] m = some (.ret (.bool true), m) := by kernel_rfl
theorem rune_22 (m : M) (q : Nat) : call0 q 41 #[.int .i32 (Int.ofNat 22)] m = some (.ret (.bool true), m) := by kernel_rfl
theorem rune_23 (m : M) (q : Nat) : call0 q 41 #[.int .i32 (Int.ofNat 23)] m = some (.ret (.bool true), m) := by kernel_rfl
theorem rune_24 (m : M) (q : Nat) : call0 q 41 #[.int .i32 (Int.ofNat 24)] m = some (.ret (.bool true), m) := by kernel_rfl
theorem rune_25 (m : M) (q : Nat) : call0 q 41 #[.int .i32 (Int.ofNat 25)] m = some (.ret (.bool true), m) := by kernel_rfl
theorem rune_26 (m : M) (q : Nat) : call0 q 41 #[.int .i32 (Int.ofNat 26)] m = some (.ret (.bool true), m) := by kernel_rfl
theorem rune_27 (m : M) (q : Nat) : call0 q 41 #[.int .i32 (Int.ofNat 27)] m = some (.ret (.bool true), m) := by kernel_rfl
theorem rune_28 (m : M) (q : Nat) : call0 q 41 #[.int .i32 (Int.ofNat 28)] m = some (.ret (.bool true), m) := by kernel_rfl
theorem rune_29 (m : M) (q : Nat) : call0 q 41 #[.int .i32 (Int.ofNat 29)] m = some (.ret (.bool true), m) := by kernel_rfl
theorem rune_30 (m : M) (q : Nat) : call0 q 41 #[.int .i32 (Int.ofNat 30)] m = some (.ret (.bool true), m) := by kernel_rfl
theorem rune_31 (m : M) (q : Nat) : call0 q 41 #[.int .i32 (Int.ofNat 31)] m = some (.ret (.bool true), m) := by kernel_rfl
theorem rune_32 (m : M) (q : Nat) : call0 q 41 #[.int .i32 (Int.ofNat 32)] m = some (.ret (.bool true), m) := by kernel_rfl
theorem rune_33 (m : M) (q : Nat) : call0 q 41 #[.int .i32 (Int.ofNat 33)] m = some (.ret (.bool true), m) := by kernel_rfl
theorem rune_34 (m : M) (q : Nat) : call0 q 41 #[.int .i32 (Int.ofNat 34)] m = some (.ret (.bool true), m) := by kernel_rfl
theorem rune_35 (m : M) (q : Nat) : call0 q 41 #[.int .i32 (Int.ofNat 35)] m = some (.ret (.bool true), m) := by kernel_rfl
theorem rune_36 (m : M) (q : Nat) : call0 q 41 #[.int .i32 (Int.ofNat 36)] m = some (.ret (.bool true), m) := by kernel_rfl
theorem rune_37 (m : M) (q : Nat) : call0 q 41 #[.int .i32 (Int.ofNat 37)] m = some (.ret (.bool true), m) := by kernel_rfl
theorem rune_38 (m : M) (q : Nat) : call0 q 41 #[.int .i32 (Int.ofNat 38)] m = some (.ret (.bool true), m) := by kernel_rfl
theorem rune_39 (m : M) (q : Nat) : call0 q 41 #[.int .i32 (Int.ofNat 39)] m = some (.ret (.bool true), m) := by kernel_rfl
theorem rune_40 (m : M) (q : Nat) : call0 q 41 #[.int .i32 (Int.ofNat 40)] m = some (.ret (.bool true), m) := by kernel_rfl
theorem rune_41 (m : M) (q : Nat) : call0 q 41 #[.int .i32 (Int.ofNat 41)] m = some (.ret (.bool true), m) := by kernel_rfl
theorem rune_42 (m : M) (q : Nat) : call0 q 41 #[.int .i32 (Int.ofNat 42)] m = some (.ret (.bool true), m) := by kernel_rfl
theorem rune_43 (m : M) (q : Nat) : call0 q 41 #[.int .i32 (Int.ofNat 43)] m = some (.ret (.bool true), m) := by kernel_rfl
theorem rune_44 (m : M) (q : Nat) : call0 q 41 #[.int .i32 (Int.ofNat 44)] m = some (.ret (.bool true), m) := by kernel_rfl
theorem rune_45 (m : M) (q : Nat) : call0 q 41 #[.int .i32 (Int.ofNat 45)] m = some (.ret (.bool false), m) := by kernel_rfl
theorem rune_46 (m : M) (q : Nat) : call0 q 41 #[.int .i32 (Int.ofNat 46)] m = some (.ret (.bool false), m) := by kernel_rfl
theorem rune_47 (m : M) (q : Nat) : call0 q 41 #[.int .i32 (Int.ofNat 47)] m = some (.ret (.bool true), m) := by kernel_rfl
theorem rune_48 (m : M) (q : Nat) : call0 q 41 #[.int .i32 (Int.ofNat 48)] m = some (.ret (.bool false), m) := by kernel_rfl
theorem rune_49 (m : M) (q : Nat) : call0 q 41 #[.int .i32 (Int.ofNat 49)] m = some (.ret (.bool false), m) := by kernel_rfl
theorem rune_50 (m : M) (q : Nat) : call0 q 41 #[.int .i32 (Int.ofNat 50)] m = some (.ret (.bool false), m) := by kernel_rfl
theorem rune_51 (m : M) (q : Nat) : call0 q 41 #[.int .i32 (Int.ofNat 51)] m = some (.ret (.bool false), m) := by kernel_rfl
theorem rune_52 (m : M) (q : Nat) : call0 q 41 #[.int .i32 (Int.ofNat 52)] m = some (.ret (.bool false), m) := by kernel_rfl
theorem rune_53 (m : M) (q : Nat) : call0 q 41 #[.int .i32 (Int.ofNat 53)] m = some (.ret (.bool false), m) := by kernel_rfl
theorem rune_54 (m : M) (q : Nat) : call0 q 41 #[.int .i32 (Int.ofNat 54)] m = some (.ret (.bool false), m) := by kernel_rfl
theorem rune_55 (m : M) (q : Nat) : call0 q 41 #[.int .i32 (Int.ofNat 55)] m = some (.ret (.bool false), m) := by kernel_rfl
theorem rune_56 (m : M) (q : Nat) : call0 q 41 #[.int .i32 (Int.ofNat 56)] m = some (.ret (.bool false), m) := by kernel_rfl
theorem rune_57 (m : M) (q : Nat) : call0 q 41 #[.int .i32 (Int.ofNat 57)] m = some (.ret (.bool false), m) := by kernel_rfl
theorem rune_58 (m : M) (q : Nat) : call0 q 41 #[.int .i32 (Int.ofNat 58)] m = some (.ret (.bool true), m) := by kernel_rfl
theorem rune_59 (m : M) (q : Nat) : call0 q 41 #[.int .i32 (Int.ofNat 59)] m = some (.ret (.bool true), m) := by kernel_rfl
theorem rune_60 (m : M) (q : Nat) : call0 q 41 #[.int .i32 (Int.ofNat 60)] m = some (.ret (.bool true), m) := by kernel_rfl
theorem rune_61 (m : M) (q : Nat) : call0 q 41 #[.int .i32 (Int.ofNat 61)] m = some (.ret (.bool true), m) := by kernel_rfl
theorem rune_62 (m : M) (q : Nat) : call0 q 41 #[.int .i32 (Int.ofNat 62)] m = some (.ret (.bool true), m) := by kernel_rfl
theorem rune_63 (m : M) (q : Nat) : call0 q 41 #[.int .i32 (Int.ofNat 63)] m = some (.ret (.bool true), m) := by kernel_rfl
theorem rune_64 (m : M) (q : Nat) : call0 q 41 #[.int .i32 (Int.ofNat 64)] m = some (.ret (.bool true), m) := by kernel_rfl
theorem rune_65 (m : M) (q : Nat) : call0 q 41 #[.int .i32 (Int.ofNat 65)] m = some (.ret (.bool true), m) := by kernel_rfl
theorem rune_66 (m : M) (q : Nat) : call0 q 41 #[.int .i32 (Int.ofNat 66)] m = some (.ret (.bool true), m) := by kernel_rfl
theorem rune_67 (m : M) (q : Nat) : call0 q 41 #[.int .i32 (Int.ofNat 67)] m = some (.ret (.bool true), m) := by kernel_rfl
theorem rune_68 (m : M) (q : Nat) : call0 q 41 #[.int .i32 (Int.ofNat 68)] m = some (.ret (.bool true), m) := by kernel_rfl
theorem rune_69 (m : M) (q : Nat) : call0 q 41 #[.int .i32 (Int.ofNat 69)] m = some (.ret (.bool true), m) := by kernel_rfl
theorem rune_70 (m : M) (q : Nat) : call0 q 41 #[.int .i32 (Int.ofNat 70)] m = some (.ret (.bool true), m) := by kernel_rfl
theorem rune_71 (m : M) (q : Nat) : call0 q 41 #[.int .i32 (Int.ofNat 71)] m = some (.ret (.bool true), m) := by kernel_rfl
theorem rune_72 (m : M) (q : Nat) : call0 q 41 #[.int .i32 (Int.ofNat 72)] m = some (.ret (.bool true), m) := by kernel_rfl
theorem rune_73 (m : M) (q : Nat) : call0 q 41 #[.int .i32 (Int.ofNat 73)] m = some (.ret (.bool true), m) := by kernel_rfl
theorem rune_74 (m : M) (q : Nat) : call0 q 41 #[.int .i32 (Int.ofNat 74)] m = some (.ret (.bool true), m) := by kernel_rfl
theorem rune_75 (m : M) (q : Nat) : call0 q 41 #[.int .i32 (Int.ofNat 75)] m = some (.ret (.bool true), m) := by kernel_rfl
theorem rune_76 (m : M) (q : Nat) : call0 q 41 #[.int .i32 (Int.ofNat 76)] m = some (.ret (.bool true), m) := by kernel_rfl
theorem rune_77 (m : M) (q : Nat) : call0 q 41 #[.int .i32 (Int.ofNat 77)] m = some (.ret (.bool true), m) := by kernel_rfl
theorem rune_78 (m : M) (q : Nat) : call0 q 41 #[.int .i32 (Int.ofNat 78)] m = some (.ret (.bool true), m) := by kernel_rfl
theorem rune_79 (m : M) (q : Nat) : call0 q 41 #[.int .i32 (Int.ofNat 79)] m = some (.ret (.bool true), m) := by kernel_rfl
theorem rune_80 (m : M) (q : Nat) : call0 q 41 #[.int .i32 (Int.ofNat 80)] m = some (.ret (.bool true), m) := by kernel_rfl
theorem rune_81 (m : M) (q : Nat) : call0 q 41 #[.int .i32 (Int.ofNat 81)] m = some (.ret (.bool true), m) := by kernel_rfl
theorem rune_82 (m : M) (q : Nat) : call0 q 41 #[.int .i32 (Int.ofNat 82)] m = some (.ret (.bool true), m) := by kernel_rfl
theorem rune_83 (m : M) (q : Nat) : call0 q 41 #[.int .i32 (Int.ofNat 83)] m = some (.ret (.bool true), m) := by kernel_rfl
theorem rune_84 (m : M) (q : Nat) : call0 q 41 #[.int .i32 (Int.ofNat 84)] m = some (.ret (.bool true), m) := by kernel_rfl
theorem rune_85 (m : M) (q : Nat) : call0 q 41 #[.int .i32 (Int.ofNat 85)] m = some (.ret (.bool true), m) := by kernel_rfl
theorem rune_86 (m : M) (q : Nat) : call0 q 41 #[.int .i32 (Int.ofNat 86)] m = some (.ret (.bool true), m) := by kernel_rfl
theorem rune_87 (m : M) (q : Nat) : call0 q 41 #[.int .i32 (Int.ofNat 87)] m = some (.ret (.bool true), m) := by kernel_rfl
theorem rune_88 (m : M) (q : Nat) : call0 q 41 #[.int .i32 (Int.ofNat 88)] m = some (.ret (.bool true), m) := by kernel_rfl
theorem rune_89 (m : M) (q : Nat) : call0 q 41 #[.int .i32 (Int.ofNat 89)] m = some (.ret (.bool true), m) := by kernel_rfl
theorem rune_90 (m : M) (q : Nat) : call0 q 41 #[.int .i32 (Int.ofNat 90)] m = some (.ret (.bool true), m) := by kernel_rfl
theorem rune_91 (m : M) (q : Nat) : call0 q 41 #[.int .i32 (Int.ofNat 91)] m = some (.ret (.bool true), m) := by kernel_rfl
theorem rune_92 (m : M) (q : Nat) : call0 q 41 #[.int .i32 (Int.ofNat 92)] m = some (.ret (.bool true), m) := by kernel_rfl
theorem rune_93 (m : M) (q : Nat) : call0 q 41 #[.int .i32 (Int.ofNat 93)] m = some (.ret (.bool true), m) := by kernel_rfl
theorem rune_94 (m : M) (q : Nat) : call0 q 41 #[.int .i32 (Int.ofNat 94)] m = some (.ret (.bool true), m) := by kernel_rfl
theorem rune_95 (m : M) (q : Nat) : call0 q 41 #[.int .i32 (Int.ofNat 95)] m = some (.ret (.bool true), m) := by kernel_rfl
theorem rune_96 (m : M) (q : Nat) : call0 q 41 #[.int .i32 (Int.ofNat 96)] m = some (.ret (.bool true), m) := by kernel_rfl
theorem rune_97 (m : M) (q : Nat) : call0 q 41 #[.int .i32 (Int.ofNat 97)] m = some (.ret (.bool false), m) := by kernel_rfl
theorem rune_98 (m : M) (q : Nat) : call0 q 41 #[.int .i32 (Int.ofNat 98)] m = some (.ret (.bool false), m) := by kernel_rfl
theorem rune_99 (m : M) (q : Nat) : call0 q 41 #[.int .i32 (Int.ofNat 99)] m = some (.ret (.bool false), m) := by kernel_rfl
theorem rune_100 (m : M) (q : Nat) : call0 q 41 #[.int .i32 (Int.ofNat 100)] m = some (.ret (.bool false), m) := by kernel_rfl
theorem rune_101 (m : M) (q : Nat) : call0 q 41 #[.int .i32 (Int.ofNat 101)] m = some (.ret (.bool false), m) := by kernel_rfl
theorem rune_102 (m : M) (q : Nat) : call0 q 41 #[.int .i32 (Int.ofNat 102)] m = some (.ret (.bool false), m) := by kernel_rfl
theorem rune_103 (m : M) (q : Nat) : call0 q 41 #[.int .i32 (Int.ofNat 103)] m = some (.ret (.bool false), m) := by kernel_rfl
theorem rune_104 (m : M) (q : Nat) : call0 q 41 #[.int .i32 (Int.ofNat 104)] m = some (.ret (.bool false), m) := by kernel_rfl
theorem rune_105 (m : M) (q : Nat) : call0 q 41 #[.int .i32 (Int.ofNat 105)] m = some (.ret (.bool false), m) := by kernel_rfl
theorem rune_106 (m : M) (q : Nat) : call0 q 41 #[.int .i32 (Int.ofNat 106)] m = some (.ret (.bool false), m) := by kernel_rfl
theorem rune_107 (m : M) (q : Nat) : call0 q 41 #[.int .i32 (Int.ofNat 107)] m = some (.ret (.bool false), m) := by kernel_rfl
theorem rune_108 (m : M) (q : Nat) : call0 q 41 #[.int .i32 (Int.ofNat 108)] m = some (.ret (.bool false), m) := by kernel_rfl
theorem rune_109 (m : M) (q : Nat) : call0 q 41 #[.int .i32 (Int.ofNat 109)] m = some (.ret (.bool false), m) := by kernel_rfl
theorem rune_110 (m : M) (q : Nat) : call0 q 41 #[.int .i32 (Int.ofNat 110)] m = some (.ret (.bool false), m) := by kernel_rfl
theorem rune_111 (m : M) (q : Nat) : call0 q 41 #[.int .i32 (Int.ofNat 111)] m = some (.ret (.bool false), m) := by kernel_rfl
theorem rune_112 (m : M) (q : Nat) : call0 q 41 #[.int .i32 (Int.ofNat 112)] m = some (.ret (.bool false), m) := by kernel_rfl
theorem rune_113 (m : M) (q : Nat) : call0 q 41 #[.int .i32 (Int.ofNat 113)] m = some (.ret (.bool false), m) := by kernel_rfl
theorem rune_114 (m : M) (q : Nat) : call0 q 41 #[.int .i32 (Int.ofNat 114)] m = some (.ret (.bool false), m) := by kernel_rfl
theorem rune_115 (m : M) (q : Nat) : call0 q 41 #[.int .i32 (Int.ofNat 115)] m = some (.ret (.bool false), m) := by kernel_rfl
theorem rune_116 (m : M) (q : Nat) : call0 q 41 #[.int .i32 (Int.ofNat 116)] m = some (.ret (.bool false), m) := by kernel_rfl
theorem rune_117 (m : M) (q : Nat) : call0 q 41 #[.int .i32 (Int.ofNat 117)] m = some (.ret (.bool false), m) := by kernel_rfl
theorem rune_118 (m : M) (q : Nat) : call0 q 41 #[.int .i32 (Int.ofNat 118)] m = some (.ret (.bool false), m) := by kernel_rfl
theorem rune_119 (m : M) (q : Nat) : call0 q 41 #[.int .i32 (Int.ofNat 119)] m = some (.ret (.bool false), m) := by kernel_rfl
theorem rune_120 (m : M) (q : Nat) : call0 q 41 #[.int .i32 (Int.ofNat 120)] m = some (.ret (.bool false), m) := by kernel_rfl
theorem rune_121 (m : M) (q : Nat) : call0 q 41 #[.int .i32 (Int.ofNat 121)] m = some (.ret (.bool false), m) := by kernel_rfl
theorem rune_122 (m : M) (q : Nat) : call0 q 41 #[.int .i32 (Int.ofNat 122)] m = some (.ret (.bool false), m) := by kernel_rfl
theorem rune_small : ∀ (k : Nat), k < 123 → ∀ (m : M) (q : Nat), call0 q 41 #[.int .i32 (Int.ofNat k)] m = some (.ret (.bool (badR (Int.ofNat k))), m)
  | 0, _, m, q => rune_0 m q
  | 1, _, m, q => rune_1 m q
  | 2, _, m, q => rune_2 m q
  | 3, _, m, q => rune_3 m q
  | 4, _, m, q => rune_4 m q
  | 5, _, m, q => rune_5 m q
  | 6, _, m, q => rune_6 m q
  | 7, _, m, q => rune_7 m q
  | 8, _, m, q => rune_8 m q
  | 9, _, m, q => rune_9 m q
  | 10, _, m, q => rune_10 m q
  | 11, _, m, q => rune_11 m q
  | 12, _, m, q => rune_12 m q
  | 13, _, m, q => rune_13 m q
  | 14, _, m, q => rune_14 m q
  | 15, _, m, q => rune_15 m q
  | 16, _, m, q => rune_16 m q
  | 17, _, m, q => rune_17 m q
  | 18, _, m, q => rune_18 m q
  | 19, _, m, q => rune_19 m q
  | 20, _, m, q => rune_20 m q
  | 21, _, m, q => rune_21 m q
  | 22, _, m, q => rune_22 m q
  | 23, _, m, q => rune_23 m q
  | 24, _, m, q => rune_24 m q
  | 25, _, m, q => rune_25 m q
  | 26, _, m, q => rune_26 m q
  | 27, _, m, q => rune_27 m q
  | 28, _, m, q => rune_28 m q
  | 29, _, m, q => rune_29 m q
  | 30, _, m, q => rune_30 m q
  | 31, _, m, q => rune_31 m q
  | 32, _, m, q => rune_32 m q
  | 33, _, m, q => rune_33 m q
  | 34, _, m, q => rune_34 m q
  | 35, _, m, q => rune_35 m q
  | 36, _, m, q => rune_36 m q
  | 37, _, m, q => rune_37 m q
  | 38, _, m, q => rune_38 m q
  | 39, _, m, q => rune_39 m q
  | 40, _, m, q => rune_40 m q
  | 41, _, m, q => rune_41 m q
  | 42, _, m, q => rune_42 m q
  | 43, _, m, q => rune_43 m q
  | 44, _, m, q => rune_44 m q
  | 45, _, m, q => rune_45 m q
  | 46, _, m, q => rune_46 m q
  | 47, _, m, q => rune_47 m q
  | 48, _, m, q => rune_48 m q
  | 49, _, m, q => rune_49 m q
  | 50, _, m, q => rune_50 m q
  | 51, _, m, q => rune_51 m q
  | 52, _, m, q => rune_52 m q
  | 53, _, m, q => rune_53 m q
  | 54, _, m, q => rune_54 m q
  | 55, _, m, q => rune_55 m q
  | 56, _, m, q => rune_56 m q
  | 57, _, m, q => rune_57 m q
  | 58, _, m, q => rune_58 m q
  | 59, _, m, q => rune_59 m q
  | 60, _, m, q => rune_60 m q
  | 61, _, m, q => rune_61 m q
  | 62, _, m, q => rune_62 m q
  | 63, _, m, q => rune_63 m q
  | 64, _, m, q => rune_64 m q
  | 65, _, m, q => rune_65 m q
  | 66, _, m, q => rune_66 m q
  | 67, _, m, q => rune_67 m q
  | 68, _, m, q => rune_68 m q
  | 69, _, m, q => rune_69 m q
  | 70, _, m, q => rune_70 m q
  | 71, _, m, q => rune_71 m q
  | 72, _, m, q => rune_72 m q
  | 73, _, m, q => rune_73 m q
  | 74, _, m, q => rune_74 m q
  | 75, _, m, q => rune_75 m q
  | 76, _, m, q => rune_76 m q
  | 77, _, m, q => rune_77 m q
  | 78, _, m, q => rune_78 m q
  | 79, _, m, q => rune_79 m q
  | 80, _, m, q => rune_80 m q
  | 81, _, m, q => rune_81 m q
  | 82, _, m, q => rune_82 m q
  | 83, _, m, q => rune_83 m q
  | 84, _, m, q => rune_84 m q
  | 85, _, m, q => rune_85 m q
  | 86, _, m, q => rune_86 m q
  | 87, _, m, q => rune_87 m q
  | 88, _, m, q => rune_88 m q
  | 89, _, m, q => rune_89 m q
  | 90, _, m, q => rune_90 m q
  | 91, _, m, q => rune_91 m q
  | 92, _, m, q => rune_92 m q
  | 93, _, m, q => rune_93 m q
  | 94, _, m, q => rune_94 m q
  | 95, _, m, q => rune_95 m q
  | 96, _, m, q => rune_96 m q
  | 97, _, m, q => rune_97 m q
  | 98, _, m, q => rune_98 m q
  | 99, _, m, q => rune_99 m q
  | 100, _, m, q => rune_100 m q
  | 101, _, m, q => rune_101 m q
  | 102, _, m, q => rune_102 m q
  | 103, _, m, q => rune_103 m q
  | 104, _, m, q => rune_104 m q
  | 105, _, m, q => rune_105 m q
  | 106, _, m, q => rune_106 m q
  | 107, _, m, q => rune_107 m q
  | 108, _, m, q => rune_108 m q
  | 109, _, m, q => rune_109 m q
  | 110, _, m, q => rune_110 m q
  | 111, _, m, q => rune_111 m q
  | 112, _, m, q => rune_112 m q
  | 113, _, m, q => rune_113 m q
  | 114, _, m, q => rune_114 m q
  | 115, _, m, q => rune_115 m q
  | 116, _, m, q => rune_116 m q
  | 117, _, m, q => rune_117 m q
  | 118, _, m, q => rune_118 m q
  | 119, _, m, q => rune_119 m q
  | 120, _, m, q => rune_120 m q
  | 121, _, m, q => rune_121 m q
  | 122, _, m, q => rune_122 m q
  | k + 123, h, _, _ => absurd h (by omega)
section
theorem bg0 (r : Int) (m : M) (C : CallF) : runOps Try.prog C (regOf Try.f41 0) [0] ⟨#[(.int .i32 r), undef, undef, undef, undef, undef, undef, undef, undef, undef, undef, undef, undef, undef, undef, undef, undef, undef, undef, undef, undef, undef, undef, undef, undef], []⟩ m = some (.normal, ⟨#[(.int .i32 r), undef, (.bool false), undef, undef, undef, undef, undef, undef, undef, undef, undef, undef, undef, undef, undef, undef, undef, undef, undef, undef, undef, undef, undef, undef], []⟩, m) := by kernel_rfl
theorem bg1 (r : Int) (m : M) (C : CallF) : runOps Try.prog C (regOf Try.f41 1) [0] ⟨#[(.int .i32 r), undef, (.bool false), undef, undef, undef, undef, undef, undef, undef, undef, undef, undef, undef, undef, undef, undef, undef, undef, undef, undef, undef, undef, undef, undef], []⟩ m = some (.normal, ⟨#[(.int .i32 r), undef, (.bool false), (.int .i32 r), undef, undef, undef, undef, undef, undef, undef, undef, undef, undef, undef, undef, undef, undef, undef, undef, undef, undef, undef, undef, undef], []⟩, m) := by kernel_rfl
theorem bg2 (r : Int) (m : M) (C : CallF) (h : (decide (r < 97)) = false) : runOps Try.prog C (regOf Try.f41 1) [1] ⟨#[(.int .i32 r), undef, (.bool false), (.int .i32 r), undef, undef, undef, undef, undef, undef, undef, undef, undef, undef, undef, undef, undef, undef, undef, undef, undef, undef, undef, undef, undef], []⟩ m = some (.normal, ⟨#[(.int .i32 r), undef, (.bool false), (.int .i32 r), (.bool false), undef, undef, undef, undef, undef, undef, undef, undef, undef, undef, undef, undef, undef, undef, undef, undef, undef, undef, undef, undef], []⟩, m) := by
  have e : ∀ b : Bool, (decide (r < 97)) = b → runOps Try.prog C (regOf Try.f41 1) [1] ⟨#[(.int .i32 r), undef, (.bool false), (.int .i32 r), undef, undef, undef, undef, undef, undef, undef, undef, undef, undef, undef, undef, undef, undef, undef, undef, undef, undef, undef, undef, undef], []⟩ m = some (.normal, ⟨#[(.int .i32 r), undef, (.bool false), (.int .i32 r), (.bool b), undef, undef, undef, undef, undef, undef, undef, undef, undef, undef, undef, undef, undef, undef, undef, undef, undef, undef, undef, undef], []⟩, m) := by
    intro b hb; rw [← hb]; kernel_rfl
  exact e _ h
theorem bg3 (r : Int) (m : M) (C : CallF) : runOps Try.prog C (regOf Try.f41 1) [2, 3] ⟨#[(.int .i32 r), undef, (.bool false), (.int .i32 r), (.bool false), undef, undef, undef, undef, undef, undef, undef, undef, undef, undef, undef, undef, undef, undef, undef, undef, undef, undef, undef, undef], []⟩ m = some (.normal, ⟨#[(.int .i32 r), undef, (.bool false), (.int .i32 r), (.bool false), (.bool false), (.int .i32 r), undef, undef, undef, undef, undef, undef, undef, undef, undef, undef, undef, undef, undef, undef, undef, undef, undef, undef], []⟩, m) := by kernel_rfl
theorem bg4 (r : Int) (m : M) (C : CallF) (h : (decide (r > 122)) = true) : runOps Try.prog C (regOf Try.f41 1) [4] ⟨#[(.int .i32 r), undef, (.bool false), (.int .i32 r), (.bool false), (.bool false), (.int .i32 r), undef, undef, undef, undef, undef, undef, undef, undef, undef, undef, undef, undef, undef, undef, undef, undef, undef, undef], []⟩ m = some (.normal, ⟨#[(.int .i32 r), undef, (.bool false), (.int .i32 r), (.bool false), (.bool false), (.int .i32 r), (.bool true), undef, undef, undef, undef, undef, undef, undef, undef, undef, undef, undef, undef, undef, undef, undef, undef, undef], []⟩, m) := by
  have e : ∀ b : Bool, (decide (r > 122)) = b → runOps Try.prog C (regOf Try.f41 1) [4] ⟨#[(.int .i32 r), undef, (.bool false), (.int .i32 r), (.bool false), (.bool false), (.int .i32 r), undef, undef, undef, undef, undef, undef, undef, undef, undef, undef, undef, undef, undef, undef, undef, undef, undef, undef], []⟩ m = some (.normal, ⟨#[(.int .i32 r), undef, (.bool false), (.int .i32 r), (.bool false), (.bool false), (.int .i32 r), (.bool b), undef, undef, undef, undef, undef, undef, undef, undef, undef, undef, undef, undef, undef, undef, undef, undef, undef], []⟩, m) := by
    intro b hb; rw [← hb]; kernel_rfl
  exact e _ h
theorem bg5 (r : Int) (m : M) (C : CallF) : runOps Try.prog C (regOf Try.f41 1) [5, 6, 7] ⟨#[(.int .i32 r), undef, (.bool false), (.int .i32 r), (.bool false), (.bool false), (.int .i32 r), (.bool true), undef, undef, undef, undef, undef, undef, undef, undef, undef, undef, undef, undef, undef, undef, undef, undef, undef], []⟩ m = some (.normal, ⟨#[(.int .i32 r), undef, (.bool false), (.int .i32 r), (.bool false), (.bool false), (.int .i32 r), (.bool true), (.bool true), (.bool true), (.int .i32 r), undef, undef, undef, undef, undef, undef, undef, undef, undef, undef, undef, undef, undef, undef], []⟩, m) := by kernel_rfl
theorem bg6 (r : Int) (m : M) (C : CallF) (h : (decide (r < 48)) = false) : runOps Try.prog C (regOf Try.f41 1) [8] ⟨#[(.int .i32 r), undef, (.bool false), (.int .i32 r), (.bool false), (.bool false), (.int .i32 r), (.bool true), (.bool true), (.bool true), (.int .i32 r), undef, undef, undef, undef, undef, undef, undef, undef, undef, undef, undef, undef, undef, undef], []⟩ m = some (.normal, ⟨#[(.int .i32 r), undef, (.bool false), (.int .i32 r), (.bool false), (.bool false), (.int .i32 r), (.bool true), (.bool true), (.bool true), (.int .i32 r), (.bool false), undef, undef, undef, undef, undef, undef, undef, undef, undef, undef, undef, undef, undef], []⟩, m) := by
  have e : ∀ b : Bool, (decide (r < 48)) = b → runOps Try.prog C (regOf Try.f41 1) [8] ⟨#[(.int .i32 r), undef, (.bool false), (.int .i32 r), (.bool false), (.bool false), (.int .i32 r), (.bool true), (.bool true), (.bool true), (.int .i32 r), undef, undef, undef, undef, undef, undef, undef, undef, undef, undef, undef, undef, undef, undef], []⟩ m = some (.normal, ⟨#[(.int .i32 r), undef, (.bool false), (.int .i32 r), (.bool false), (.bool false), (.int .i32 r), (.bool true), (.bool true), (.bool true), (.int .i32 r), (.bool b), undef, undef, undef, undef, undef, undef, undef, undef, undef, undef, undef, undef, undef], []⟩, m) := by
    intro b hb; rw [← hb]; kernel_rfl
  exact e _ h
theorem bg7 (r : Int) (m : M) (C : CallF) : runOps Try.prog C (regOf Try.f41 1) [9, 10] ⟨#[(.int .i32 r), undef, (.bool false), (.int .i32 r), (.bool false), (.bool false), (.int .i32 r), (.bool true), (.bool true), (.bool true), (.int .i32 r), (.bool false), undef, undef, undef, undef, undef, undef, undef, undef, undef, undef, undef, undef, undef], []⟩ m = some (.normal, ⟨#[(.int .i32 r), undef, (.bool false), (.int .i32 r), (.bool false), (.bool false), (.int .i32 r), (.bool true), (.bool true), (.bool true), (.int .i32 r), (.bool false), (.bool false), (.int .i32 r), undef, undef, undef, undef, undef, undef, undef, undef, undef, undef, undef], []⟩, m) := by kernel_rfl
theorem bg8 (r : Int) (m : M) (C : CallF) (h : (decide (r > 57)) = true) : runOps Try.prog C (regOf Try.f41 1) [11] ⟨#[(.int .i32 r), undef, (.bool false), (.int .i32 r), (.bool false), (.bool false), (.int .i32 r), (.bool true), (.bool true), (.bool true), (.int .i32 r), (.bool false), (.bool false), (.int .i32 r), undef, undef, undef, undef, undef, undef, undef, undef, undef, undef, undef], []⟩ m = some (.normal, ⟨#[(.int .i32 r), undef, (.bool false), (.int .i32 r), (.bool false), (.bool false), (.int .i32 r), (.bool true), (.bool true), (.bool true), (.int .i32 r), (.bool false), (.bool false), (.int .i32 r), (.bool true), undef, undef, undef, undef, undef, undef, undef, undef, undef, undef], []⟩, m) := by
  have e : ∀ b : Bool, (decide (r > 57)) = b → runOps Try.prog C (regOf Try.f41 1) [11] ⟨#[(.int .i32 r), undef, (.bool false), (.int .i32 r), (.bool false), (.bool false), (.int .i32 r), (.bool true), (.bool true), (.bool true), (.int .i32 r), (.bool false), (.bool false), (.int .i32 r), undef, undef, undef, undef, undef, undef, undef, undef, undef, undef, undef], []⟩ m = some (.normal, ⟨#[(.int .i32 r), undef, (.bool false), (.int .i32 r), (.bool false), (.bool false), (.int .i32 r), (.bool true), (.bool true), (.bool true), (.int .i32 r), (.bool false), (.bool false), (.int .i32 r), (.bool b), undef, undef, undef, undef, undef, undef, undef, undef, undef, undef], []⟩, m) := by
    intro b hb; rw [← hb]; kernel_rfl
  exact e _ h
theorem bg9 (r : Int) (m : M) (C : CallF) : runOps Try.prog C (regOf Try.f41 1) [12, 13, 14, 15] ⟨#[(.int .i32 r), undef, (.bool false), (.int .i32 r), (.bool false), (.bool false), (.int .i32 r), (.bool true), (.bool true), (.bool true), (.int .i32 r), (.bool false), (.bool false), (.int .i32 r), (.bool true), undef, undef, undef, undef, undef, undef, undef, undef, undef, undef], []⟩ m = some (.normal, ⟨#[(.int .i32 r), undef, (.bool false), (.int .i32 r), (.bool false), (.bool false), (.int .i32 r), (.bool true), (.bool true), (.bool true), (.int .i32 r), (.bool false), (.bool false), (.int .i32 r), (.bool true), (.bool true), (.bool true), (.bool true), (.int .i32 r), undef, undef, undef, undef, undef, undef], []⟩, m) := by kernel_rfl
theorem bg10 (r : Int) (m : M) (C : CallF) (h : (r != 46) = true) : runOps Try.prog C (regOf Try.f41 1) [16] ⟨#[(.int .i32 r), undef, (.bool false), (.int .i32 r), (.bool false), (.bool false), (.int .i32 r), (.bool true), (.bool true), (.bool true), (.int .i32 r), (.bool false), (.bool false), (.int .i32 r), (.bool true), (.bool true), (.bool true), (.bool true), (.int .i32 r), undef, undef, undef, undef, undef, undef], []⟩ m = some (.normal, ⟨#[(.int .i32 r), undef, (.bool false), (.int .i32 r), (.bool false), (.bool false), (.int .i32 r), (.bool true), (.bool true), (.bool true), (.int .i32 r), (.bool false), (.bool false), (.int .i32 r), (.bool true), (.bool true), (.bool true), (.bool true), (.int .i32 r), (.bool true), undef, undef, undef, undef, undef], []⟩, m) := by
  have e : ∀ b : Bool, (r != 46) = b → runOps Try.prog C (regOf Try.f41 1) [16] ⟨#[(.int .i32 r), undef, (.bool false), (.int .i32 r), (.bool false), (.bool false), (.int .i32 r), (.bool true), (.bool true), (.bool true), (.int .i32 r), (.bool false), (.bool false), (.int .i32 r), (.bool true), (.bool true), (.bool true), (.bool true), (.int .i32 r), undef, undef, undef, undef, undef, undef], []⟩ m = some (.normal, ⟨#[(.int .i32 r), undef, (.bool false), (.int .i32 r), (.bool false), (.bool false), (.int .i32 r), (.bool true), (.bool true), (.bool true), (.int .i32 r), (.bool false), (.bool false), (.int .i32 r), (.bool true), (.bool true), (.bool true), (.bool true), (.int .i32 r), (.bool b), undef, undef, undef, undef, undef], []⟩, m) := by
    intro b hb; rw [← hb]; kernel_rfl
  exact e _ h
theorem bg11 (r : Int) (m : M) (C : CallF) : runOps Try.prog C (regOf Try.f41 1) [17, 18, 19] ⟨#[(.int .i32 r), undef, (.bool false), (.int .i32 r), (.bool false), (.bool false), (.int .i32 r), (.bool true), (.bool true), (.bool true), (.int .i32 r), (.bool false), (.bool false), (.int .i32 r), (.bool true), (.bool true), (.bool true), (.bool true), (.int .i32 r), (.bool true), undef, undef, undef, undef, undef], []⟩ m = some (.normal, ⟨#[(.int .i32 r), undef, (.bool false), (.int .i32 r), (.bool false), (.bool false), (.int .i32 r), (.bool true), (.bool true), (.bool true), (.int .i32 r), (.bool false), (.bool false), (.int .i32 r), (.bool true), (.bool true), (.bool true), (.bool true), (.int .i32 r), (.bool true), (.bool true), (.bool true), (.int .i32 r), undef, undef], []⟩, m) := by kernel_rfl
theorem bg12 (r : Int) (m : M) (C : CallF) (h : (r != 45) = true) : runOps Try.prog C (regOf Try.f41 1) [20] ⟨#[(.int .i32 r), undef, (.bool false), (.int .i32 r), (.bool false), (.bool false), (.int .i32 r), (.bool true), (.bool true), (.bool true), (.int .i32 r), (.bool false), (.bool false), (.int .i32 r), (.bool true), (.bool true), (.bool true), (.bool true), (.int .i32 r), (.bool true), (.bool true), (.bool true), (.int .i32 r), undef, undef], []⟩ m = some (.normal, ⟨#[(.int .i32 r), undef, (.bool false), (.int .i32 r), (.bool false), (.bool false), (.int .i32 r), (.bool true), (.bool true), (.bool true), (.int .i32 r), (.bool false), (.bool false), (.int .i32 r), (.bool true), (.bool true), (.bool true), (.bool true), (.int .i32 r), (.bool true), (.bool true), (.bool true), (.int .i32 r), (.bool true), undef], []⟩, m) := by
  have e : ∀ b : Bool, (r != 45) = b → runOps Try.prog C (regOf Try.f41 1) [20] ⟨#[(.int .i32 r), undef, (.bool false), (.int .i32 r), (.bool false), (.bool false), (.int .i32 r), (.bool true), (.bool true), (.bool true), (.int .i32 r), (.bool false), (.bool false), (.int .i32 r), (.bool true), (.bool true), (.bool true), (.bool true), (.int .i32 r), (.bool true), (.bool true), (.bool true), (.int .i32 r), undef, undef], []⟩ m = some (.normal, ⟨#[(.int .i32 r), undef, (.bool false), (.int .i32 r), (.bool false), (.bool false), (.int .i32 r), (.bool true), (.bool true), (.bool true), (.int .i32 r), (.bool false), (.bool false), (.int .i32 r), (.bool true), (.bool true), (.bool true), (.bool true), (.int .i32 r), (.bool true), (.bool true), (.bool true), (.int .i32 r), (.bool b), undef], []⟩, m) := by
    intro b hb; rw [← hb]; kernel_rfl
  exact e _ h
theorem bg13 (r : Int) (m : M) (C : CallF) : runOps Try.prog C (regOf Try.f41 1) [21, 22] ⟨#[(.int .i32 r), undef, (.bool false), (.int .i32 r), (.bool false), (.bool false), (.int .i32 r), (.bool true), (.bool true), (.bool true), (.int .i32 r), (.bool false), (.bool false), (.int .i32 r), (.bool true), (.bool true), (.bool true), (.bool true), (.int .i32 r), (.bool true), (.bool true), (.bool true), (.int .i32 r), (.bool true), undef], []⟩ m = some (.normal, ⟨#[(.int .i32 r), undef, (.bool true), (.int .i32 r), (.bool false), (.bool false), (.int .i32 r), (.bool true), (.bool true), (.bool true), (.int .i32 r), (.bool false), (.bool false), (.int .i32 r), (.bool true), (.bool true), (.bool true), (.bool true), (.int .i32 r), (.bool true), (.bool true), (.bool true), (.int .i32 r), (.bool true), (.bool true)], []⟩, m) := by kernel_rfl
noncomputable def cb41 : Code := .seq (.region 0 (regOf Try.f41 0) false) (.seq (.region 1 (regOf Try.f41 1) false) .ret)
theorem body41 : Try.f41.body = some cb41 := by kernel_rfl
theorem rune_big [Orc Try.prog] (ho : ∀ args, Orc.O Try.prog 41 args = none) {r : Int} (h : 123 ≤ r) (m : M) : Cal Try.prog 41 #[.int .i32 r] m (.ret (.bool true)) m := by
  have h1 : decide (r < 97) = false := decide_eq_false (by omega); have h2 : decide (r > 122) = true := decide_eq_true (by omega); have h3 : decide (r < 48) = false := decide_eq_false (by omega); have h4 : decide (r > 57) = true := decide_eq_true (by omega)
  have h5 : (r != 46) = true := by have : r ≠ 46 := by omega
                                   simp [this]
  have h6 : (r != 45) = true := by have : r ≠ 45 := by omega
                                   simp [this]
  have f0 : frame Try.f41 #[.int .i32 r] = ⟨#[(.int .i32 r), undef, undef, undef, undef, undef, undef, undef, undef, undef, undef, undef, undef, undef, undef, undef, undef, undef, undef, undef, undef, undef, undef, undef, undef], []⟩ := by kernel_rfl
  refine Cal.ret (e := .ret) (a := ⟨#[(.int .i32 r), undef, (.bool true), (.int .i32 r), (.bool false), (.bool false), (.int .i32 r), (.bool true), (.bool true), (.bool true), (.int .i32 r), (.bool false), (.bool false), (.int .i32 r), (.bool true), (.bool true), (.bool true), (.bool true), (.int .i32 r), (.bool true), (.bool true), (.bool true), (.int .i32 r), (.bool true), (.bool true)], []⟩) ho Try.func41 body41 ?_ (.inr rfl) rfl (by kernel_rfl)
  rw [f0]; refine To.seq (To.region (l := [0]) (by kernel_rfl) (Ops.pure_all (bg0 r m))) (To.seq (To.region (l := [0] ++ ([1] ++ ([2, 3] ++ ([4] ++ ([5, 6, 7] ++ ([8] ++ ([9, 10] ++ ([11] ++ ([12, 13, 14, 15] ++ ([16] ++ ([17, 18, 19] ++ ([20] ++ [21, 22])))))))))))) (by kernel_rfl) ?_) To.ret); refine Ops.pure (bg1 r m) (Ops.pure (fun C => bg2 r m C h1) (Ops.pure (bg3 r m) (Ops.pure (fun C => bg4 r m C h2) (Ops.pure (bg5 r m) (Ops.pure (fun C => bg6 r m C h3) (Ops.pure (bg7 r m) (Ops.pure (fun C => bg8 r m C h4) (Ops.pure (bg9 r m) (Ops.pure (fun C => bg10 r m C h5) (Ops.pure (bg11 r m) (Ops.pure (fun C => bg12 r m C h6) (Ops.pure_all (bg13 r m)))))))))))))
end
theorem cal41 (r : Int) (m : M) : @Cal Try.prog (Orc.none Try.prog) 41 #[.int .i32 r] m (.ret (.bool (badR r))) m := by
  have fin : ∀ {b : Bool}, (∀ q, call0 q 41 #[.int .i32 r] m = some (.ret (.bool b), m)) → @Cal Try.prog (Orc.none Try.prog) 41 #[.int .i32 r] m (.ret (.bool b)) m := by
    intro b h; refine ⟨10, fun k hk => ?_⟩; obtain ⟨q, rfl⟩ : ∃ q, k = q + 10 := ⟨k - 10, by omega⟩; exact h q
  rcases Int.lt_or_le r 123 with h | h
  · cases r with
    | negSucc n =>
      rw [rune_neg2]; cases n with
      | zero => exact fin (rune_m1 m)
      | succ n => exact fin (rune_neg n m)
    | ofNat k => exact fin (rune_small k (by have : (Int.ofNat k) = (k : Int) := rfl; omega) m)
  · rw [rune_big2 h]
    exact @rune_big (Orc.none Try.prog) (fun _ => rfl) r h m
end Go.IM
namespace Go.IM
open Go Go.Proofs
def mS (s : ByteArray) (p : Nat) : M := ⟨.node (some { obj := .stringIter s p, root := 0 }) .leaf .leaf, 1, 0⟩
abbrev itP : Value := .pointer (some ⟨0, 0, none⟩)
theorem next_lt {s : ByteArray} {p : Nat} (h : p < s.size) : inext itP true (mS s p) = some (.tuple #[.bool true, .int .i64 p, .int .i32 (Utf8.decode s p).1], mS s (p + (Utf8.decode s p).2)) := by
  have e : inext itP true (mS s p) = if p < s.size then ((mS s p).putObj 0 (.stringIter s (p + (Utf8.decode s p).2))).map fun m1 => (.tuple #[.bool true, .int .i64 p, .int .i32 (Utf8.decode s p).1], m1) else some (.tuple #[.bool false], mS s p) := rfl
  rw [e, if_pos h]; rfl
theorem next_ge {s : ByteArray} {p : Nat} (h : ¬ p < s.size) : inext itP true (mS s p) = some (.tuple #[.bool false], mS s p) := by
  have e : inext itP true (mS s p) = if p < s.size then ((mS s p).putObj 0 (.stringIter s (p + (Utf8.decode s p).2))).map fun m1 => (.tuple #[.bool true, .int .i64 p, .int .i32 (Utf8.decode s p).1], m1) else some (.tuple #[.bool false], mS s p) := rfl
  rw [e, if_neg h]
theorem width_pos (s : ByteArray) (p : Nat) : 0 < (Utf8.decode s p).2 := by
  unfold Utf8.decode; simp only
  repeat' split
  all_goals exact Nat.succ_pos _
def hasBadF (s : ByteArray) : Nat → Nat → Option Nat
  | 0, _ => none
  | n + 1, p => if p < s.size then (if badR (Utf8.decode s p).1 then some p else hasBadF s n (p + (Utf8.decode s p).2)) else none
def idx (o : Option Nat) : Int := match o with | some p => (p : Int) | none => -1
noncomputable def o2 : Oper := ((regOf Try.f91 2)[0]?).getD default
theorem o2_at : (regOf Try.f91 2)[0]? = some o2 := by kernel_rfl
theorem o2_w (y : Array Oper) (a : Array Value) : Region.wanted o2 (yielded y a) = true := by kernel_rfl
theorem o2_ok : okOp o2 = true := by kernel_rfl
theorem o2_op (ev : Operand → Value) (m : M) : iop Try.prog ev o2 m = (inext (ev (.tmp 10)) true m).map fun (v, m') => Res.val v m' := by kernel_rfl
theorem o2_dst : o2.dst = some 11 := by kernel_rfl
noncomputable def o4 : Oper := ((regOf Try.f91 4)[2]?).getD default
theorem o4_at : (regOf Try.f91 4)[2]? = some o4 := by kernel_rfl
theorem o4_w (y : Array Oper) (a : Array Value) : Region.wanted o4 (yielded y a) = true := by kernel_rfl
theorem o4_ok : okOp o4 = true := by kernel_rfl
theorem o4_dst : o4.dst = some 17 := by kernel_rfl
theorem x2f (s : ByteArray) (y0 y1 y2 y3 y4 y5 y6 y7 y8 y9 y10 y11 : Value) (m : M) (C : CallF) : runOps Try.prog C (regOf Try.f91 2) [1] ⟨#[.string s, .func (.func 41) #[] #[], .bool true, undef, undef, undef, .int .i64 0, y0, y1, .string s, .pointer (some ⟨0, 0, none⟩), .tuple #[.bool false], y3, y4, y5, y6, y7, y8, y9, y10, y11], []⟩ m = some (.normal, ⟨#[.string s, .func (.func 41) #[] #[], .bool true, undef, undef, undef, .int .i64 0, y0, y1, .string s, .pointer (some ⟨0, 0, none⟩), .tuple #[.bool false], .bool false, y4, y5, y6, y7, y8, y9, y10, y11], []⟩, m) := by kernel_rfl
theorem x2t (s : ByteArray) (y0 y1 y2 y3 y4 y5 y6 y7 y8 y9 y10 y11 : Value) (m : M) (C : CallF) (p c : Int) : runOps Try.prog C (regOf Try.f91 2) [1] ⟨#[.string s, .func (.func 41) #[] #[], .bool true, undef, undef, undef, .int .i64 0, y0, y1, .string s, .pointer (some ⟨0, 0, none⟩), .tuple #[.bool true, .int .i64 p, .int .i32 c], y3, y4, y5, y6, y7, y8, y9, y10, y11], []⟩ m = some (.normal, ⟨#[.string s, .func (.func 41) #[] #[], .bool true, undef, undef, undef, .int .i64 0, y0, y1, .string s, .pointer (some ⟨0, 0, none⟩), .tuple #[.bool true, .int .i64 p, .int .i32 c], .bool true, y4, y5, y6, y7, y8, y9, y10, y11], []⟩, m) := by kernel_rfl
theorem x3 (s : ByteArray) (y0 y1 y2 y3 y4 y5 y6 y7 y8 y9 y10 y11 : Value) (m : M) (C : CallF) (p c : Int) : runOps Try.prog C (regOf Try.f91 3) [0, 1, 2, 3] ⟨#[.string s, .func (.func 41) #[] #[], .bool true, undef, undef, undef, .int .i64 0, y0, y1, .string s, .pointer (some ⟨0, 0, none⟩), .tuple #[.bool true, .int .i64 p, .int .i32 c], .bool true, y4, y5, y6, y7, y8, y9, y10, y11], []⟩ m = some (.normal, ⟨#[.string s, .func (.func 41) #[] #[], .bool true, undef, undef, undef, .int .i64 0, .int .i64 p, .int .i32 c, .string s, .pointer (some ⟨0, 0, none⟩), .tuple #[.bool true, .int .i64 p, .int .i32 c], .bool true, .int .i64 p, .int .i32 c, y6, y7, y8, y9, y10, y11], []⟩, m) := by kernel_rfl
theorem x4a (s : ByteArray) (y0 y1 y2 y3 y4 y5 y6 y7 y8 y9 y10 y11 : Value) (m : M) (C : CallF) (p c : Int) : runOps Try.prog C (regOf Try.f91 4) [0, 1] ⟨#[.string s, .func (.func 41) #[] #[], .bool true, undef, undef, undef, .int .i64 0, .int .i64 p, .int .i32 c, .string s, .pointer (some ⟨0, 0, none⟩), .tuple #[.bool true, .int .i64 p, .int .i32 c], .bool true, .int .i64 p, .int .i32 c, y6, y7, y8, y9, y10, y11], []⟩ m = some (.normal, ⟨#[.string s, .func (.func 41) #[] #[], .bool true, undef, undef, undef, .int .i64 0, .int .i64 p, .int .i32 c, .string s, .pointer (some ⟨0, 0, none⟩), .tuple #[.bool true, .int .i64 p, .int .i32 c], .bool true, .int .i64 p, .int .i32 c, .func (.func 41) #[] #[], .int .i32 c, y8, y9, y10, y11], []⟩, m) := by kernel_rfl
theorem x4c (s : ByteArray) (y0 y1 y2 y3 y4 y5 y6 y7 y8 y9 y10 y11 : Value) (m : M) (p c : Int) : iop Try.prog (⟨#[.string s, .func (.func 41) #[] #[], .bool true, undef, undef, undef, .int .i64 0, .int .i64 p, .int .i32 c, .string s, .pointer (some ⟨0, 0, none⟩), .tuple #[.bool true, .int .i64 p, .int .i32 c], .bool true, .int .i64 p, .int .i32 c, .func (.func 41) #[] #[], .int .i32 c, y8, y9, y10, y11], []⟩ : Act).eval o4 m = some (.call 41 #[.int .i32 c] m) := by kernel_rfl
theorem x4bt (s : ByteArray) (y0 y1 y2 y3 y4 y5 y6 y7 y8 y9 y10 y11 : Value) (m : M) (C : CallF) (p c : Int) : runOps Try.prog C (regOf Try.f91 4) [3, 4] ⟨#[.string s, .func (.func 41) #[] #[], .bool true, undef, undef, undef, .int .i64 0, .int .i64 p, .int .i32 c, .string s, .pointer (some ⟨0, 0, none⟩), .tuple #[.bool true, .int .i64 p, .int .i32 c], .bool true, .int .i64 p, .int .i32 c, .func (.func 41) #[] #[], .int .i32 c, .bool true, y9, y10, y11], []⟩ m = some (.normal, ⟨#[.string s, .func (.func 41) #[] #[], .bool true, undef, undef, undef, .int .i64 0, .int .i64 p, .int .i32 c, .string s, .pointer (some ⟨0, 0, none⟩), .tuple #[.bool true, .int .i64 p, .int .i32 c], .bool true, .int .i64 p, .int .i32 c, .func (.func 41) #[] #[], .int .i32 c, .bool true, .bool true, .bool true, y11], []⟩, m) := by kernel_rfl
theorem x4bf (s : ByteArray) (y0 y1 y2 y3 y4 y5 y6 y7 y8 y9 y10 y11 : Value) (m : M) (C : CallF) (p c : Int) : runOps Try.prog C (regOf Try.f91 4) [3, 4] ⟨#[.string s, .func (.func 41) #[] #[], .bool true, undef, undef, undef, .int .i64 0, .int .i64 p, .int .i32 c, .string s, .pointer (some ⟨0, 0, none⟩), .tuple #[.bool true, .int .i64 p, .int .i32 c], .bool true, .int .i64 p, .int .i32 c, .func (.func 41) #[] #[], .int .i32 c, .bool false, y9, y10, y11], []⟩ m = some (.normal, ⟨#[.string s, .func (.func 41) #[] #[], .bool true, undef, undef, undef, .int .i64 0, .int .i64 p, .int .i32 c, .string s, .pointer (some ⟨0, 0, none⟩), .tuple #[.bool true, .int .i64 p, .int .i32 c], .bool true, .int .i64 p, .int .i32 c, .func (.func 41) #[] #[], .int .i32 c, .bool false, .bool true, .bool false, y11], []⟩, m) := by kernel_rfl
theorem x5 (s : ByteArray) (y0 y1 y2 y3 y4 y5 y6 y7 y8 y9 y10 y11 : Value) (m : M) (C : CallF) (p c : Int) : runOps Try.prog C (regOf Try.f91 5) [0, 1] ⟨#[.string s, .func (.func 41) #[] #[], .bool true, undef, undef, undef, .int .i64 0, .int .i64 p, .int .i32 c, .string s, .pointer (some ⟨0, 0, none⟩), .tuple #[.bool true, .int .i64 p, .int .i32 c], .bool true, .int .i64 p, .int .i32 c, .func (.func 41) #[] #[], .int .i32 c, .bool true, .bool true, .bool true, y11], []⟩ m = some (.normal, ⟨#[.string s, .func (.func 41) #[] #[], .bool true, undef, undef, undef, .int .i64 p, .int .i64 p, .int .i32 c, .string s, .pointer (some ⟨0, 0, none⟩), .tuple #[.bool true, .int .i64 p, .int .i32 c], .bool true, .int .i64 p, .int .i32 c, .func (.func 41) #[] #[], .int .i32 c, .bool true, .bool true, .bool true, .int .i64 p], []⟩, m) := by kernel_rfl
noncomputable def lb91 : Code := .seq (.region 2 (regOf Try.f91 2) false) (.seq (.cond (.tmp 12) .skip (.exit 0)) (.block 1 (.seq (.region 3 (regOf Try.f91 3) false) (.seq (.region 4 (regOf Try.f91 4) false) (.cond (.tmp 19) (.seq (.region 5 (regOf Try.f91 5) false) .ret) .skip)))))
noncomputable def cb91 : Code := .seq (.region 0 (regOf Try.f91 0) false) (.seq (.seq (.region 1 (regOf Try.f91 1) false) (.block 0 (.loop lb91))) (.seq (.region 6 (regOf Try.f91 6) false) .ret))
theorem body91 : Try.f91.body = some cb91 := by kernel_rfl
section
local instance orcN : Orc Try.prog := Orc.none Try.prog
theorem round_over {s : ByteArray} {p : Nat} {y0 y1 y2 y3 y4 y5 y6 y7 y8 y9 y10 y11 : Value} (h : ¬ p < s.size) : Ev.To Try.prog lb91 ⟨#[.string s, .func (.func 41) #[] #[], .bool true, undef, undef, undef, .int .i64 0, y0, y1, .string s, .pointer (some ⟨0, 0, none⟩), y2, y3, y4, y5, y6, y7, y8, y9, y10, y11], []⟩ (mS s p) (.exit 0) ⟨#[.string s, .func (.func 41) #[] #[], .bool true, undef, undef, undef, .int .i64 0, y0, y1, .string s, .pointer (some ⟨0, 0, none⟩), .tuple #[.bool false], .bool false, y4, y5, y6, y7, y8, y9, y10, y11], []⟩ (mS s p) := by
  refine To.seq (To.region (l := [0] ++ [1]) (by kernel_rfl) ?_) (To.seq_out (To.cond (b := false) rfl rfl To.exit) (by intro q; cases q))
  refine Ops.val o2_at (o2_w _ _) o2_ok (v := .tuple #[.bool false]) (m1 := mS s p) ?_ ?_
  · rw [o2_op, show (⟨#[.string s, .func (.func 41) #[] #[], .bool true, undef, undef, undef, .int .i64 0, y0, y1, .string s, .pointer (some ⟨0, 0, none⟩), y2, y3, y4, y5, y6, y7, y8, y9, y10, y11], []⟩ : Act).eval (.tmp 10) = itP from rfl, next_ge h]; rfl
  · rw [o2_dst]
    exact Ops.pure_all (x2f s y0 y1 (.tuple #[.bool false]) y3 y4 y5 y6 y7 y8 y9 y10 y11 (mS s p))
theorem round_step {s : ByteArray} {p : Nat} {y0 y1 y2 y3 y4 y5 y6 y7 y8 y9 y10 y11 : Value} (h : p < s.size) {e : Out} {tm : Array Value}
    (hk : Ev.To Try.prog (.block 1 (.seq (.region 3 (regOf Try.f91 3) false) (.seq (.region 4 (regOf Try.f91 4) false) (.cond (.tmp 19) (.seq (.region 5 (regOf Try.f91 5) false) .ret) .skip)))) ⟨#[.string s, .func (.func 41) #[] #[], .bool true, undef, undef, undef, .int .i64 0, y0, y1, .string s, .pointer (some ⟨0, 0, none⟩), .tuple #[.bool true, .int .i64 p, .int .i32 (Utf8.decode s p).1], .bool true, y4, y5, y6, y7, y8, y9, y10, y11], []⟩ (mS s (p + (Utf8.decode s p).2)) e ⟨tm, []⟩ (mS s (p + (Utf8.decode s p).2))) :
    Ev.To Try.prog lb91 ⟨#[.string s, .func (.func 41) #[] #[], .bool true, undef, undef, undef, .int .i64 0, y0, y1, .string s, .pointer (some ⟨0, 0, none⟩), y2, y3, y4, y5, y6, y7, y8, y9, y10, y11], []⟩ (mS s p) e ⟨tm, []⟩ (mS s (p + (Utf8.decode s p).2)) := by
  refine To.seq (To.region (l := [0] ++ [1]) (by kernel_rfl) ?_) (To.seq (To.cond (b := true) rfl rfl To.skip) hk); refine Ops.val o2_at (o2_w _ _) o2_ok (v := .tuple #[.bool true, .int .i64 p, .int .i32 (Utf8.decode s p).1]) (m1 := mS s (p + (Utf8.decode s p).2)) ?_ ?_
  · rw [o2_op, show (⟨#[.string s, .func (.func 41) #[] #[], .bool true, undef, undef, undef, .int .i64 0, y0, y1, .string s, .pointer (some ⟨0, 0, none⟩), y2, y3, y4, y5, y6, y7, y8, y9, y10, y11], []⟩ : Act).eval (.tmp 10) = itP from rfl, next_lt h]; rfl
  · rw [o2_dst]
    exact Ops.pure_all fun C => x2t s y0 y1 y2 y3 y4 y5 y6 y7 y8 y9 y10 y11 _ C p (Utf8.decode s p).1
theorem round_hit {s : ByteArray} {p : Nat} {y0 y1 y2 y3 y4 y5 y6 y7 y8 y9 y10 y11 : Value} (h : p < s.size) (hb : badR (Utf8.decode s p).1 = true) :
    ∃ tm, tm.getD 6 undef = .int .i64 p ∧ Ev.To Try.prog lb91 ⟨#[.string s, .func (.func 41) #[] #[], .bool true, undef, undef, undef, .int .i64 0, y0, y1, .string s, .pointer (some ⟨0, 0, none⟩), y2, y3, y4, y5, y6, y7, y8, y9, y10, y11], []⟩ (mS s p) .ret ⟨tm, []⟩ (mS s (p + (Utf8.decode s p).2)) := by
  generalize hc : (Utf8.decode s p).1 = c0 at hb; obtain ⟨c, hcc⟩ : ∃ c : Int, c = (c0 : Int) := ⟨_, rfl⟩; have hcal := cal41 c (mS s (p + (Utf8.decode s p).2)); rw [hcc, hb] at hcal; refine ⟨#[.string s, .func (.func 41) #[] #[], .bool true, undef, undef, undef, .int .i64 p, .int .i64 p, .int .i32 c, .string s, .pointer (some ⟨0, 0, none⟩), .tuple #[.bool true, .int .i64 p, .int .i32 c], .bool true, .int .i64 p, .int .i32 c, .func (.func 41) #[] #[], .int .i32 c, .bool true, .bool true, .bool true, .int .i64 p], rfl, round_step h ?_⟩
  rw [hc]; rw [← hcc] at hcal ⊢; refine To.block_out (To.seq (To.region (l := [0, 1, 2, 3]) (by kernel_rfl) (Ops.pure_all fun C => x3 s y0 y1 y2 y3 y4 y5 y6 y7 y8 y9 y10 y11 _ C p c)) (To.seq (To.region (l := [0, 1] ++ ([2] ++ [3, 4])) (by kernel_rfl) ?_) (To.cond (b := true) rfl rfl (To.seq (To.region (l := [0, 1]) (by kernel_rfl) (Ops.pure_all fun C => x5 s y0 y1 y2 y3 y4 y5 y6 y7 y8 y9 y10 y11 _ C p c)) To.ret)))) (by intro q; cases q)
  refine Ops.pure (fun C => x4a s y0 y1 y2 y3 y4 y5 y6 y7 y8 y9 y10 y11 _ C p c) ?_; refine Ops.call o4_at (o4_w _ _) o4_ok (x4c s y0 y1 y2 y3 y4 y5 y6 y7 y8 y9 y10 y11 _ p c) hcal ?_; rw [o4_dst]; exact Ops.pure_all fun C => x4bt s y0 y1 y2 y3 y4 y5 y6 y7 y8 y9 y10 y11 _ C p c
theorem round_miss {s : ByteArray} {p : Nat} {y0 y1 y2 y3 y4 y5 y6 y7 y8 y9 y10 y11 : Value} (h : p < s.size) (hb : badR (Utf8.decode s p).1 = false) :
    ∃ z7 z8 z11 z12 z13 z14 z15 z16 z17 z18 z19 z20 : Value, Ev.To Try.prog lb91 ⟨#[.string s, .func (.func 41) #[] #[], .bool true, undef, undef, undef, .int .i64 0, y0, y1, .string s, .pointer (some ⟨0, 0, none⟩), y2, y3, y4, y5, y6, y7, y8, y9, y10, y11], []⟩ (mS s p) .normal ⟨#[.string s, .func (.func 41) #[] #[], .bool true, undef, undef, undef, .int .i64 0, z7, z8, .string s, .pointer (some ⟨0, 0, none⟩), z11, z12, z13, z14, z15, z16, z17, z18, z19, z20], []⟩ (mS s (p + (Utf8.decode s p).2)) := by
  generalize hc : (Utf8.decode s p).1 = c0 at hb; obtain ⟨c, hcc⟩ : ∃ c : Int, c = (c0 : Int) := ⟨_, rfl⟩; have hcal := cal41 c (mS s (p + (Utf8.decode s p).2)); rw [hcc, hb] at hcal; refine ⟨(.int .i64 p), (.int .i32 c), (.tuple #[.bool true, .int .i64 p, .int .i32 c]), (.bool true), (.int .i64 p), (.int .i32 c), (.func (.func 41) #[] #[]), (.int .i32 c), (.bool false), (.bool true), (.bool false), y11, round_step h ?_⟩
  rw [hc]; rw [← hcc] at hcal ⊢; refine To.block_out (To.seq (To.region (l := [0, 1, 2, 3]) (by kernel_rfl) (Ops.pure_all fun C => x3 s y0 y1 y2 y3 y4 y5 y6 y7 y8 y9 y10 y11 _ C p c)) (To.seq (To.region (l := [0, 1] ++ ([2] ++ [3, 4])) (by kernel_rfl) ?_) (To.cond (b := false) rfl rfl To.skip))) (by intro q; cases q)
  refine Ops.pure (fun C => x4a s y0 y1 y2 y3 y4 y5 y6 y7 y8 y9 y10 y11 _ C p c) ?_; refine Ops.call o4_at (o4_w _ _) o4_ok (x4c s y0 y1 y2 y3 y4 y5 y6 y7 y8 y9 y10 y11 _ p c) hcal ?_; rw [o4_dst]; exact Ops.pure_all fun C => x4bf s y0 y1 y2 y3 y4 y5 y6 y7 y8 y9 y10 y11 _ C p c
theorem loop91 (s : ByteArray) : ∀ (n p : Nat), s.size < n + p → ∀ (y0 y1 y2 y3 y4 y5 y6 y7 y8 y9 y10 y11 : Value), ∃ e tm m', Ev.To Try.prog (.loop lb91) ⟨#[.string s, .func (.func 41) #[] #[], .bool true, undef, undef, undef, .int .i64 0, y0, y1, .string s, .pointer (some ⟨0, 0, none⟩), y2, y3, y4, y5, y6, y7, y8, y9, y10, y11], []⟩ (mS s p) e ⟨tm, []⟩ m' ∧
    (match hasBadF s n p with
      | some q => e = .ret ∧ tm.getD 6 undef = .int .i64 q
      | none => e = .exit 0 ∧ ∃ z7 z8 z11 z12 z13 z14 z15 z16 z17 z18 z19 z20 : Value, tm = #[.string s, .func (.func 41) #[] #[], .bool true, undef, undef, undef, .int .i64 0, z7, z8, .string s, .pointer (some ⟨0, 0, none⟩), z11, z12, z13, z14, z15, z16, z17, z18, z19, z20]) := by
  intro n; induction n with
  | zero =>
    intro p hp y0 y1 y2 y3 y4 y5 y6 y7 y8 y9 y10 y11; exact ⟨_, _, _, To.loop_out (round_over (by omega)) (by intro q; cases q), rfl, _, _, _, _, _, _, _, _, _, _, _, _, rfl⟩
  | succ n ih =>
    intro p hp y0 y1 y2 y3 y4 y5 y6 y7 y8 y9 y10 y11; unfold hasBadF; by_cases h : p < s.size
    · rw [if_pos h]
      cases hb : badR (Utf8.decode s p).1 with
      | true =>
        obtain ⟨tm, h1, h2⟩ := round_hit (s := s) (p := p) (y0 := y0) (y1 := y1) (y2 := y2) (y3 := y3) (y4 := y4) (y5 := y5) (y6 := y6) (y7 := y7) (y8 := y8) (y9 := y9) (y10 := y10) (y11 := y11) h hb; exact ⟨_, tm, _, To.loop_out h2 (by intro q; cases q), rfl, h1⟩
      | false =>
        obtain ⟨z7, z8, z11, z12, z13, z14, z15, z16, z17, z18, z19, z20, h1⟩ := round_miss (s := s) (p := p) (y0 := y0) (y1 := y1) (y2 := y2) (y3 := y3) (y4 := y4) (y5 := y5) (y6 := y6) (y7 := y7) (y8 := y8) (y9 := y9) (y10 := y10) (y11 := y11) h hb; have hw := width_pos s p; obtain ⟨e, tm, m', h2, h3⟩ := ih (p + (Utf8.decode s p).2) (by omega) z7 z8 z11 z12 z13 z14 z15 z16 z17 z18 z19 z20
        exact ⟨e, tm, m', To.loop h1 h2, h3⟩
    · rw [if_neg h]
      exact ⟨_, _, _, To.loop_out (round_over h) (by intro q; cases q), rfl, _, _, _, _, _, _, _, _, _, _, _, _, rfl⟩
end
end Go.IM
namespace Go.IM
open Go Go.Proofs
abbrev args91 (s : ByteArray) : Array Value := #[.string s, .func (.func 41) #[] #[], .bool true]
section
local instance orcN2 : Orc Try.prog := Orc.none Try.prog
theorem w0 (s : ByteArray) (C : CallF) : runOps Try.prog C (regOf Try.f91 0) [0] (frame Try.f91 (args91 s)) ⟨.leaf, 0, 0⟩ = some (.normal, ⟨#[.string s, .func (.func 41) #[] #[], .bool true, undef, undef, undef, .int .i64 0, undef, undef, undef, undef, undef, undef, undef, undef, undef, undef, undef, undef, undef, undef], []⟩, ⟨.leaf, 0, 0⟩) := by kernel_rfl
theorem w1 (s : ByteArray) (C : CallF) : runOps Try.prog C (regOf Try.f91 1) [0, 1] ⟨#[.string s, .func (.func 41) #[] #[], .bool true, undef, undef, undef, .int .i64 0, undef, undef, undef, undef, undef, undef, undef, undef, undef, undef, undef, undef, undef, undef], []⟩ ⟨.leaf, 0, 0⟩ = some (.normal, ⟨#[.string s, .func (.func 41) #[] #[], .bool true, undef, undef, undef, .int .i64 0, undef, undef, .string s, .pointer (some ⟨0, 0, none⟩), undef, undef, undef, undef, undef, undef, undef, undef, undef, undef], []⟩, mS s 0) := by kernel_rfl
theorem w6 (s : ByteArray) (z7 z8 z11 z12 z13 z14 z15 z16 z17 z18 z19 z20 : Value) (m : M) (C : CallF) : runOps Try.prog C (regOf Try.f91 6) [0] ⟨#[.string s, .func (.func 41) #[] #[], .bool true, undef, undef, undef, .int .i64 0, z7, z8, .string s, .pointer (some ⟨0, 0, none⟩), z11, z12, z13, z14, z15, z16, z17, z18, z19, z20], []⟩ m = some (.normal, ⟨#[.string s, .func (.func 41) #[] #[], .bool true, undef, undef, undef, .int .i64 (-1), z7, z8, .string s, .pointer (some ⟨0, 0, none⟩), z11, z12, z13, z14, z15, z16, z17, z18, z19, z20], []⟩, m) := by kernel_rfl
theorem w7 (tm : Array Value) (v : Value) (m : M) (h : tm.getD 6 undef = v) : iresults Try.prog Try.f91 tm m = some v := by
 have e : ∀ v, iresults Try.prog Try.f91 tm m = (match some (tm.getD 6 undef) with | some v => some v | none => v) := by
  intro v; kernel_rfl
 rw [e none, h]
theorem cal91 (s : ByteArray) : ∃ m, Cal Try.prog 91 (args91 s) ⟨.leaf, 0, 0⟩ (.ret (.int .i64 (idx (hasBadF s (s.size + 1) 0)))) m := by
 obtain ⟨e, tm, m', h1, h2⟩ := loop91 s (s.size + 1) 0 (by omega) undef undef undef undef undef undef undef undef undef undef undef undef; cases hb : hasBadF s (s.size + 1) 0 with
 | some q =>
  rw [hb] at h2; obtain ⟨rfl, h3⟩ := h2; refine ⟨m', Cal.ret (e := .ret) (a := ⟨tm, []⟩) (fun _ => rfl) Try.func91 body91 ?_ (.inr rfl) rfl (w7 tm _ m' h3)⟩; refine To.seq (To.region (l := [0]) (by kernel_rfl) (Ops.pure_all (w0 s))) (To.seq_out ?_ (by intro q; cases q))
  exact To.seq (To.region (l := [0, 1]) (by kernel_rfl) (Ops.pure_all (w1 s))) (To.block_out h1 (by intro q; cases q))
 | none =>
  rw [hb] at h2; obtain ⟨rfl, z7, z8, z11, z12, z13, z14, z15, z16, z17, z18, z19, z20, rfl⟩ := h2; refine ⟨m', Cal.ret (e := .ret) (a := ⟨#[.string s, .func (.func 41) #[] #[], .bool true, undef, undef, undef, .int .i64 (-1), z7, z8, .string s, .pointer (some ⟨0, 0, none⟩), z11, z12, z13, z14, z15, z16, z17, z18, z19, z20], []⟩) (fun _ => rfl) Try.func91 body91 ?_ (.inr rfl) rfl (w7 _ _ m' rfl)⟩; refine To.seq (To.region (l := [0]) (by kernel_rfl) (Ops.pure_all (w0 s))) (To.seq ?_ (To.seq (To.region (l := [0]) (by kernel_rfl) (Ops.pure_all (w6 s z7 z8 z11 z12 z13 z14 z15 z16 z17 z18 z19 z20 m'))) To.ret))
  exact To.seq (To.region (l := [0, 1]) (by kernel_rfl) (Ops.pure_all (w1 s))) (To.block h1)
theorem run91 (s : ByteArray) : ∃ n m, run0 Try.prog n 91 (args91 s) = some (.ret (.int .i64 (idx (hasBadF s (s.size + 1) 0))), m) := by
 obtain ⟨m, n, h⟩ := cal91 s; exact ⟨n, m, h n (Nat.le_refl _)⟩
end
def G91 (args : Array Value) : Option Value :=
 match args.toList with
 | [.string s, .func (.func f) a c, .bool b] => if f = 41 ∧ a.size = 0 ∧ c.size = 0 ∧ b = true then some (.int .i64 (idx (hasBadF s (s.size + 1) 0))) else none
 | _ => none
theorem G91_ok (args : Array Value) (v : Value) (h : G91 args = some v) : (∀ x ∈ args.toList, flat 4 x = true) ∧ flat 4 v = true ∧ ∃ n m, run0 Try.prog n 91 args = some (.ret v, m) := by
 unfold G91 at h; split at h
 ·rename_i s f a c b he; split at h
  ·rename_i hc; obtain ⟨rfl, ha, hcc, rfl⟩ := hc; have ha := Array.eq_empty_of_size_eq_zero ha; have hcc := Array.eq_empty_of_size_eq_zero hcc; subst ha; subst hcc; have e : args = args91 s := by apply Array.ext'; rw [he]
   subst e; cases h; refine ⟨fun x hx => ?_, rfl, run91 s⟩; simp only [List.mem_cons, List.not_mem_nil, or_false] at hx; rcases hx with rfl | rfl | rfl <;> rfl
  ·cases h
 ·cases h
end Go.IM
namespace Go.IM.V
open Go Go.IM Go.Proofs
noncomputable abbrev TP : Program := Try.prog
abbrev DRw : Type := (Int × ((List Int) × (Int × Unit)))
set_option maxRecDepth 100000 in
theorem run14 : isT (run0 TP 400 14 #[]) = true := by kernel_rfl
noncomputable instance orc14 : Orc TP := Orc.two TP 14 400 run14 91 G91 G91_ok
noncomputable def F14 : Option (OT.ret oT).E := some ((true, ()), (), ())
noncomputable def c14 : Con := ⟨iT, .ret oT, fun _ => F14⟩
theorem c14_ok : Con.OK TP 14 c14 := orc_ok (fun _ h => if_pos ⟨rfl, h⟩)
noncomputable def F91 (a0 : ByteArray) (a2 : Bool) : Option (OT.ret oI).E := bif a2 then some ((idx (hasBadF a0 (a0.size + 1) 0), ()), (), ()) else none
noncomputable def c91 : Con := ⟨iS3 41, .ret oI, fun x => F91 x.1.1 x.1.2.2.1⟩
theorem c91_ok : Con.OK TP 91 c91 := orc_ok3 (g := fun s => idx (hasBadF s (s.size + 1) 0)) (fun s => rfl)
noncomputable def l72_7 : Code := (.seq (.region 7 (regOf Try.f72 7) false) (.seq (.cond (.tmp 18) .skip (.exit 2)) (.seq (.block 3 (.seq (.region 8 (regOf Try.f72 8) false) (.seq (.region 9 (regOf Try.f72 9) false) (.region 10 (regOf Try.f72 10) false)))) (.region 11 (regOf Try.f72 11) false))))
noncomputable def l72_3 : Code := (.seq (.region 3 (regOf Try.f72 3) false) (.seq (.cond (.tmp 10) .skip (.exit 0)) (.seq (.block 1 (.seq (.region 4 (regOf Try.f72 4) false) (.seq (.region 5 (regOf Try.f72 5) false) (.seq (.region 6 (regOf Try.f72 6) false) (.block 2 (.loop l72_7)))))) (.region 12 (regOf Try.f72 12) false))))
noncomputable def b72 : Code := (.seq (.region 0 (regOf Try.f72 0) false) (.seq (.region 1 (regOf Try.f72 1) false) (.seq (.seq (.region 2 (regOf Try.f72 2) false) (.block 0 (.loop l72_3))) (.seq (.region 13 (regOf Try.f72 13) false) .ret))))
theorem body72 : Try.f72.body = some b72 := by kernel_rfl
noncomputable def C72_7 : Tab := []
theorem C72_7_ok : TabOK TP C72_7 := trivial
noncomputable def LO72_7 : Tab := []
noncomputable def i72_7 : Tm := { sl := [(3, .v (.i .u32)), (7, .v (.l (.i .u8))), (8, .v (.i .i64)), (9, .v (.i .i64)), (17, .v (.i .i64))], bx := [], bf := [] }
noncomputable def o72_7 : OT := (.exit 2 { sl := [(3, .v (.i .u32))], bx := [], bf := [] })
noncomputable def T72_7 (a3 : Int) (a7 : (List Int)) (a8 : Int) (a9 : Int) (a17 : Int) : Option (((Int × ((List Int) × (Int × (Int × (Int × Unit))))) × Unit × Unit) ⊕ ((Int × Unit) × Unit × Unit)) :=
 (bif (decide (a17 < 8)) then (some (.inl (((iXor .u32 (iShr .u32 a3 1) (IntKind.wrap .u32 (2197175160 * (iAnd .u32 a3 1)))), a7, a8, a9, (IntKind.wrap .i64 (a17 + 1)), ()), (), ()))) else (some (.inr ((a3, ()), (), ()))))
noncomputable def L72_7 (a3 : Int) (a7 : (List Int)) (a8 : Int) (a9 : Int) (a17 : Int) : Option ((Int × Unit) × Unit × Unit) := loopF (fun x : ((Int × ((List Int) × (Int × (Int × (Int × Unit))))) × Unit × Unit) => T72_7 x.1.1 x.1.2.1 x.1.2.2.1 x.1.2.2.2.1 x.1.2.2.2.2.1) ((a3, a7, a8, a9, a17, ()), (), ())
theorem L72_7_eq (a3 : Int) (a7 : (List Int)) (a8 : Int) (a9 : Int) (a17 : Int) : L72_7 a3 a7 a8 a9 a17 = (T72_7 a3 a7 a8 a9 a17).bind (Sum.elim (fun x => L72_7 x.1.1 x.1.2.1 x.1.2.2.1 x.1.2.2.2.1 x.1.2.2.2.2.1) some) := loopF_eq _ _
noncomputable def k72_7 : Con := ⟨i72_7, o72_7, fun x => L72_7 x.1.1 x.1.2.1 x.1.2.2.1 x.1.2.2.2.1 x.1.2.2.2.2.1⟩
theorem e72_7 (x : i72_7.E) : vround TP C72_7 LO72_7 Try.f72.ntmps l72_7 i72_7 o72_7 x = T72_7 x.1.1 x.1.2.1 x.1.2.2.1 x.1.2.2.2.1 x.1.2.2.2.2.1 := by kernel_rfl
theorem k72_7_ok : Con.LOK TP Try.f72.ntmps l72_7 k72_7 := (loop_ok C72_7_ok (noL (by kernel_rfl)) i72_7 o72_7).congr fun x => (congrArg (fun T => loopF T x) (funext e72_7)).symm
noncomputable def C72_3 : Tab := []
theorem C72_3_ok : TabOK TP C72_3 := trivial
noncomputable def LO72_3 : Tab := [(7, k72_7)]
noncomputable def i72_3 : Tm := { sl := [(3, .v (.i .u32)), (7, .v (.l (.i .u8))), (8, .v (.i .i64)), (9, .v (.i .i64))], bx := [], bf := [] }
noncomputable def o72_3 : OT := (.exit 0 { sl := [(3, .v (.i .u32))], bx := [], bf := [] })
noncomputable def T72_3 (a3 : Int) (a7 : (List Int)) (a8 : Int) (a9 : Int) : Option (((Int × ((List Int) × (Int × (Int × Unit)))) × Unit × Unit) ⊕ ((Int × Unit) × Unit × Unit)) :=
 (bif (decide (a9 < a8)) then (bif (decide (0 ≤ a9 ∧ a9 < ((a7.length : Nat) : Int))) then ((L72_7 (iXor .u32 a3 (IntKind.wrap .u32 ((a7).getD a9.toNat (0 : Int)))) a7 a8 a9 0).bind fun y0 => (some (.inl ((y0.1.1, a7, a8, (IntKind.wrap .i64 (a9 + 1)), ()), (), ())))) else none) else (some (.inr ((a3, ()), (), ()))))
noncomputable def L72_3 (a3 : Int) (a7 : (List Int)) (a8 : Int) (a9 : Int) : Option ((Int × Unit) × Unit × Unit) := loopF (fun x : ((Int × ((List Int) × (Int × (Int × Unit)))) × Unit × Unit) => T72_3 x.1.1 x.1.2.1 x.1.2.2.1 x.1.2.2.2.1) ((a3, a7, a8, a9, ()), (), ())
theorem L72_3_eq (a3 : Int) (a7 : (List Int)) (a8 : Int) (a9 : Int) : L72_3 a3 a7 a8 a9 = (T72_3 a3 a7 a8 a9).bind (Sum.elim (fun x => L72_3 x.1.1 x.1.2.1 x.1.2.2.1 x.1.2.2.2.1) some) := loopF_eq _ _
noncomputable def k72_3 : Con := ⟨i72_3, o72_3, fun x => L72_3 x.1.1 x.1.2.1 x.1.2.2.1 x.1.2.2.2.1⟩
theorem e72_3 (x : i72_3.E) : vround TP C72_3 LO72_3 Try.f72.ntmps l72_3 i72_3 o72_3 x = T72_3 x.1.1 x.1.2.1 x.1.2.2.1 x.1.2.2.2.1 := by kernel_rfl
theorem k72_3_ok : Con.LOK TP Try.f72.ntmps l72_3 k72_3 := (loop_ok C72_3_ok (loops_of (l := [l72_7]) (by kernel_rfl) (show LoopsOK TP Try.f72.ntmps [l72_7] LO72_3 from ⟨k72_7_ok, trivial⟩)) i72_3 o72_3).congr fun x => (congrArg (fun T => loopF T x) (funext e72_3)).symm
noncomputable def C72 : Tab := []
theorem C72_ok : TabOK TP C72 := trivial
noncomputable def LO72 : Tab := [(3, k72_3)]
noncomputable def i72 : Tm := { sl := [(0, .v (.l (.i .u8)))], bx := [], bf := [] }
noncomputable def o72 : OT := (.ret { sl := [(0, .v (.i .u32))], bx := [], bf := [] })
noncomputable def F72 (a0 : (List Int)) : Option ((Int × Unit) × Unit × Unit) :=
 ((L72_3 4294967295 a0 ((a0.length : Nat) : Int) 0).bind fun y0 => (some (((iNot .u32 y0.1.1), ()), (), ())))
noncomputable def c72 : Con := ⟨i72, o72, fun x => F72 x.1.1⟩
theorem e72 (x : i72.E) : vfn TP C72 LO72 Try.f72 b72 i72 o72 x = c72.F x := by kernel_rfl
theorem c72_ok : Con.OK TP 72 c72 := (fn_ok C72_ok (fun _ => rfl) Try.func72 body72 (loops_of (l := [l72_3]) (by kernel_rfl) (show LoopsOK TP Try.f72.ntmps [l72_3] LO72 from ⟨k72_3_ok, trivial⟩)) i72 o72).congr fun x => (e72 x).symm
noncomputable def l51_1 : Code := (.seq (.seq (.region 1 (regOf Try.f51 1) false) (.cond (.tmp 6) .skip (.exit 0))) (.seq (.block 1 (.region 3 (regOf Try.f51 3) false)) (.region 2 (regOf Try.f51 2) false)))
noncomputable def b51 : Code := (.seq (.region 0 (regOf Try.f51 0) false) (.seq (.block 0 (.loop l51_1)) (.seq (.region 4 (regOf Try.f51 4) false) .ret)))
theorem body51 : Try.f51.body = some b51 := by kernel_rfl
noncomputable def C51_1 : Tab := []
theorem C51_1_ok : TabOK TP C51_1 := trivial
noncomputable def LO51_1 : Tab := []
noncomputable def i51_1 : Tm := { sl := [(0, .o 0), (1, .v (.i .u64))], bx := [], bf := [(.i .u8)] }
noncomputable def o51_1 : OT := (.exit 0 { sl := [(0, .o 0), (1, .v (.i .u64))], bx := [], bf := [(.i .u8)] })
noncomputable def T51_1 (a1 : Int) (q0 : (List Int)) : Option (((Unit × (Int × Unit)) × Unit × ((List Int) × Unit)) ⊕ ((Unit × (Int × Unit)) × Unit × ((List Int) × Unit))) :=
 (bif (decide (a1 ≥ 128)) then (bif (decide (q0.length + ([(iOr .u8 (IntKind.wrap .u8 a1) 128)]).length < lim)) then (some (.inl (((), (iShr .u64 a1 7), ()), (), ((q0 ++ [(iOr .u8 (IntKind.wrap .u8 a1) 128)]), ())))) else none) else (some (.inr (((), a1, ()), (), (q0, ())))))
noncomputable def L51_1 (a1 : Int) (q0 : (List Int)) : Option ((Unit × (Int × Unit)) × Unit × ((List Int) × Unit)) := loopF (fun x : ((Unit × (Int × Unit)) × Unit × ((List Int) × Unit)) => T51_1 x.1.2.1 x.2.2.1) (((), a1, ()), (), (q0, ()))
theorem L51_1_eq (a1 : Int) (q0 : (List Int)) : L51_1 a1 q0 = (T51_1 a1 q0).bind (Sum.elim (fun x => L51_1 x.1.2.1 x.2.2.1) some) := loopF_eq _ _
noncomputable def k51_1 : Con := ⟨i51_1, o51_1, fun x => L51_1 x.1.2.1 x.2.2.1⟩
theorem e51_1 (x : i51_1.E) : vround TP C51_1 LO51_1 Try.f51.ntmps l51_1 i51_1 o51_1 x = T51_1 x.1.2.1 x.2.2.1 := by kernel_rfl
theorem k51_1_ok : Con.LOK TP Try.f51.ntmps l51_1 k51_1 := (loop_ok C51_1_ok (noL (by kernel_rfl)) i51_1 o51_1).congr fun x => (congrArg (fun T => loopF T x) (funext e51_1)).symm
noncomputable def C51 : Tab := []
theorem C51_ok : TabOK TP C51 := trivial
noncomputable def LO51 : Tab := [(1, k51_1)]
noncomputable def i51 : Tm := { sl := [(0, .o 0), (1, .v (.i .u64))], bx := [], bf := [(.i .u8)] }
noncomputable def o51 : OT := (.ret { sl := [(0, .o 0)], bx := [], bf := [(.i .u8)] })
noncomputable def F51 (a1 : Int) (q0 : (List Int)) : Option ((Unit × Unit) × Unit × ((List Int) × Unit)) :=
 ((L51_1 a1 q0).bind fun y0 => (bif (decide (y0.2.2.1.length + ([(IntKind.wrap .u8 y0.1.2.1)]).length < lim)) then (some (((), ()), (), ((y0.2.2.1 ++ [(IntKind.wrap .u8 y0.1.2.1)]), ()))) else none))
noncomputable def c51 : Con := ⟨i51, o51, fun x => F51 x.1.2.1 x.2.2.1⟩
theorem e51 (x : i51.E) : vfn TP C51 LO51 Try.f51 b51 i51 o51 x = c51.F x := by kernel_rfl
theorem c51_ok : Con.OK TP 51 c51 := (fn_ok C51_ok (fun _ => rfl) Try.func51 body51 (loops_of (l := [l51_1]) (by kernel_rfl) (show LoopsOK TP Try.f51.ntmps [l51_1] LO51 from ⟨k51_1_ok, trivial⟩)) i51 o51).congr fun x => (e51 x).symm
noncomputable def b52 : Code := (.seq (.region 0 (regOf Try.f52 0) false) (.seq (.region 1 (regOf Try.f52 1) false) .ret))
theorem body52 : Try.f52.body = some b52 := by kernel_rfl
noncomputable def C52 : Tab := [(51, c51)]
theorem C52_ok : TabOK TP C52 := ⟨c51_ok, trivial⟩
noncomputable def LO52 : Tab := []
noncomputable def i52 : Tm := { sl := [(0, .o 0), (1, .v (.l (.i .u8)))], bx := [], bf := [(.i .u8)] }
noncomputable def o52 : OT := (.ret { sl := [(0, .o 0)], bx := [], bf := [(.i .u8)] })
noncomputable def F52 (a1 : (List Int)) (q0 : (List Int)) : Option ((Unit × Unit) × Unit × ((List Int) × Unit)) :=
 ((F51 (IntKind.wrap .u64 ((a1.length : Nat) : Int)) q0).bind fun y0 => (bif (decide (y0.2.2.1.length + a1.length < lim)) then (some (((), ()), (), ((y0.2.2.1 ++ a1), ()))) else none))
noncomputable def c52 : Con := ⟨i52, o52, fun x => F52 x.1.2.1 x.2.2.1⟩
theorem e52 (x : i52.E) : vfn TP C52 LO52 Try.f52 b52 i52 o52 x = c52.F x := by kernel_rfl
theorem c52_ok : Con.OK TP 52 c52 := (fn_ok C52_ok (fun _ => rfl) Try.func52 body52 (noL (by kernel_rfl)) i52 o52).congr fun x => (e52 x).symm
noncomputable def b71 : Code := (.seq (.region 0 (regOf Try.f71 0) false) (.seq (.region 1 (regOf Try.f71 1) false) .ret))
theorem body71 : Try.f71.body = some b71 := by kernel_rfl
noncomputable def C71 : Tab := []
theorem C71_ok : TabOK TP C71 := trivial
noncomputable def LO71 : Tab := []
noncomputable def i71 : Tm := { sl := [(0, .v (.i .u32))], bx := [], bf := [] }
noncomputable def o71 : OT := (.ret { sl := [(0, .v (.l (.i .u8)))], bx := [], bf := [] })
noncomputable def F71 (a0 : Int) : Option (((List Int) × Unit) × Unit × Unit) :=
 (some (([(IntKind.wrap .u8 (iShr .u32 a0 24)), (IntKind.wrap .u8 (iShr .u32 a0 16)), (IntKind.wrap .u8 (iShr .u32 a0 8)), (IntKind.wrap .u8 a0)], ()), (), ()))
noncomputable def c71 : Con := ⟨i71, o71, fun x => F71 x.1.1⟩
theorem e71 (x : i71.E) : vfn TP C71 LO71 Try.f71 b71 i71 o71 x = c71.F x := by kernel_rfl
theorem c71_ok : Con.OK TP 71 c71 := (fn_ok C71_ok (fun _ => rfl) Try.func71 body71 (noL (by kernel_rfl)) i71 o71).congr fun x => (e71 x).symm
noncomputable def b49 : Code := (.seq (.region 0 (regOf Try.f49 0) false) (.seq (.region 1 (regOf Try.f49 1) false) (.seq (.region 2 (regOf Try.f49 2) false) .ret)))
theorem body49 : Try.f49.body = some b49 := by kernel_rfl
noncomputable def C49 : Tab := [(52, c52), (71, c71), (72, c72)]
theorem C49_ok : TabOK TP C49 := ⟨c52_ok, c71_ok, c72_ok, trivial⟩
noncomputable def LO49 : Tab := []
noncomputable def i49 : Tm := { sl := [(0, .v (.l (.i .u8)))], bx := [], bf := [] }
noncomputable def o49 : OT := (.ret { sl := [(0, .o 0)], bx := [], bf := [(.i .u8)] })
noncomputable def F49 (a0 : (List Int)) : Option ((Unit × Unit) × Unit × ((List Int) × Unit)) :=
 ((F52 a0 ([] : List Int)).bind fun y0 => ((F72 y0.2.2.1).bind fun y1 => ((F71 y1.1.1).bind fun y2 => (bif (decide (y0.2.2.1.length + y2.1.1.length < lim)) then (some (((), ()), (), ((y0.2.2.1 ++ y2.1.1), ()))) else none))))
noncomputable def c49 : Con := ⟨i49, o49, fun x => F49 x.1.1⟩
theorem e49 (x : i49.E) : vfn TP C49 LO49 Try.f49 b49 i49 o49 x = c49.F x := by kernel_rfl
theorem c49_ok : Con.OK TP 49 c49 := (fn_ok C49_ok (fun _ => rfl) Try.func49 body49 (noL (by kernel_rfl)) i49 o49).congr fun x => (e49 x).symm
noncomputable def l80_3 : Code := (.seq (.region 3 (regOf Try.f80 3) false) (.seq (.cond (.tmp 11) .skip (.exit 0)) (.seq (.block 1 (.seq (.region 4 (regOf Try.f80 4) false) (.seq (.block 2 (.seq (.seq (.region 5 (regOf Try.f80 5) false) (.cond (.tmp 15) .skip (.region 6 (regOf Try.f80 6) false))) (.cond (.tmp 15) (.seq (.region 7 (regOf Try.f80 7) false) .ret) .skip))) (.seq (.region 8 (regOf Try.f80 8) false) (.seq (.region 9 (regOf Try.f80 9) false) (.cond (.tmp 38) (.seq (.region 10 (regOf Try.f80 10) true) .ret) .skip)))))) (.region 11 (regOf Try.f80 11) false))))
noncomputable def b80 : Code := (.seq (.region 0 (regOf Try.f80 0) false) (.seq (.region 1 (regOf Try.f80 1) false) (.seq (.seq (.region 2 (regOf Try.f80 2) false) (.block 0 (.loop l80_3))) (.seq (.region 12 (regOf Try.f80 12) false) .ret))))
theorem body80 : Try.f80.body = some b80 := by kernel_rfl
noncomputable def C80_3 : Tab := []
theorem C80_3_ok : TabOK TP C80_3 := trivial
noncomputable def LO80_3 : Tab := []
noncomputable def i80_3 : Tm := { sl := [(0, .v (.l (.i .u8))), (5, .v (.i .u64)), (8, .v (.l (.i .u8))), (9, .v (.i .i64)), (10, .v (.i .i64))], bx := [], bf := [] }
noncomputable def o80_3 : OT := (.two (.ret { sl := [(2, .v (.i .u64)), (3, .v (.l (.i .u8))), (4, .v (.i .i64))], bx := [], bf := [] }) (.exit 0 { sl := [], bx := [], bf := [] }))
noncomputable def T80_3 (a0 : (List Int)) (a5 : Int) (a8 : (List Int)) (a9 : Int) (a10 : Int) : Option ((((List Int) × (Int × ((List Int) × (Int × (Int × Unit))))) × Unit × Unit) ⊕ ((DRw × Unit × Unit) ⊕ (Unit × Unit × Unit))) :=
 (bif (decide (a10 < a9)) then (bif (decide (0 ≤ a10 ∧ a10 < ((a8.length : Nat) : Int))) then (bif (a10 == 9) then (bif (decide ((((a8).getD a10.toNat (0 : Int)) : Int) > 1)) then (some (.inr (.inl ((0, a0, 4, ()), (), ())))) else (bif (decide (a10 > 0)) then (bif ((((a8).getD a10.toNat (0 : Int)) : Int) == 0) then (some (.inr (.inl ((0, a0, 4, ()), (), ())))) else (bif (decide ((0 : Int) ≤ (IntKind.wrap .i64 (7 * a10)))) then (bif (decide ((((a8).getD a10.toNat (0 : Int)) : Int) < 128)) then (bif (decide (0 ≤ ((IntKind.wrap .i64 (a10 + 1)) : Int) ∧ ((IntKind.wrap .i64 (a10 + 1)) : Int) ≤ ((a0.length : Nat) : Int))) then (some (.inr (.inl (((iOr .u64 a5 (iShl .u64 (IntKind.wrap .u64 (iAnd .u8 ((a8).getD a10.toNat (0 : Int)) 127)) (IntKind.wrap .i64 (7 * a10)))), ((a0).drop ((IntKind.wrap .i64 (a10 + 1)) : Int).toNat), 0, ()), (), ())))) else none) else (some (.inl ((a0, (iOr .u64 a5 (iShl .u64 (IntKind.wrap .u64 (iAnd .u8 ((a8).getD a10.toNat (0 : Int)) 127)) (IntKind.wrap .i64 (7 * a10)))), a8, a9, (IntKind.wrap .i64 (a10 + 1)), ()), (), ())))) else none)) else (bif (decide ((0 : Int) ≤ (IntKind.wrap .i64 (7 * a10)))) then (bif (decide ((((a8).getD a10.toNat (0 : Int)) : Int) < 128)) then (bif (decide (0 ≤ ((IntKind.wrap .i64 (a10 + 1)) : Int) ∧ ((IntKind.wrap .i64 (a10 + 1)) : Int) ≤ ((a0.length : Nat) : Int))) then (some (.inr (.inl (((iOr .u64 a5 (iShl .u64 (IntKind.wrap .u64 (iAnd .u8 ((a8).getD a10.toNat (0 : Int)) 127)) (IntKind.wrap .i64 (7 * a10)))), ((a0).drop ((IntKind.wrap .i64 (a10 + 1)) : Int).toNat), 0, ()), (), ())))) else none) else (some (.inl ((a0, (iOr .u64 a5 (iShl .u64 (IntKind.wrap .u64 (iAnd .u8 ((a8).getD a10.toNat (0 : Int)) 127)) (IntKind.wrap .i64 (7 * a10)))), a8, a9, (IntKind.wrap .i64 (a10 + 1)), ()), (), ())))) else none))) else (bif (decide (a10 > 0)) then (bif ((((a8).getD a10.toNat (0 : Int)) : Int) == 0) then (some (.inr (.inl ((0, a0, 4, ()), (), ())))) else (bif (decide ((0 : Int) ≤ (IntKind.wrap .i64 (7 * a10)))) then (bif (decide ((((a8).getD a10.toNat (0 : Int)) : Int) < 128)) then (bif (decide (0 ≤ ((IntKind.wrap .i64 (a10 + 1)) : Int) ∧ ((IntKind.wrap .i64 (a10 + 1)) : Int) ≤ ((a0.length : Nat) : Int))) then (some (.inr (.inl (((iOr .u64 a5 (iShl .u64 (IntKind.wrap .u64 (iAnd .u8 ((a8).getD a10.toNat (0 : Int)) 127)) (IntKind.wrap .i64 (7 * a10)))), ((a0).drop ((IntKind.wrap .i64 (a10 + 1)) : Int).toNat), 0, ()), (), ())))) else none) else (some (.inl ((a0, (iOr .u64 a5 (iShl .u64 (IntKind.wrap .u64 (iAnd .u8 ((a8).getD a10.toNat (0 : Int)) 127)) (IntKind.wrap .i64 (7 * a10)))), a8, a9, (IntKind.wrap .i64 (a10 + 1)), ()), (), ())))) else none)) else (bif (decide ((0 : Int) ≤ (IntKind.wrap .i64 (7 * a10)))) then (bif (decide ((((a8).getD a10.toNat (0 : Int)) : Int) < 128)) then (bif (decide (0 ≤ ((IntKind.wrap .i64 (a10 + 1)) : Int) ∧ ((IntKind.wrap .i64 (a10 + 1)) : Int) ≤ ((a0.length : Nat) : Int))) then (some (.inr (.inl (((iOr .u64 a5 (iShl .u64 (IntKind.wrap .u64 (iAnd .u8 ((a8).getD a10.toNat (0 : Int)) 127)) (IntKind.wrap .i64 (7 * a10)))), ((a0).drop ((IntKind.wrap .i64 (a10 + 1)) : Int).toNat), 0, ()), (), ())))) else none) else (some (.inl ((a0, (iOr .u64 a5 (iShl .u64 (IntKind.wrap .u64 (iAnd .u8 ((a8).getD a10.toNat (0 : Int)) 127)) (IntKind.wrap .i64 (7 * a10)))), a8, a9, (IntKind.wrap .i64 (a10 + 1)), ()), (), ())))) else none))) else none) else (some (.inr (.inr ((), (), ())))))
noncomputable def L80_3 (a0 : (List Int)) (a5 : Int) (a8 : (List Int)) (a9 : Int) (a10 : Int) : Option ((DRw × Unit × Unit) ⊕ (Unit × Unit × Unit)) := loopF (fun x : (((List Int) × (Int × ((List Int) × (Int × (Int × Unit))))) × Unit × Unit) => T80_3 x.1.1 x.1.2.1 x.1.2.2.1 x.1.2.2.2.1 x.1.2.2.2.2.1) ((a0, a5, a8, a9, a10, ()), (), ())
theorem L80_3_eq (a0 : (List Int)) (a5 : Int) (a8 : (List Int)) (a9 : Int) (a10 : Int) : L80_3 a0 a5 a8 a9 a10 = (T80_3 a0 a5 a8 a9 a10).bind (Sum.elim (fun x => L80_3 x.1.1 x.1.2.1 x.1.2.2.1 x.1.2.2.2.1 x.1.2.2.2.2.1) some) := loopF_eq _ _
noncomputable def k80_3 : Con := ⟨i80_3, o80_3, fun x => L80_3 x.1.1 x.1.2.1 x.1.2.2.1 x.1.2.2.2.1 x.1.2.2.2.2.1⟩
theorem e80_3 (x : i80_3.E) : vround TP C80_3 LO80_3 Try.f80.ntmps l80_3 i80_3 o80_3 x = T80_3 x.1.1 x.1.2.1 x.1.2.2.1 x.1.2.2.2.1 x.1.2.2.2.2.1 := by kernel_rfl
theorem k80_3_ok : Con.LOK TP Try.f80.ntmps l80_3 k80_3 := (loop_ok C80_3_ok (noL (by kernel_rfl)) i80_3 o80_3).congr fun x => (congrArg (fun T => loopF T x) (funext e80_3)).symm
noncomputable def C80 : Tab := []
theorem C80_ok : TabOK TP C80 := trivial
noncomputable def LO80 : Tab := [(3, k80_3)]
noncomputable def i80 : Tm := { sl := [(0, .v (.l (.i .u8)))], bx := [], bf := [] }
noncomputable def o80 : OT := (.ret { sl := [(0, .v (.i .u64)), (1, .v (.l (.i .u8))), (2, .v (.i .i64))], bx := [], bf := [] })
noncomputable def F80 (a0 : (List Int)) : Option (DRw × Unit × Unit) :=
 ((L80_3 a0 0 a0 ((a0.length : Nat) : Int) 0).bind fun y0 => (Sum.elim (fun y1 => (some ((y1.1.1, y1.1.2.1, y1.1.2.2.1, ()), (), ()))) (fun y1 => (some ((0, a0, 5, ()), (), ()))) y0))
noncomputable def c80 : Con := ⟨i80, o80, fun x => F80 x.1.1⟩
theorem e80 (x : i80.E) : vfn TP C80 LO80 Try.f80 b80 i80 o80 x = c80.F x := by kernel_rfl
theorem c80_ok : Con.OK TP 80 c80 := (fn_ok C80_ok (fun _ => rfl) Try.func80 body80 (loops_of (l := [l80_3]) (by kernel_rfl) (show LoopsOK TP Try.f80.ntmps [l80_3] LO80 from ⟨k80_3_ok, trivial⟩)) i80 o80).congr fun x => (e80 x).symm
noncomputable def b70 : Code := (.seq (.region 0 (regOf Try.f70 0) false) (.seq (.region 1 (regOf Try.f70 1) false) (.seq (.block 0 (.seq (.region 2 (regOf Try.f70 2) false) (.cond (.tmp 16) (.seq (.region 3 (regOf Try.f70 3) false) .ret) (.seq (.region 4 (regOf Try.f70 4) false) (.cond (.tmp 21) (.seq (.region 5 (regOf Try.f70 5) false) .ret) (.seq (.region 6 (regOf Try.f70 6) false) (.cond (.tmp 31) (.seq (.region 7 (regOf Try.f70 7) false) .ret) .skip))))))) (.seq (.region 8 (regOf Try.f70 8) true) .ret))))
theorem body70 : Try.f70.body = some b70 := by kernel_rfl
noncomputable def C70 : Tab := [(80, c80)]
theorem C70_ok : TabOK TP C70 := ⟨c80_ok, trivial⟩
noncomputable def LO70 : Tab := []
noncomputable def i70 : Tm := { sl := [(0, .v (.l (.i .u8))), (1, .v (.i .i64))], bx := [], bf := [] }
noncomputable def o70 : OT := (.ret { sl := [(0, .v (.l (.i .u8))), (1, .v (.l (.i .u8))), (2, .v (.i .i64))], bx := [], bf := [] })
noncomputable def F70 (a0 : (List Int)) (a1 : Int) : Option (((List Int) × ((List Int) × (Int × Unit))) × Unit × Unit) :=
 ((F80 a0).bind fun y0 => (bif (y0.1.2.2.1 != 0) then (some ((([] : List Int), a0, y0.1.2.2.1, ()), (), ())) else (bif (decide (a1 < 0)) then (some ((([] : List Int), a0, 6, ()), (), ())) else (bif (decide (y0.1.1 > (IntKind.wrap .u64 a1))) then (some ((([] : List Int), a0, 6, ()), (), ())) else (bif (decide (y0.1.1 > (IntKind.wrap .u64 ((y0.1.2.1.length : Nat) : Int)))) then (some ((([] : List Int), a0, 5, ()), (), ())) else (bif (decide (0 ≤ y0.1.1 ∧ y0.1.1 ≤ ((y0.1.2.1.length : Nat) : Int))) then (bif (decide ((((y0.1.2.1).take y0.1.1.toNat)).length < lim)) then (bif (decide (0 ≤ y0.1.1 ∧ y0.1.1 ≤ ((y0.1.2.1.length : Nat) : Int))) then (some ((((y0.1.2.1).take y0.1.1.toNat), ((y0.1.2.1).drop y0.1.1.toNat), 0, ()), (), ())) else none) else none) else none))))))
noncomputable def c70 : Con := ⟨i70, o70, fun x => F70 x.1.1 x.1.2.1⟩
theorem e70 (x : i70.E) : vfn TP C70 LO70 Try.f70 b70 i70 o70 x = c70.F x := by kernel_rfl
theorem c70_ok : Con.OK TP 70 c70 := (fn_ok C70_ok (fun _ => rfl) Try.func70 body70 (noL (by kernel_rfl)) i70 o70).congr fun x => (e70 x).symm
noncomputable def b37 : Code := (.seq (.region 0 (regOf Try.f37 0) false) (.seq (.region 1 (regOf Try.f37 1) false) (.seq (.block 0 (.seq (.region 2 (regOf Try.f37 2) false) (.cond (.tmp 17) (.seq (.region 3 (regOf Try.f37 3) false) .ret) (.seq (.region 4 (regOf Try.f37 4) false) (.cond (.tmp 22) (.seq (.region 5 (regOf Try.f37 5) false) .ret) (.seq (.region 6 (regOf Try.f37 6) true) (.cond (.tmp 27) (.seq (.region 7 (regOf Try.f37 7) false) .ret) .skip))))))) (.seq (.region 8 (regOf Try.f37 8) true) .ret))))
theorem body37 : Try.f37.body = some b37 := by kernel_rfl
noncomputable def C37 : Tab := [(70, c70), (71, c71), (72, c72)]
theorem C37_ok : TabOK TP C37 := ⟨c70_ok, c71_ok, c72_ok, trivial⟩
noncomputable def LO37 : Tab := []
noncomputable def i37 : Tm := { sl := [(0, .v (.l (.i .u8))), (1, .v (.i .i64))], bx := [], bf := [] }
noncomputable def o37 : OT := (.ret { sl := [(0, .v (.l (.i .u8))), (1, .v (.l (.i .u8))), (2, .v (.i .i64))], bx := [], bf := [] })
noncomputable def F37 (a0 : (List Int)) (a1 : Int) : Option (((List Int) × ((List Int) × (Int × Unit))) × Unit × Unit) :=
 ((F70 a0 a1).bind fun y0 => (bif (y0.1.2.2.1 != 0) then (some ((([] : List Int), a0, y0.1.2.2.1, ()), (), ())) else (bif (decide (((y0.1.2.1.length : Nat) : Int) < 4)) then (some ((([] : List Int), a0, 5, ()), (), ())) else (bif (decide (0 ≤ ((IntKind.wrap .i64 (((a0.length : Nat) : Int) - ((y0.1.2.1.length : Nat) : Int))) : Int) ∧ ((IntKind.wrap .i64 (((a0.length : Nat) : Int) - ((y0.1.2.1.length : Nat) : Int))) : Int) ≤ ((a0.length : Nat) : Int))) then ((F72 ((a0).take ((IntKind.wrap .i64 (((a0.length : Nat) : Int) - ((y0.1.2.1.length : Nat) : Int))) : Int).toNat)).bind fun y1 => ((F71 y1.1.1).bind fun y2 => (bif (decide (0 ≤ (4 : Int) ∧ (4 : Int) ≤ ((y0.1.2.1.length : Nat) : Int))) then (bif (!(((strL y2.1.1) : ByteArray).toList == ((strL ((y0.1.2.1).take (4 : Int).toNat)) : ByteArray).toList)) then (some ((([] : List Int), a0, 4, ()), (), ())) else (bif (decide (0 ≤ (4 : Int) ∧ (4 : Int) ≤ ((y0.1.2.1.length : Nat) : Int))) then (some ((y0.1.1, ((y0.1.2.1).drop (4 : Int).toNat), 0, ()), (), ())) else none)) else none))) else none))))
noncomputable def c37 : Con := ⟨i37, o37, fun x => F37 x.1.1 x.1.2.1⟩
theorem e37 (x : i37.E) : vfn TP C37 LO37 Try.f37 b37 i37 o37 x = c37.F x := by kernel_rfl
theorem c37_ok : Con.OK TP 37 c37 := (fn_ok C37_ok (fun _ => rfl) Try.func37 body37 (noL (by kernel_rfl)) i37 o37).congr fun x => (e37 x).symm
noncomputable def b79 : Code := (.seq (.region 0 (regOf Try.f79 0) false) (.seq (.seq (.region 1 (regOf Try.f79 1) false) (.cond (.tmp 4) (.seq (.region 2 (regOf Try.f79 2) false) .ret) .skip)) (.seq (.region 3 (regOf Try.f79 3) false) .ret)))
theorem body79 : Try.f79.body = some b79 := by kernel_rfl
noncomputable def C79 : Tab := []
theorem C79_ok : TabOK TP C79 := trivial
noncomputable def LO79 : Tab := []
noncomputable def i79 : Tm := { sl := [(0, .v (.l (.i .u64)))], bx := [], bf := [] }
noncomputable def o79 : OT := (.ret { sl := [(0, .v (.l (.i .u64)))], bx := [], bf := [] })
noncomputable def F79 (a0 : (List Int)) : Option (((List Int) × Unit) × Unit × Unit) :=
 (nilBr a0.length (some ((([] : List Int), ()), (), ())) (bif (decide ((([] : List Int)).length + a0.length < lim)) then (some (((([] : List Int) ++ a0), ()), (), ())) else none))
noncomputable def c79 : Con := ⟨i79, o79, fun x => F79 x.1.1⟩
theorem e79 (x : i79.E) : vfn TP C79 LO79 Try.f79 b79 i79 o79 x = c79.F x := by kernel_rfl
theorem c79_ok : Con.OK TP 79 c79 := (fn_ok C79_ok (fun _ => rfl) Try.func79 body79 (noL (by kernel_rfl)) i79 o79).congr fun x => (e79 x).symm
noncomputable def b55 : Code := (.seq (.region 0 (regOf Try.f55 0) false) (.seq (.seq (.region 1 (regOf Try.f55 1) false) (.cond (.tmp 12) (.seq (.region 2 (regOf Try.f55 2) false) .ret) .skip)) (.seq (.region 3 (regOf Try.f55 3) false) .ret)))
theorem body55 : Try.f55.body = some b55 := by kernel_rfl
noncomputable def C55 : Tab := []
theorem C55_ok : TabOK TP C55 := trivial
noncomputable def LO55 : Tab := []
noncomputable def i55 : Tm := { sl := [(0, .v (.l (.i .u64))), (1, .v (.i .i64))], bx := [], bf := [] }
noncomputable def o55 : OT := (.ret { sl := [(0, .v (.i .u64))], bx := [], bf := [] })
noncomputable def F55 (a0 : (List Int)) (a1 : Int) : Option ((Int × Unit) × Unit × Unit) :=
 (bif (decide (a1 < 0)) then (some ((0, ()), (), ())) else (bif (decide (a1 ≥ ((a0.length : Nat) : Int))) then (some ((0, ()), (), ())) else (bif (decide (0 ≤ a1 ∧ a1 < ((a0.length : Nat) : Int))) then (some ((((a0).getD a1.toNat (0 : Int)), ()), (), ())) else none)))
noncomputable def c55 : Con := ⟨i55, o55, fun x => F55 x.1.1 x.1.2.1⟩
theorem e55 (x : i55.E) : vfn TP C55 LO55 Try.f55 b55 i55 o55 x = c55.F x := by kernel_rfl
theorem c55_ok : Con.OK TP 55 c55 := (fn_ok C55_ok (fun _ => rfl) Try.func55 body55 (noL (by kernel_rfl)) i55 o55).congr fun x => (e55 x).symm
noncomputable def l62_2 : Code := (.seq (.seq (.region 2 (regOf Try.f62 2) false) (.cond (.tmp 15) .skip (.exit 0))) (.block 1 (.region 3 (regOf Try.f62 3) false)))
noncomputable def b62 : Code := (.seq (.region 0 (regOf Try.f62 0) false) (.seq (.region 1 (regOf Try.f62 1) false) (.seq (.block 0 (.loop l62_2)) (.seq (.region 4 (regOf Try.f62 4) false) .ret))))
theorem body62 : Try.f62.body = some b62 := by kernel_rfl
noncomputable def C62_2 : Tab := []
theorem C62_2_ok : TabOK TP C62_2 := trivial
noncomputable def LO62_2 : Tab := []
noncomputable def i62_2 : Tm := { sl := [(0, .v (.l (.i .u64))), (3, .v (.i .i64))], bx := [], bf := [] }
noncomputable def o62_2 : OT := (.exit 0 { sl := [(3, .v (.i .i64))], bx := [], bf := [] })
noncomputable def T62_2 (a0 : (List Int)) (a3 : Int) : Option ((((List Int) × (Int × Unit)) × Unit × Unit) ⊕ ((Int × Unit) × Unit × Unit)) :=
 (bif (decide (a3 > 0)) then (bif (decide (0 ≤ ((IntKind.wrap .i64 (a3 - 1)) : Int) ∧ ((IntKind.wrap .i64 (a3 - 1)) : Int) < ((a0.length : Nat) : Int))) then (bif ((((a0).getD ((IntKind.wrap .i64 (a3 - 1)) : Int).toNat (0 : Int)) : Int) == 0) then (some (.inl ((a0, (IntKind.wrap .i64 (a3 - 1)), ()), (), ()))) else (some (.inr ((a3, ()), (), ())))) else none) else (some (.inr ((a3, ()), (), ()))))
noncomputable def L62_2 (a0 : (List Int)) (a3 : Int) : Option ((Int × Unit) × Unit × Unit) := loopF (fun x : (((List Int) × (Int × Unit)) × Unit × Unit) => T62_2 x.1.1 x.1.2.1) ((a0, a3, ()), (), ())
theorem L62_2_eq (a0 : (List Int)) (a3 : Int) : L62_2 a0 a3 = (T62_2 a0 a3).bind (Sum.elim (fun x => L62_2 x.1.1 x.1.2.1) some) := loopF_eq _ _
noncomputable def k62_2 : Con := ⟨i62_2, o62_2, fun x => L62_2 x.1.1 x.1.2.1⟩
theorem e62_2 (x : i62_2.E) : vround TP C62_2 LO62_2 Try.f62.ntmps l62_2 i62_2 o62_2 x = T62_2 x.1.1 x.1.2.1 := by kernel_rfl
theorem k62_2_ok : Con.LOK TP Try.f62.ntmps l62_2 k62_2 := (loop_ok C62_2_ok (noL (by kernel_rfl)) i62_2 o62_2).congr fun x => (congrArg (fun T => loopF T x) (funext e62_2)).symm
noncomputable def C62 : Tab := [(79, c79)]
theorem C62_ok : TabOK TP C62 := ⟨c79_ok, trivial⟩
noncomputable def LO62 : Tab := [(2, k62_2)]
noncomputable def i62 : Tm := { sl := [(0, .v (.l (.i .u64)))], bx := [], bf := [] }
noncomputable def o62 : OT := (.ret { sl := [(0, .v (.l (.i .u64)))], bx := [], bf := [] })
noncomputable def F62 (a0 : (List Int)) : Option (((List Int) × Unit) × Unit × Unit) :=
 ((L62_2 a0 ((a0.length : Nat) : Int)).bind fun y0 => (bif (decide (0 ≤ y0.1.1 ∧ y0.1.1 ≤ ((a0.length : Nat) : Int))) then ((F79 ((a0).take y0.1.1.toNat)).bind fun y1 => (some ((y1.1.1, ()), (), ()))) else none))
noncomputable def c62 : Con := ⟨i62, o62, fun x => F62 x.1.1⟩
theorem e62 (x : i62.E) : vfn TP C62 LO62 Try.f62 b62 i62 o62 x = c62.F x := by kernel_rfl
theorem c62_ok : Con.OK TP 62 c62 := (fn_ok C62_ok (fun _ => rfl) Try.func62 body62 (loops_of (l := [l62_2]) (by kernel_rfl) (show LoopsOK TP Try.f62.ntmps [l62_2] LO62 from ⟨k62_2_ok, trivial⟩)) i62 o62).congr fun x => (e62 x).symm
noncomputable def l53_4 : Code := (.seq (.region 4 (regOf Try.f53 4) false) (.seq (.cond (.tmp 17) .skip (.exit 0)) (.seq (.block 1 (.seq (.region 5 (regOf Try.f53 5) false) (.region 6 (regOf Try.f53 6) false))) (.region 7 (regOf Try.f53 7) false))))
noncomputable def b53 : Code := (.seq (.region 0 (regOf Try.f53 0) false) (.seq (.region 1 (regOf Try.f53 1) false) (.seq (.region 2 (regOf Try.f53 2) false) (.seq (.seq (.region 3 (regOf Try.f53 3) false) (.block 0 (.loop l53_4))) (.seq (.region 8 (regOf Try.f53 8) false) .ret)))))
theorem body53 : Try.f53.body = some b53 := by kernel_rfl
noncomputable def C53_4 : Tab := [(51, c51)]
theorem C53_4_ok : TabOK TP C53_4 := ⟨c51_ok, trivial⟩
noncomputable def LO53_4 : Tab := []
noncomputable def i53_4 : Tm := { sl := [(1, .o 0), (14, .v (.l (.i .u64))), (15, .v (.i .i64)), (16, .v (.i .i64))], bx := [], bf := [(.i .u8)] }
noncomputable def o53_4 : OT := (.exit 0 { sl := [(1, .o 0)], bx := [], bf := [(.i .u8)] })
noncomputable def T53_4 (a14 : (List Int)) (a15 : Int) (a16 : Int) (q0 : (List Int)) : Option (((Unit × ((List Int) × (Int × (Int × Unit)))) × Unit × ((List Int) × Unit)) ⊕ ((Unit × Unit) × Unit × ((List Int) × Unit))) :=
 (bif (decide (a16 < a15)) then (bif (decide (0 ≤ a16 ∧ a16 < ((a14.length : Nat) : Int))) then ((F51 ((a14).getD a16.toNat (0 : Int)) q0).bind fun y0 => (some (.inl (((), a14, a15, (IntKind.wrap .i64 (a16 + 1)), ()), (), (y0.2.2.1, ()))))) else none) else (some (.inr (((), ()), (), (q0, ())))))
noncomputable def L53_4 (a14 : (List Int)) (a15 : Int) (a16 : Int) (q0 : (List Int)) : Option ((Unit × Unit) × Unit × ((List Int) × Unit)) := loopF (fun x : ((Unit × ((List Int) × (Int × (Int × Unit)))) × Unit × ((List Int) × Unit)) => T53_4 x.1.2.1 x.1.2.2.1 x.1.2.2.2.1 x.2.2.1) (((), a14, a15, a16, ()), (), (q0, ()))
theorem L53_4_eq (a14 : (List Int)) (a15 : Int) (a16 : Int) (q0 : (List Int)) : L53_4 a14 a15 a16 q0 = (T53_4 a14 a15 a16 q0).bind (Sum.elim (fun x => L53_4 x.1.2.1 x.1.2.2.1 x.1.2.2.2.1 x.2.2.1) some) := loopF_eq _ _
noncomputable def k53_4 : Con := ⟨i53_4, o53_4, fun x => L53_4 x.1.2.1 x.1.2.2.1 x.1.2.2.2.1 x.2.2.1⟩
theorem e53_4 (x : i53_4.E) : vround TP C53_4 LO53_4 Try.f53.ntmps l53_4 i53_4 o53_4 x = T53_4 x.1.2.1 x.1.2.2.1 x.1.2.2.2.1 x.2.2.1 := by kernel_rfl
theorem k53_4_ok : Con.LOK TP Try.f53.ntmps l53_4 k53_4 := (loop_ok C53_4_ok (noL (by kernel_rfl)) i53_4 o53_4).congr fun x => (congrArg (fun T => loopF T x) (funext e53_4)).symm
noncomputable def C53 : Tab := [(51, c51), (62, c62)]
theorem C53_ok : TabOK TP C53 := ⟨c51_ok, c62_ok, trivial⟩
noncomputable def LO53 : Tab := [(4, k53_4)]
noncomputable def i53 : Tm := { sl := [(0, .v (.l (.i .u64))), (1, .o 0)], bx := [], bf := [(.i .u8)] }
noncomputable def o53 : OT := (.ret { sl := [(0, .o 0)], bx := [], bf := [(.i .u8)] })
noncomputable def F53 (a0 : (List Int)) (q0 : (List Int)) : Option ((Unit × Unit) × Unit × ((List Int) × Unit)) :=
 ((F62 a0).bind fun y0 => ((F51 (IntKind.wrap .u64 ((y0.1.1.length : Nat) : Int)) q0).bind fun y1 => ((L53_4 y0.1.1 ((y0.1.1.length : Nat) : Int) 0 y1.2.2.1).bind fun y2 => (some (((), ()), (), (y2.2.2.1, ()))))))
noncomputable def c53 : Con := ⟨i53, o53, fun x => F53 x.1.1 x.2.2.1⟩
theorem e53 (x : i53.E) : vfn TP C53 LO53 Try.f53 b53 i53 o53 x = c53.F x := by kernel_rfl
theorem c53_ok : Con.OK TP 53 c53 := (fn_ok C53_ok (fun _ => rfl) Try.func53 body53 (loops_of (l := [l53_4]) (by kernel_rfl) (show LoopsOK TP Try.f53.ntmps [l53_4] LO53 from ⟨k53_4_ok, trivial⟩)) i53 o53).congr fun x => (e53 x).symm
noncomputable def b82 : Code := (.seq (.region 0 (regOf Try.f82 0) false) (.seq (.seq (.region 1 (regOf Try.f82 1) false) (.cond (.tmp 12) (.seq (.region 2 (regOf Try.f82 2) false) .ret) .skip)) (.seq (.region 3 (regOf Try.f82 3) false) .ret)))
theorem body82 : Try.f82.body = some b82 := by kernel_rfl
noncomputable def C82 : Tab := []
theorem C82_ok : TabOK TP C82 := trivial
noncomputable def LO82 : Tab := []
noncomputable def i82 : Tm := { sl := [(0, .v (.l (.i .u64))), (1, .v (.i .i64))], bx := [], bf := [] }
noncomputable def o82 : OT := (.ret { sl := [(0, .v (.i .u64))], bx := [], bf := [] })
noncomputable def F82 (a0 : (List Int)) (a1 : Int) : Option ((Int × Unit) × Unit × Unit) :=
 (bif (decide (a1 < 0)) then (some ((0, ()), (), ())) else (bif (decide (a1 ≥ ((a0.length : Nat) : Int))) then (some ((0, ()), (), ())) else (bif (decide (0 ≤ a1 ∧ a1 < ((a0.length : Nat) : Int))) then (some ((((a0).getD a1.toNat (0 : Int)), ()), (), ())) else none)))
noncomputable def c82 : Con := ⟨i82, o82, fun x => F82 x.1.1 x.1.2.1⟩
theorem e82 (x : i82.E) : vfn TP C82 LO82 Try.f82 b82 i82 o82 x = c82.F x := by kernel_rfl
theorem c82_ok : Con.OK TP 82 c82 := (fn_ok C82_ok (fun _ => rfl) Try.func82 body82 (noL (by kernel_rfl)) i82 o82).congr fun x => (e82 x).symm
noncomputable def b81 : Code := (.seq (.region 0 (regOf Try.f81 0) false) (.cond (.tmp 3) (.region 1 (regOf Try.f81 1) false) .skip))
theorem body81 : Try.f81.body = some b81 := by kernel_rfl
noncomputable def C81 : Tab := []
theorem C81_ok : TabOK TP C81 := trivial
noncomputable def LO81 : Tab := []
noncomputable def i81 : Tm := { sl := [(0, .v (.i .i64))], bx := [], bf := [] }
noncomputable def o81 : OT := (.two (.ret { sl := [], bx := [], bf := [] }) (.pnc 130 .i64 { sl := [], bx := [], bf := [] }))
noncomputable def F81 (a0 : Int) : Option ((Unit × Unit × Unit) ⊕ (Int × (Unit × Unit × Unit))) :=
 (bif (a0 != 0) then (some (.inr (a0, ((), (), ())))) else (some (.inl ((), (), ()))))
noncomputable def c81 : Con := ⟨i81, o81, fun x => F81 x.1.1⟩
theorem e81 (x : i81.E) : vfn TP C81 LO81 Try.f81 b81 i81 o81 x = c81.F x := by kernel_rfl
theorem c81_ok : Con.OK TP 81 c81 := (fn_ok C81_ok (fun _ => rfl) Try.func81 body81 (noL (by kernel_rfl)) i81 o81).congr fun x => (e81 x).symm
noncomputable def b57 : Code := (.seq (.region 0 (regOf Try.f57 0) false) (.seq (.region 1 (regOf Try.f57 1) false) .ret))
theorem body57 : Try.f57.body = some b57 := by kernel_rfl
noncomputable def C57 : Tab := []
theorem C57_ok : TabOK TP C57 := trivial
noncomputable def LO57 : Tab := []
noncomputable def i57 : Tm := { sl := [(0, .v (.l (.i .u8)))], bx := [], bf := [] }
noncomputable def o57 : OT := (.ret { sl := [(0, .p 0 0)], bx := [[.v (.l (.i .u8))]], bf := [] })
noncomputable def F57 (a0 : (List Int)) : Option ((Unit × Unit) × (((List Int) × Unit) × Unit) × Unit) :=
 (some (((), ()), ((a0, ()), ()), ()))
noncomputable def c57 : Con := ⟨i57, o57, fun x => F57 x.1.1⟩
theorem e57 (x : i57.E) : vfn TP C57 LO57 Try.f57 b57 i57 o57 x = c57.F x := by kernel_rfl
theorem c57_ok : Con.OK TP 57 c57 := (fn_ok C57_ok (fun _ => rfl) Try.func57 body57 (noL (by kernel_rfl)) i57 o57).congr fun x => (e57 x).symm
noncomputable def b58 : Code := (.seq (.region 0 (regOf Try.f58 0) false) (.seq (.region 1 (regOf Try.f58 1) false) (.seq (.region 2 (regOf Try.f58 2) false) (.seq (.seq (.region 3 (regOf Try.f58 3) false) (.cond (.tmp 21) (.region 4 (regOf Try.f58 4) false) .skip)) (.seq (.region 5 (regOf Try.f58 5) false) (.seq (.region 6 (regOf Try.f58 6) false) .ret))))))
theorem body58 : Try.f58.body = some b58 := by kernel_rfl
noncomputable def C58 : Tab := [(80, c80), (81, c81)]
theorem C58_ok : TabOK TP C58 := ⟨c80_ok, c81_ok, trivial⟩
noncomputable def LO58 : Tab := []
noncomputable def i58 : Tm := { sl := [(0, .p 0 0), (1, .v (.i .u64))], bx := [[.v (.l (.i .u8))]], bf := [] }
noncomputable def o58 : OT := (.two (.ret { sl := [(0, .v (.i .u64))], bx := [[.v (.l (.i .u8))]], bf := [] }) (.pnc 130 .i64 { sl := [], bx := [[.v (.l (.i .u8))]], bf := [] }))
noncomputable def F58 (a1 : Int) (b0_0 : (List Int)) : Option (((Int × Unit) × (((List Int) × Unit) × Unit) × Unit) ⊕ (Int × (Unit × (((List Int) × Unit) × Unit) × Unit))) :=
 ((F80 b0_0).bind fun y0 => ((F81 y0.1.2.2.1).bind fun y1 => (Sum.elim (fun y2 => (bif (decide (y0.1.1 > a1)) then ((F81 6).bind fun y3 => (Sum.elim (fun y4 => (some (.inl ((y0.1.1, ()), ((y0.1.2.1, ()), ()), ())))) (fun y4 => (some (.inr (y4.1, ((), ((b0_0, ()), ()), ()))))) y3)) else (some (.inl ((y0.1.1, ()), ((y0.1.2.1, ()), ()), ()))))) (fun y2 => (some (.inr (y2.1, ((), ((b0_0, ()), ()), ()))))) y1)))
noncomputable def c58 : Con := ⟨i58, o58, fun x => F58 x.1.2.1 x.2.1.1.1⟩
theorem e58 (x : i58.E) : vfn TP C58 LO58 Try.f58 b58 i58 o58 x = c58.F x := by kernel_rfl
theorem c58_ok : Con.OK TP 58 c58 := (fn_ok C58_ok (fun _ => rfl) Try.func58 body58 (noL (by kernel_rfl)) i58 o58).congr fun x => (e58 x).symm
noncomputable def b73 : Code := (.seq (.region 0 (regOf Try.f73 0) false) (.seq (.seq (.region 1 (regOf Try.f73 1) false) (.cond (.tmp 9) (.region 2 (regOf Try.f73 2) false) .skip)) (.seq (.region 3 (regOf Try.f73 3) false) (.seq (.region 4 (regOf Try.f73 4) false) (.seq (.region 5 (regOf Try.f73 5) false) .ret)))))
theorem body73 : Try.f73.body = some b73 := by kernel_rfl
noncomputable def C73 : Tab := [(81, c81)]
theorem C73_ok : TabOK TP C73 := ⟨c81_ok, trivial⟩
noncomputable def LO73 : Tab := []
noncomputable def i73 : Tm := { sl := [(0, .p 0 0)], bx := [[.v (.l (.i .u8))]], bf := [] }
noncomputable def o73 : OT := (.two (.ret { sl := [(0, .v (.i .u8))], bx := [[.v (.l (.i .u8))]], bf := [] }) (.pnc 130 .i64 { sl := [], bx := [[.v (.l (.i .u8))]], bf := [] }))
noncomputable def F73 (b0_0 : (List Int)) : Option (((Int × Unit) × (((List Int) × Unit) × Unit) × Unit) ⊕ (Int × (Unit × (((List Int) × Unit) × Unit) × Unit))) :=
 (bif (((b0_0.length : Nat) : Int) == 0) then ((F81 5).bind fun y0 => (Sum.elim (fun y1 => (bif (decide (0 ≤ (0 : Int) ∧ (0 : Int) < ((b0_0.length : Nat) : Int))) then (bif (decide (0 ≤ (1 : Int) ∧ (1 : Int) ≤ ((b0_0.length : Nat) : Int))) then (some (.inl ((((b0_0).getD (0 : Int).toNat (0 : Int)), ()), ((((b0_0).drop (1 : Int).toNat), ()), ()), ()))) else none) else none)) (fun y1 => (some (.inr (y1.1, ((), ((b0_0, ()), ()), ()))))) y0)) else (bif (decide (0 ≤ (0 : Int) ∧ (0 : Int) < ((b0_0.length : Nat) : Int))) then (bif (decide (0 ≤ (1 : Int) ∧ (1 : Int) ≤ ((b0_0.length : Nat) : Int))) then (some (.inl ((((b0_0).getD (0 : Int).toNat (0 : Int)), ()), ((((b0_0).drop (1 : Int).toNat), ()), ()), ()))) else none) else none))
noncomputable def c73 : Con := ⟨i73, o73, fun x => F73 x.2.1.1.1⟩
theorem e73 (x : i73.E) : vfn TP C73 LO73 Try.f73 b73 i73 o73 x = c73.F x := by kernel_rfl
theorem c73_ok : Con.OK TP 73 c73 := (fn_ok C73_ok (fun _ => rfl) Try.func73 body73 (noL (by kernel_rfl)) i73 o73).congr fun x => (e73 x).symm
noncomputable def b60 : Code := (.seq (.region 0 (regOf Try.f60 0) false) (.seq (.region 1 (regOf Try.f60 1) false) (.seq (.region 2 (regOf Try.f60 2) false) (.seq (.region 3 (regOf Try.f60 3) false) (.seq (.region 4 (regOf Try.f60 4) false) .ret)))))
theorem body60 : Try.f60.body = some b60 := by kernel_rfl
noncomputable def C60 : Tab := [(70, c70), (81, c81)]
theorem C60_ok : TabOK TP C60 := ⟨c70_ok, c81_ok, trivial⟩
noncomputable def LO60 : Tab := []
noncomputable def i60 : Tm := { sl := [(0, .p 0 0), (1, .v (.i .i64))], bx := [[.v (.l (.i .u8))]], bf := [] }
noncomputable def o60 : OT := (.two (.ret { sl := [(0, .v (.l (.i .u8)))], bx := [[.v (.l (.i .u8))]], bf := [] }) (.pnc 130 .i64 { sl := [], bx := [[.v (.l (.i .u8))]], bf := [] }))
noncomputable def F60 (a1 : Int) (b0_0 : (List Int)) : Option ((((List Int) × Unit) × (((List Int) × Unit) × Unit) × Unit) ⊕ (Int × (Unit × (((List Int) × Unit) × Unit) × Unit))) :=
 ((F70 b0_0 a1).bind fun y0 => ((F81 y0.1.2.2.1).bind fun y1 => (Sum.elim (fun y2 => (some (.inl ((y0.1.1, ()), ((y0.1.2.1, ()), ()), ())))) (fun y2 => (some (.inr (y2.1, ((), ((b0_0, ()), ()), ()))))) y1)))
noncomputable def c60 : Con := ⟨i60, o60, fun x => F60 x.1.2.1 x.2.1.1.1⟩
theorem e60 (x : i60.E) : vfn TP C60 LO60 Try.f60 b60 i60 o60 x = c60.F x := by kernel_rfl
theorem c60_ok : Con.OK TP 60 c60 := (fn_ok C60_ok (fun _ => rfl) Try.func60 body60 (noL (by kernel_rfl)) i60 o60).congr fun x => (e60 x).symm
noncomputable def b61 : Code := (.seq (.region 0 (regOf Try.f61 0) false) (.cond (.tmp 7) (.region 1 (regOf Try.f61 1) false) .skip))
theorem body61 : Try.f61.body = some b61 := by kernel_rfl
noncomputable def C61 : Tab := [(81, c81)]
theorem C61_ok : TabOK TP C61 := ⟨c81_ok, trivial⟩
noncomputable def LO61 : Tab := []
noncomputable def i61 : Tm := { sl := [(0, .p 0 0)], bx := [[.v (.l (.i .u8))]], bf := [] }
noncomputable def o61 : OT := (.two (.ret { sl := [], bx := [[.v (.l (.i .u8))]], bf := [] }) (.pnc 130 .i64 { sl := [], bx := [[.v (.l (.i .u8))]], bf := [] }))
noncomputable def F61 (b0_0 : (List Int)) : Option ((Unit × (((List Int) × Unit) × Unit) × Unit) ⊕ (Int × (Unit × (((List Int) × Unit) × Unit) × Unit))) :=
 (bif (decide (((b0_0.length : Nat) : Int) > 0)) then ((F81 4).bind fun y0 => (Sum.elim (fun y1 => (some (.inl ((), ((b0_0, ()), ()), ())))) (fun y1 => (some (.inr (y1.1, ((), ((b0_0, ()), ()), ()))))) y0)) else (some (.inl ((), ((b0_0, ()), ()), ()))))
noncomputable def c61 : Con := ⟨i61, o61, fun x => F61 x.2.1.1.1⟩
theorem e61 (x : i61.E) : vfn TP C61 LO61 Try.f61 b61 i61 o61 x = c61.F x := by kernel_rfl
theorem c61_ok : Con.OK TP 61 c61 := (fn_ok C61_ok (fun _ => rfl) Try.func61 body61 (noL (by kernel_rfl)) i61 o61).congr fun x => (e61 x).symm
noncomputable def l59_3 : Code := (.seq (.region 3 (regOf Try.f59 3) false) (.seq (.cond (.tmp 7) .skip (.exit 0)) (.seq (.block 1 (.region 4 (regOf Try.f59 4) false)) (.region 5 (regOf Try.f59 5) false))))
noncomputable def b59 : Code := (.seq (.region 0 (regOf Try.f59 0) false) (.seq (.region 1 (regOf Try.f59 1) false) (.seq (.seq (.region 2 (regOf Try.f59 2) false) (.block 0 (.loop l59_3))) (.seq (.region 6 (regOf Try.f59 6) false) .ret))))
theorem body59 : Try.f59.body = some b59 := by kernel_rfl
noncomputable def C59_3 : Tab := [(58, c58)]
theorem C59_3_ok : TabOK TP C59_3 := ⟨c58_ok, trivial⟩
noncomputable def LO59_3 : Tab := []
noncomputable def i59_3 : Tm := { sl := [(0, .p 0 0), (3, .o 0), (5, .v (.i .u64)), (6, .v (.i .u64))], bx := [[.v (.l (.i .u8))]], bf := [(.i .u64)] }
noncomputable def o59_3 : OT := (.two (.pnc 130 .i64 { sl := [], bx := [[.v (.l (.i .u8))]], bf := [] }) (.exit 0 { sl := [(3, .o 0)], bx := [[.v (.l (.i .u8))]], bf := [(.i .u64)] }))
noncomputable def T59_3 (a5 : Int) (a6 : Int) (b0_0 : (List Int)) (q0 : (List Int)) : Option (((Unit × (Unit × (Int × (Int × Unit)))) × (((List Int) × Unit) × Unit) × ((List Int) × Unit)) ⊕ ((Int × (Unit × (((List Int) × Unit) × Unit) × Unit)) ⊕ ((Unit × Unit) × (((List Int) × Unit) × Unit) × ((List Int) × Unit)))) :=
 (bif (decide (a6 < a5)) then ((F58 9223372036854775807 b0_0).bind fun y0 => (Sum.elim (fun y1 => (bif (decide (q0.length + ([y1.1.1]).length < lim)) then (some (.inl (((), (), a5, (IntKind.wrap .u64 (a6 + 1)), ()), ((y1.2.1.1.1, ()), ()), ((q0 ++ [y1.1.1]), ())))) else none)) (fun y1 => (some (.inr (.inl (y1.1, ((), ((y1.2.2.1.1.1, ()), ()), ())))))) y0)) else (some (.inr (.inr (((), ()), ((b0_0, ()), ()), (q0, ()))))))
noncomputable def L59_3 (a5 : Int) (a6 : Int) (b0_0 : (List Int)) (q0 : (List Int)) : Option ((Int × (Unit × (((List Int) × Unit) × Unit) × Unit)) ⊕ ((Unit × Unit) × (((List Int) × Unit) × Unit) × ((List Int) × Unit))) := loopF (fun x : ((Unit × (Unit × (Int × (Int × Unit)))) × (((List Int) × Unit) × Unit) × ((List Int) × Unit)) => T59_3 x.1.2.2.1 x.1.2.2.2.1 x.2.1.1.1 x.2.2.1) (((), (), a5, a6, ()), ((b0_0, ()), ()), (q0, ()))
theorem L59_3_eq (a5 : Int) (a6 : Int) (b0_0 : (List Int)) (q0 : (List Int)) : L59_3 a5 a6 b0_0 q0 = (T59_3 a5 a6 b0_0 q0).bind (Sum.elim (fun x => L59_3 x.1.2.2.1 x.1.2.2.2.1 x.2.1.1.1 x.2.2.1) some) := loopF_eq _ _
noncomputable def k59_3 : Con := ⟨i59_3, o59_3, fun x => L59_3 x.1.2.2.1 x.1.2.2.2.1 x.2.1.1.1 x.2.2.1⟩
theorem e59_3 (x : i59_3.E) : vround TP C59_3 LO59_3 Try.f59.ntmps l59_3 i59_3 o59_3 x = T59_3 x.1.2.2.1 x.1.2.2.2.1 x.2.1.1.1 x.2.2.1 := by kernel_rfl
theorem k59_3_ok : Con.LOK TP Try.f59.ntmps l59_3 k59_3 := (loop_ok C59_3_ok (noL (by kernel_rfl)) i59_3 o59_3).congr fun x => (congrArg (fun T => loopF T x) (funext e59_3)).symm
noncomputable def C59 : Tab := [(58, c58)]
theorem C59_ok : TabOK TP C59 := ⟨c58_ok, trivial⟩
noncomputable def LO59 : Tab := [(3, k59_3)]
noncomputable def i59 : Tm := { sl := [(0, .p 0 0)], bx := [[.v (.l (.i .u8))]], bf := [] }
noncomputable def o59 : OT := (.two (.ret { sl := [(0, .v (.l (.i .u64)))], bx := [[.v (.l (.i .u8))]], bf := [] }) (.pnc 130 .i64 { sl := [], bx := [[.v (.l (.i .u8))]], bf := [] }))
noncomputable def F59 (b0_0 : (List Int)) : Option ((((List Int) × Unit) × (((List Int) × Unit) × Unit) × Unit) ⊕ (Int × (Unit × (((List Int) × Unit) × Unit) × Unit))) :=
 ((F58 64 b0_0).bind fun y0 => (Sum.elim (fun y1 => ((L59_3 y1.1.1 0 y1.2.1.1.1 ([] : List Int)).bind fun y2 => (Sum.elim (fun y3 => (some (.inr (y3.1, ((), ((y3.2.2.1.1.1, ()), ()), ()))))) (fun y3 => (some (.inl ((y3.2.2.1, ()), ((y3.2.1.1.1, ()), ()), ())))) y2))) (fun y1 => (some (.inr (y1.1, ((), ((y1.2.2.1.1.1, ()), ()), ()))))) y0))
noncomputable def c59 : Con := ⟨i59, o59, fun x => F59 x.2.1.1.1⟩
theorem e59 (x : i59.E) : vfn TP C59 LO59 Try.f59 b59 i59 o59 x = c59.F x := by kernel_rfl
theorem c59_ok : Con.OK TP 59 c59 := (fn_ok C59_ok (fun _ => rfl) Try.func59 body59 (loops_of (l := [l59_3]) (by kernel_rfl) (show LoopsOK TP Try.f59.ntmps [l59_3] LO59 from ⟨k59_3_ok, trivial⟩)) i59 o59).congr fun x => (e59 x).symm
end Go.IM.V
namespace Go.IM.V
open Go Go.IM
theorem toList_loop (bs : ByteArray) : ∀ (d i : Nat) (r : List UInt8), i + d = bs.size → ByteArray.toList.loop bs i r = r.reverse ++ bs.data.toList.drop i := by
 intro d; induction d with
 | zero =>
  intro i r h; unfold ByteArray.toList.loop; rw [if_neg (by omega), List.drop_eq_nil_of_le (by simp; omega), List.append_nil]
 | succ d ih =>
  intro i r h; have hs : bs.size = bs.data.toList.length := by simp
  unfold ByteArray.toList.loop; rw [if_pos (by omega), ih (i + 1) _ (by omega), List.drop_eq_getElem_cons (l := bs.data.toList) (i := i) (by omega)]; have hlt : i < bs.data.size := by have : bs.size = bs.data.size := rfl; omega
  have : bs.get! i = bs.data.toList[i]'(by omega) := by
   show bs.data[i]! = _; rw [getElem!_pos bs.data i hlt]; simp
  simp [this]
theorem toListB (bs : ByteArray) : bs.toList = bs.data.toList := by
 have := toList_loop bs bs.size 0 [] (by omega)
 unfold ByteArray.toList; rw [this]; simp
theorem strL_toList (l : List Int) : (strL l).toList = l.map fun n => UInt8.ofNat n.toNat := by rw [toListB]; simp [strL]
theorem strL_beq {a b : List Int} (ha : ∀ x ∈ a, 0 ≤ x ∧ x < 256) (hb : ∀ x ∈ b, 0 ≤ x ∧ x < 256) : ((strL a).toList == (strL b).toList) = decide (a = b) := by
 rw [strL_toList, strL_toList, Bool.eq_iff_iff, beq_iff_eq, decide_eq_true_iff]
 constructor
 ·intro h; have back : ∀ l : List Int, (∀ x ∈ l, 0 ≤ x ∧ x < 256) → (l.map fun n => UInt8.ofNat n.toNat).map (fun b => (b.toNat : Int)) = l := by
   intro l hl; rw [List.map_map]
   conv => rhs; rw [← List.map_id l]
   apply List.map_congr_left
   intro x hx; have := hl x hx
   simp [UInt8.toNat_ofNat']
   omega
  rw [← back a ha, ← back b hb, h]
 ·intro h; rw [h]
end Go.IM.V
namespace Go.IM.V
open Go Go.IM Go.Proofs
def Vok (v : List Int) : Prop := ∀ x ∈ v, 0 ≤ x ∧ x < 18446744073709551616
abbrev gv (v : List Int) (k : Nat) : Int := v.getD k 0
theorem Vok.gv {v : List Int} (h : Vok v) (k : Nat) : 0 ≤ gv v k ∧ gv v k < 18446744073709551616 := by
 unfold V.gv; rw [List.getD_eq_getElem?_getD]; rcases Nat.lt_or_ge k v.length with hk | hk
 ·rw [List.getElem?_eq_getElem hk]; exact h _ (List.getElem_mem hk)
 ·rw [List.getElem?_eq_none hk]; simp
theorem gv_ge {v : List Int} {k : Nat} (h : v.length ≤ k) : gv v k = 0 := by
 unfold gv; rw [List.getD_eq_getElem?_getD, List.getElem?_eq_none h]; rfl
theorem F55_nat (v : List Int) (k : Nat) : F55 v (k : Int) = some (r1 (gv v k)) := by
 unfold F55; simp only [cif]; rw [if_neg (by omega)]; by_cases h : v.length ≤ k
 ·rw [if_pos (by omega), gv_ge h]
 ·rw [if_neg (by omega), if_pos (by omega), Int.toNat_natCast]
theorem F82_nat (v : List Int) (k : Nat) : F82 v (k : Int) = some (r1 (gv v k)) := F55_nat v k
theorem F79_eq (a : List Int) (h : a.length < 2 ^ 39) : F79 a = some (r1 a) := by
 unfold F79; refine nilBr_of ?_ (fun h0 => ?_)
 ·rw [cif, if_pos (by unfold lim; simp; omega)]; rfl
 ·rw [List.eq_nil_of_length_eq_zero h0]
def trimN (a : List Int) : Nat → Nat
 | 0 => 0
 | n + 1 => if gv a n = 0 then trimN a n else n + 1
theorem trimN_le (a : List Int) : ∀ n, trimN a n ≤ n := by
 intro n; induction n with
 | zero => exact Nat.le_refl _
 | succ n ih => simp only [trimN]; split <;> omega
theorem trimN_nz (a : List Int) : ∀ n, trimN a n = 0 ∨ gv a (trimN a n - 1) ≠ 0 := by
 intro n; induction n with
 | zero => exact .inl rfl
 | succ n ih =>
  simp only [trimN]; split
  ·exact ih
  ·rename_i h; exact .inr (by simpa using h)
theorem trimN_z (a : List Int) : ∀ n k, trimN a n ≤ k → k < n → gv a k = 0 := by
 intro n; induction n with
 | zero => intro k _ h; omega
 | succ n ih =>
  intro k h1 h2; simp only [trimN] at h1; split at h1
  ·rename_i h; rcases Nat.lt_or_ge k n with q | q
   ·exact ih k h1 q
   ·obtain rfl : k = n := by omega
    exact h
  ·omega
def trim (a : List Int) : List Int := a.take (trimN a a.length)
theorem L62_run (a : List Int) (hn : a.length < 2 ^ 39) : ∀ k, k ≤ a.length → L62_2 a (k : Nat) = some (r1 ((trimN a k : Nat) : Int)) := by
 intro k; induction k with
 | zero =>
  intro _; rw [L62_2_eq]; simp only [T62_2, cif]; rw [if_neg (by omega)]; rfl
 | succ k ih =>
  intro hk; rw [L62_2_eq]; have hw : IntKind.wrap .i64 (((k + 1 : Nat) : Int) - 1) = (k : Int) := by rw [w64 (by omega) (by omega)]; omega
  simp only [T62_2, cif]; rw [hw, if_pos (by omega), if_pos (by omega)]; simp only [Int.toNat_natCast]; by_cases h : gv a k = 0
  ·have hb : (a.getD k 0 == 0) = true := by simpa using h
   rw [hb]; simp only [cond_true, Option.bind_some, Sum.elim_inl]; rw [ih (by omega)]; simp only [trimN]; rw [if_pos h]
  ·have hb : (a.getD k 0 == 0) = false := by simpa using h
   rw [hb]; simp only [cond_false, Option.bind_some, Sum.elim_inr, trimN]; rw [if_neg h]
theorem F62_eq (a : List Int) (hn : a.length < 2 ^ 39) : F62 a = some (r1 (trim a)) := by
 unfold F62; rw [L62_run a hn a.length (Nat.le_refl _)]; have := trimN_le a a.length
 simp only [Option.bind_some, cif]; rw [if_pos (by omega), Int.toNat_natCast, F79_eq _ (by rw [List.length_take]; omega)]
 rfl
theorem gv_trim (a : List Int) (k : Nat) : gv (trim a) k = gv a k := by
 unfold trim; rcases Nat.lt_or_ge k (trimN a a.length) with h | h
 ·unfold gv; rw [List.getD_eq_getElem?_getD, List.getD_eq_getElem?_getD, List.getElem?_take, if_pos h]
 ·rw [gv_ge (by rw [List.length_take]; omega)]
  rcases Nat.lt_or_ge k a.length with h2 | h2
  ·exact (trimN_z a a.length k h h2).symm
  ·exact (gv_ge h2).symm
theorem trim_len (a : List Int) : (trim a).length = trimN a a.length := by
 unfold trim; rw [List.length_take]; have := trimN_le a a.length; omega
theorem trim_last (a : List Int) : (trim a).length = 0 ∨ gv (trim a) ((trim a).length - 1) ≠ 0 := by
 rw [gv_trim, trim_len]; exact trimN_nz a a.length
def dgF : Nat → Int → List Int
 | 0, n => [n]
 | f + 1, n => if n < 128 then [n] else (128 + n % 128) :: dgF f (n / 128)
def dg (n : Int) : List Int := dgF 9 n
theorem dgF_len : ∀ (f : Nat) (n : Int), (dgF f n).length ≤ f + 1
 | 0, _ => by simp [dgF]
 | f + 1, n => by
  unfold dgF; split
  ·simp
  ·have := dgF_len f (n / 128); simp; omega
theorem dg_len (n : Int) : (dg n).length ≤ 10 := dgF_len 9 n
theorem dgF_lt {f : Nat} {n : Int} (h : n < 128) : dgF f n = [n] := by
 cases f with
 | zero => rfl
 | succ f => unfold dgF; rw [if_pos h]
theorem or128' : ∀ a : Fin 256, iOr .u8 (a.val : Int) 128 = 128 + (a.val : Int) % 128 := by decide +kernel
theorem or128 (n : Int) : iOr .u8 (IntKind.wrap .u8 n) 128 = 128 + n % 128 := by
 rw [wu8_mod]; have := or128' ⟨(n % 256).toNat, by omega⟩
 simp only at this
 rw [show (((n % 256).toNat : Nat) : Int) = n % 256 from by omega] at this; rw [this]; omega
theorem shr7 {n : Int} (h : 0 ≤ n) : iShr .u64 n 7 = n / 128 := by
 unfold iShr; show n.fdiv (2 ^ 7) = _; rw [Int.fdiv_eq_ediv_of_nonneg _ (by omega)]; rfl
theorem L51_run : ∀ (f : Nat) (n : Int) (q : List Int), 0 ≤ n → n < 128 ^ (f + 1) → q.length + f < lim →
  ∃ n' p, L51_1 n q = some (((), n', ()), (), (q ++ p, ())) ∧ 0 ≤ n' ∧ n' < 128 ∧ p ++ [n'] = dgF f n ∧ p.length ≤ f := by
 intro f; induction f with
 | zero =>
  intro n q h0 h1 hq; refine ⟨n, [], ?_, h0, by omega, rfl, by simp⟩; rw [L51_1_eq]; simp only [T51_1, cif]; rw [if_neg (by omega)]; simp
 | succ f ih =>
  intro n q h0 h1 hq; by_cases hn : n < 128
  ·refine ⟨n, [], ?_, h0, hn, by rw [dgF_lt hn]; rfl, by simp⟩
   rw [L51_1_eq]; simp only [T51_1, cif]; rw [if_neg (by omega)]; simp
  ·have hl : (q ++ [128 + n % 128]).length = q.length + 1 := by simp
   obtain ⟨n', p, e, a, b, c, d⟩ := ih (n / 128) (q ++ [128 + n % 128]) (by omega) (by rw [Int.pow_succ] at h1; omega) (by rw [hl]; omega)
   refine ⟨n', (128 + n % 128) :: p, ?_, a, b, ?_, by simp; omega⟩
   ·rw [L51_1_eq]; simp only [T51_1, cif]; rw [if_pos (by omega), if_pos (by simp; omega), or128, shr7 h0]
    simp only [Option.bind_some, Sum.elim_inl]; rw [e]; simp
   ·rw [dgF, if_neg hn, List.cons_append, c]
theorem F51_eq (n : Int) (q : List Int) (h0 : 0 ≤ n) (h1 : n < 18446744073709551616) (hq : q.length + 10 < lim) : F51 n q = some (ro (q ++ dg n)) := by
 obtain ⟨n', p, e, a, b, c, d⟩ := L51_run 9 n q h0 (by rw [show (128 : Int) ^ (9 + 1) = 1180591620717411303424 from by decide]; omega) (by omega)
 unfold F51; rw [e]; simp only [Option.bind_some, cif]; rw [if_pos (by simp; omega), wu8_mod, Int.emod_eq_of_lt a (by omega), List.append_assoc, c]
 rfl
def dgT (t : List Int) : List Int := dg t.length ++ t
theorem dgT_len (t : List Int) : (dgT t).length ≤ 10 + t.length := by unfold dgT; have := dg_len t.length; simp; omega
theorem F52_eq (t q : List Int) (ht : t.length < 4294967296) (hq : q.length + t.length + 10 < lim) : F52 t q = some (ro (q ++ dgT t)) := by
 unfold F52; rw [wu64 (by omega) (by omega), F51_eq _ _ (by omega) (by omega) (by omega)]; have := dg_len t.length
 simp only [Option.bind_some, cif]; rw [if_pos (by simp; omega), List.append_assoc]
 rfl
def fixF (n : Int) : Nat → List Int
 | 0 => []
 | k + 1 => (n / 256 ^ k) % 256 :: fixF n k
def fix8 (n : Int) : List Int := fixF n 8
def qbits (x : Nat) : Int := if FloatKind.f64.format.order x x != some Ordering.eq then 9221120237041090561 else (x : Int)
abbrev Ev : Type := Int × Int × Int × Int × ByteArray × List Int × Nat × Int × Unit
def encR (k : Int) (text : List Int) (num : Nat) (node : Int) : List Int :=
 if k = 1 then dgT text else if k = 2 ∨ k = 3 then fix8 (qbits num) else if k = 5 then dg (IntKind.wrap .u64 node) else []
def encE (e : Ev) : List Int :=
 dg (IntKind.wrap .u64 e.1) ++ dg e.2.1 ++ dg e.2.2.1 ++ [e.2.2.2.1] ++ (if 1 ≤ e.2.2.2.1 ∧ e.2.2.2.1 ≤ 4 then dgT (bytesL e.2.2.2.2.1) else []) ++ encR e.2.2.2.1 e.2.2.2.2.2.1 e.2.2.2.2.2.2.1 e.2.2.2.2.2.2.2.1
theorem bytesL_len (s : ByteArray) : (bytesL s).length = s.size := by unfold bytesL; simp
structure EvOK (e : Ev) : Prop where
 s0 : 0 ≤ e.2.1
 s1 : e.2.1 < 18446744073709551616
 t0 : 0 ≤ e.2.2.1
 t1 : e.2.2.1 < 18446744073709551616
 key : e.2.2.2.2.1.size < 4294967296
 text : e.2.2.2.1 = 1 → e.2.2.2.2.2.1.length < 4294967296
def rgt (e : Ev) : Int :=
 if e.1 < 0 ∨ 63 < e.1 ∨ e.2.1 = 0 ∨ e.2.2.1 = 0 ∨ e.2.2.2.1 < 1 ∨ 6 < e.2.2.2.1 then 1
 else if e.2.2.2.1 = 5 ∧ (e.2.2.2.2.2.2.2.1 < 0 ∨ 63 < e.2.2.2.2.2.2.2.1) then 1
 else if e.2.2.2.1 ≤ 4 ∧ (e.2.2.2.2.1.size = 0 ∨ 64 < e.2.2.2.2.1.size) then 6
 else if e.2.2.2.1 = 1 ∧ 1048576 < e.2.2.2.2.2.1.length then 6
 else if 9223372036854775807 < e.2.1 ∨ 9223372036854775807 < e.2.2.1 then 8 else 0
structure EvW (e : Ev) : Prop where
 s0 : 0 ≤ e.2.1
 s1 : e.2.1 < 18446744073709551616
 t0 : 0 ≤ e.2.2.1
 t1 : e.2.2.1 < 18446744073709551616
 key : e.2.2.2.2.1.size < 4294967296
def plain (e : Ev) : Ev :=
 (e.1, e.2.1, e.2.2.1, e.2.2.2.1, if 1 ≤ e.2.2.2.1 ∧ e.2.2.2.1 ≤ 4 then e.2.2.2.2.1 else ByteArray.empty, if e.2.2.2.1 = 1 then e.2.2.2.2.2.1 else [],
  if e.2.2.2.1 = 2 ∨ e.2.2.2.1 = 3 then (qbits e.2.2.2.2.2.2.1).toNat else 0, if e.2.2.2.1 = 5 then e.2.2.2.2.2.2.2.1 else 0, ())
def Bys (l : List Int) : Prop := ∀ x ∈ l, 0 ≤ x ∧ x < 256
theorem Bys.take {l : List Int} (h : Bys l) (n : Nat) : Bys (l.take n) := fun x hx => h x (List.mem_of_mem_take hx)
theorem Bys.app {a b : List Int} (ha : Bys a) (hb : Bys b) : Bys (a ++ b) := fun x hx => (List.mem_append.1 hx).elim (ha x) (hb x)
def tk : Nat → Int → List Int → (Int × List Int) ⊕ Int
 | _, _, [] => .inr 5
 | i, acc, b :: r => if (i = 9 ∧ 1 < b) ∨ (0 < i ∧ b = 0) then .inr 4 else if b < 128 then .inl (acc + b % 128 * 128 ^ i, r) else tk (i + 1) (acc + b % 128 * 128 ^ i) r
theorem and127' : ∀ a : Fin 256, iAnd .u8 (a.val : Int) 127 = (a.val : Int) % 128 := by decide +kernel
theorem and127 {b : Int} (h0 : 0 ≤ b) (h1 : b < 256) : iAnd .u8 b 127 = b % 128 := by
 have := and127' ⟨b.toNat, by omega⟩
 simpa [Int.toNat_of_nonneg h0] using this
theorem or_nat {x y : Nat} (hx : x < 2 ^ 64) (hy : y < 2 ^ 64) : iOr .u64 (x : Int) (y : Int) = ((x ||| y : Nat) : Int) := by
 show IntKind.wrap .u64 (((BitVec.ofInt 64 (x : Int) ||| BitVec.ofInt 64 (y : Int) : BitVec 64).toNat : Nat) : Int) = _; rw [BitVec.ofInt_natCast, BitVec.ofInt_natCast, BitVec.toNat_or, BitVec.toNat_ofNat, BitVec.toNat_ofNat, Nat.mod_eq_of_lt hx, Nat.mod_eq_of_lt hy]; have := Nat.or_lt_two_pow hx hy
 exact wu64 (by omega) (by omega)
theorem or_shl {acc c : Int} {i : Nat} (hi : i ≤ 9) (h0 : 0 ≤ acc) (h1 : acc < 128 ^ i) (c0 : 0 ≤ c) (c1 : c < 128) (h9 : i = 9 → c ≤ 1) :
  iOr .u64 acc (iShl .u64 c ((7 * i : Nat) : Int)) = acc + c * 128 ^ i := by
 obtain ⟨x, rfl⟩ := Int.eq_ofNat_of_zero_le h0; obtain ⟨y, rfl⟩ := Int.eq_ofNat_of_zero_le c0; have hp : ((128 : Int) ^ i) = ((2 ^ (7 * i) : Nat) : Int) := by rw [Nat.pow_mul]; simp
 rw [hp] at h1 ⊢; have hx : x < 2 ^ (7 * i) := by exact_mod_cast h1
 have hy : y * 2 ^ (7 * i) < 2 ^ 64 := by
  rcases Nat.lt_or_ge i 9 with q | q
  ·have : 2 ^ (7 * i) ≤ 2 ^ 56 := Nat.pow_le_pow_right (by decide) (by omega)
   calc y * 2 ^ (7 * i) ≤ 127 * 2 ^ 56 := Nat.mul_le_mul (by omega) this
    _ < 2 ^ 64 := by decide
  ·obtain rfl : i = 9 := by omega
   have := h9 rfl
   calc y * 2 ^ (7 * 9) ≤ 1 * 2 ^ 63 := Nat.mul_le_mul (by omega) (by decide)
    _ < 2 ^ 64 := by decide
 have hx64 : x < 2 ^ 64 := Nat.lt_of_lt_of_le hx (Nat.pow_le_pow_right (by decide) (by omega)); have hs : iShl .u64 (y : Int) ((7 * i : Nat) : Int) = ((y * 2 ^ (7 * i) : Nat) : Int) := by
  unfold iShl; rw [Int.toNat_natCast, Nat.min_eq_left (by show 7 * i ≤ 64; omega), show (y : Int) * 2 ^ (7 * i) = ((y * 2 ^ (7 * i) : Nat) : Int) from by simp]
  generalize y * 2 ^ (7 * i) = z at hy; exact wu64 (by omega) (by omega)
 rw [hs, or_nat hx64 hy, ← Nat.shiftLeft_eq, Nat.or_comm, ← Nat.shiftLeft_add_eq_or_of_lt hx, Nat.shiftLeft_eq]; simp; omega
abbrev r3 {α β γ : Type} (x : α) (y : β) (z : γ) : (α × β × γ × Unit) × Unit × Unit := ((x, y, z, ()), (), ())
theorem acc_lt {acc c : Int} {i : Nat} (h1 : acc < 128 ^ i) (c1 : c < 128) : acc + c * 128 ^ i < 128 ^ (i + 1) := by
 have hp : (0 : Int) < 128 ^ i := Int.pow_pos (by decide); rw [Int.pow_succ]; have : c * 128 ^ i ≤ 127 * 128 ^ i := Int.mul_le_mul_of_nonneg_right (by omega) (Int.le_of_lt hp)
 omega
theorem L80_run (xs : List Int) (hb : Bys xs) : ∀ (r : List Int) (i : Nat) (acc : Int), r = xs.drop i → i ≤ 9 → i ≤ xs.length → 0 ≤ acc → acc < 128 ^ i →
  L80_3 xs acc xs (xs.length : Nat) (i : Nat) = some (match tk i acc r with | .inl q => .inl (r3 q.1 q.2 0) | .inr e => if e = 4 then .inl (r3 0 xs 4) else .inr ((), (), ())) := by
 intro r; induction r with
 | nil =>
  intro i acc hr hi hl h0 h1; have : xs.length ≤ i := by
   have := congrArg List.length hr
   simp at this; omega
  rw [L80_3_eq]; simp only [T80_3, cif]; rw [if_neg (by omega)]; rfl
 | cons b r ih =>
  intro i acc hr hi hl h0 h1; have hlt : i < xs.length := by
   have := congrArg List.length hr
   simp at this; omega
  have hd := List.drop_eq_getElem_cons hlt; rw [hd] at hr; cases hr; obtain ⟨b0, b1⟩ := hb _ (List.getElem_mem hlt); have hg : xs.getD (i : Int).toNat 0 = xs[i] := by rw [Int.toNat_natCast, List.getD_eq_getElem?_getD, List.getElem?_eq_getElem hlt]; rfl
  have hw : IntKind.wrap .i64 (7 * (i : Int)) = ((7 * i : Nat) : Int) := by rw [w64 (by omega) (by omega)]; omega
  have hw2 : IntKind.wrap .i64 ((i : Int) + 1) = ((i + 1 : Nat) : Int) := by rw [w64 (by omega) (by omega)]; omega
  rw [L80_3_eq]; simp only [T80_3, cif, beq_iff_eq, Bool.cond_eq_ite, decide_eq_true_eq, hg, hw, hw2, and127 b0 b1]; rw [if_pos (by omega), if_pos (by omega)]; rw [wu64 (n := xs[i] % 128) (by omega) (by omega)]; by_cases c : (i = 9 ∧ 1 < xs[i]) ∨ (0 < i ∧ xs[i] = 0)
  ·unfold tk; rw [if_pos c]; by_cases c9 : i = 9
   ·rw [if_pos (by omega)]; by_cases c1 : xs[i] > 1
    ·rw [if_pos c1]; rfl
    ·rw [if_neg c1, if_pos (by omega), if_pos (by omega)]; rfl
   ·rw [if_neg (by omega), if_pos (by omega), if_pos (by omega)]; rfl
  ·unfold tk; rw [if_neg c]; have hor : iOr .u64 acc (iShl .u64 (xs[i] % 128) ((7 * i : Nat) : Int)) = acc + xs[i] % 128 * 128 ^ i := or_shl hi h0 h1 (by omega) (by omega) (by omega); have hp : (0 : Int) < 128 ^ i := Int.pow_pos (by decide); have hnn : 0 ≤ xs[i] % 128 * 128 ^ i := Int.mul_nonneg (by omega) (Int.le_of_lt hp); rw [hor]; have main : (if (0 : Int) ≤ ((7 * i : Nat) : Int) then
     (if xs[i] < 128 then (if 0 ≤ ((i + 1 : Nat) : Int) ∧ ((i + 1 : Nat) : Int) ≤ (xs.length : Int) then some (.inr (.inl (r3 (acc + xs[i] % 128 * 128 ^ i) (xs.drop ((i + 1 : Nat) : Int).toNat) 0))) else none)
     else some (.inl ((xs, acc + xs[i] % 128 * 128 ^ i, xs, (xs.length : Int), ((i + 1 : Nat) : Int), ()), (), ()))) else none :
     Option ((((List Int) × (Int × ((List Int) × (Int × (Int × Unit))))) × Unit × Unit) ⊕ (((Int × ((List Int) × (Int × Unit))) × Unit × Unit) ⊕ (Unit × Unit × Unit)))).bind
     (Sum.elim (fun x => L80_3 x.1.1 x.1.2.1 x.1.2.2.1 x.1.2.2.2.1 x.1.2.2.2.2.1) some) =
     some (match (if xs[i] < 128 then .inl (acc + xs[i] % 128 * 128 ^ i, xs.drop (i + 1)) else tk (i + 1) (acc + xs[i] % 128 * 128 ^ i) (xs.drop (i + 1)) : (Int × List Int) ⊕ Int) with
      | .inl q => .inl (r3 q.1 q.2 0) | .inr e => if e = 4 then .inl (r3 0 xs 4) else .inr ((), (), ())) := by
    rw [if_pos (by omega)]; by_cases c128 : xs[i] < 128
    ·rw [if_pos c128, if_pos c128, if_pos (by omega), Int.toNat_natCast]; rfl
    ·rw [if_neg c128, if_neg c128]; simp only [Option.bind_some, Sum.elim_inl]; exact ih (i + 1) _ rfl (by omega) (by omega) (by omega) (acc_lt h1 (by omega))
   by_cases c9 : i = 9
   ·rw [if_pos (by omega), if_neg (by omega), if_pos (by omega), if_neg (by omega)]; exact main
   ·rw [if_neg (by omega)]; by_cases c0 : 0 < i
    ·rw [if_pos (by omega), if_neg (by omega)]; exact main
    ·rw [if_neg (by omega)]; exact main
theorem tk_err {r : List Int} : ∀ {i : Nat} {acc e : Int}, tk i acc r = .inr e → e = 4 ∨ e = 5 := by
 induction r with
 | nil => intro i acc e h; cases h; exact .inr rfl
 | cons b r ih =>
  intro i acc e h; unfold tk at h; split at h
  ·cases h; exact .inl rfl
  ·split at h
   ·cases h
   ·exact ih h
theorem F80_eq (xs : List Int) (hb : Bys xs) : F80 xs = some (match tk 0 0 xs with | .inl q => r3 q.1 q.2 0 | .inr e => r3 0 xs e) := by
 unfold F80; have := L80_run xs hb xs 0 0 (by simp) (by omega) (by omega) (by omega) (by decide)
 rw [show ((0 : Nat) : Int) = 0 from rfl] at this; rw [this]; cases h : tk 0 0 xs with
 | inl q => rfl
 | inr e =>
  rcases tk_err h with rfl | rfl
  ·rfl
  ·rfl
theorem dgF_byte : ∀ (f : Nat) (n : Int), 0 ≤ n → n < 128 ^ (f + 1) → Bys (dgF f n)
 | 0, n, h0, h1 => fun x hx => by
  simp only [dgF, List.mem_singleton] at hx; subst hx; have : (128 : Int) ^ (0 + 1) = 128 := rfl
  omega
 | f + 1, n, h0, h1 => fun x hx => by
  unfold dgF at hx; split at hx
  ·simp at hx; omega
  ·rcases List.mem_cons.1 hx with rfl | hx
   ·omega
   ·exact dgF_byte f (n / 128) (by omega) (by rw [Int.pow_succ] at h1; omega) x hx
theorem dg_byte {n : Int} (h0 : 0 ≤ n) (h1 : n < 18446744073709551616) : Bys (dg n) :=
 dgF_byte 9 n h0 (by rw [show (128 : Int) ^ (9 + 1) = 1180591620717411303424 from by decide]; omega)
theorem tk_app (rest : List Int) : ∀ (f i : Nat) (n acc : Int), f + i = 9 → 0 ≤ n → n < 2 ^ (64 - 7 * i) → (0 < i → 1 ≤ n) → tk i acc (dgF f n ++ rest) = .inl (acc + n * 128 ^ i, rest) := by
 intro f; induction f with
 | zero =>
  intro i n acc hi h0 h1 hn; obtain rfl : i = 9 := by omega
  have h2 : n < 2 := h1; show tk 9 acc (n :: rest) = _; unfold tk; rw [if_neg (by omega), if_pos (by omega), Int.emod_eq_of_lt h0 (by omega)]
 | succ f ih =>
  intro i n acc hi h0 h1 hn; unfold dgF; by_cases hs : n < 128
  ·rw [if_pos hs]; show tk i acc (n :: rest) = _; unfold tk; rw [if_neg (by omega), if_pos hs, Int.emod_eq_of_lt h0 hs]
  ·rw [if_neg hs]; show tk i acc ((128 + n % 128) :: (dgF f (n / 128) ++ rest)) = _; unfold tk; rw [if_neg (by omega), if_neg (by omega)]; have hp : (2 : Int) ^ (64 - 7 * i) = 2 ^ (64 - 7 * (i + 1)) * 128 := by
    rw [show 64 - 7 * i = (64 - 7 * (i + 1)) + 7 from by omega, Int.pow_add]; rfl
   rw [ih (i + 1) (n / 128) _ (by omega) (by omega) (by rw [hp] at h1; omega) (fun _ => by omega)]
   have hm : (128 + n % 128) % 128 = n % 128 := by omega
   rw [hm, Int.pow_succ]; have : n * 128 ^ i = n % 128 * 128 ^ i + n / 128 * (128 ^ i * 128) := by
    rw [show n / 128 * (128 ^ i * 128) = (n / 128 * 128) * 128 ^ i from by rw [Int.mul_comm (128 ^ i) 128, Int.mul_assoc], ← Int.add_mul]
    congr 1
    omega
   rw [this, Int.add_assoc]
theorem tk_dg {n : Int} (h0 : 0 ≤ n) (h1 : n < 18446744073709551616) (rest : List Int) : tk 0 0 (dg n ++ rest) = .inl (n, rest) := by
 have := tk_app rest 9 0 n 0 (by omega) h0 h1 (by omega)
 rw [dg, this]; simp
theorem tk_inv : ∀ (xs : List Int) (i : Nat) (acc m : Int) (rest : List Int), Bys xs → i ≤ 9 → tk i acc xs = .inl (m, rest) →
  ∃ n, xs = dgF (9 - i) n ++ rest ∧ m = acc + n * 128 ^ i ∧ 0 ≤ n ∧ n < 2 ^ (64 - 7 * i) ∧ (0 < i → 1 ≤ n) := by
 intro xs; induction xs with
 | nil => intro i acc m rest hb hi h; cases h
 | cons b r ih =>
  intro i acc m rest hb hi h; obtain ⟨b0, b1⟩ := hb b (List.mem_cons_self ..); unfold tk at h; split at h
  ·cases h
  ·rename_i hc; split at h
   ·rename_i h128; cases h; refine ⟨b, ?_, by rw [Int.emod_eq_of_lt b0 h128], b0, ?_, by omega⟩
    ·rw [dgF_lt h128]; rfl
    ·by_cases h9 : i = 9
     ·subst h9; show b < 2; omega
     ·have hp : (2 : Int) ^ (64 - 7 * i) = 2 ^ (57 - 7 * i) * 128 := by
       rw [show 64 - 7 * i = (57 - 7 * i) + 7 from by omega, Int.pow_add]; rfl
      have : (0 : Int) < 2 ^ (57 - 7 * i) := Int.pow_pos (by decide)
      omega
   ·rename_i h128; have hi9 : i ≠ 9 := by omega
    obtain ⟨n, h1, h2, h3, h4, h5⟩ := ih (i + 1) _ m rest (fun x hx => hb x (List.mem_cons_of_mem _ hx)) (by omega) h; have h5 := h5 (by omega); have hp : (2 : Int) ^ (64 - 7 * i) = 2 ^ (64 - 7 * (i + 1)) * 128 := by
     rw [show 64 - 7 * i = (64 - 7 * (i + 1)) + 7 from by omega, Int.pow_add]; rfl
    refine ⟨b % 128 + n * 128, ?_, ?_, by omega, by rw [hp]; omega, by omega⟩
    ·rw [show 9 - i = (9 - (i + 1)) + 1 from by omega]; unfold dgF; rw [if_neg (by omega), h1, show 128 + (b % 128 + n * 128) % 128 = b from by omega, show (b % 128 + n * 128) / 128 = n from by omega]; rfl
    ·rw [h2, Int.pow_succ, Int.add_mul, Int.add_assoc, show n * (128 ^ i * 128) = n * 128 * 128 ^ i from by rw [Int.mul_comm (128 ^ i) 128, Int.mul_assoc]]
theorem tk_some {xs : List Int} {m : Int} {rest : List Int} (hb : Bys xs) (h : tk 0 0 xs = .inl (m, rest)) : xs = dg m ++ rest ∧ 0 ≤ m ∧ m < 18446744073709551616 := by
 obtain ⟨n, h1, h2, h3, h4, _⟩ := tk_inv xs 0 0 m rest hb (by omega) h; have : m = n := by rw [h2]; simp
 subst this; exact ⟨h1, h3, h4⟩
def tkT (most : Int) (xs : List Int) : (List Int × List Int) ⊕ Int :=
 match tk 0 0 xs with
 | .inr e => .inr e
 | .inl (n, r) => if most < 0 ∨ n > most then .inr 6 else if n > (r.length : Int) then .inr 5 else .inl (r.take n.toNat, r.drop n.toNat)
theorem F70_eq (xs : List Int) (most : Int) (hb : Bys xs) (hl : xs.length < 2 ^ 63) (hm : most < lim) : F70 xs most = some (match tkT most xs with | .inl q => r3 q.1 q.2 0 | .inr e => r3 [] xs e) := by
 unfold F70 tkT; rw [F80_eq xs hb]; have hlim : lim = 1099511627776 := rfl; cases h : tk 0 0 xs with
 | inr e =>
  simp only [Option.bind_some]; rcases tk_err h with rfl | rfl <;> rfl
 | inl q =>
  obtain ⟨n, r⟩ := q; obtain ⟨h1, h2, h3⟩ := tk_some hb h; have hr : r.length ≤ xs.length := by rw [h1]; simp
  simp only [Option.bind_some, bne_self_eq_false, cond_false, cif]; by_cases c1 : most < 0
  ·rw [if_pos c1, if_pos (Or.inl c1)]
  ·rw [if_neg c1, wu64 (n := most) (by omega) (by omega), wu64 (n := (r.length : Int)) (by omega) (by omega)]; by_cases c2 : n > most
   ·rw [if_pos c2, if_pos (Or.inr c2)]
   ·rw [if_neg c2, if_neg (show ¬ (most < 0 ∨ n > most) from by omega)]; by_cases c3 : n > (r.length : Int)
    ·rw [if_pos c3, if_pos c3]
    ·rw [if_neg c3, if_neg c3, if_pos (by omega), if_pos (by rw [List.length_take]; omega), if_pos (by omega)]
theorem tkT_app {t rest : List Int} {most : Int} (h : (t.length : Int) ≤ most) (hl : t.length < 2 ^ 63) : tkT most (dgT t ++ rest) = .inl (t, rest) := by
 unfold tkT dgT; rw [List.append_assoc, tk_dg (by omega) (by omega)]; simp only
 rw [if_neg (by omega), if_neg (by simp; omega), Int.toNat_natCast]
 simp
theorem tkT_some {xs t rest : List Int} {most : Int} (hb : Bys xs) (h : tkT most xs = .inl (t, rest)) : xs = dgT t ++ rest ∧ (t.length : Int) ≤ most := by
 unfold tkT at h; split at h
 ·cases h
 ·rename_i n r hk; obtain ⟨h1, h2, h3⟩ := tk_some hb hk; split at h
  ·cases h
  ·split at h
   ·cases h
   ·cases h; have hlen : (r.take n.toNat).length = n.toNat := by rw [List.length_take]; omega
    refine ⟨?_, by rw [hlen]; omega⟩
    unfold dgT; rw [hlen, Int.toNat_of_nonneg h2, List.append_assoc, List.take_append_drop, ← h1]
abbrev tin {α : Type} (x : α) (r : List Int) : (α × Unit) × ((List Int × Unit) × Unit) × Unit := ((x, ()), ((r, ()), ()), ())
abbrev tie (e : Int) (r : List Int) : Int × (Unit × ((List Int × Unit) × Unit) × Unit) := (e, ((), ((r, ()), ()), ()))
def tnum (most : Int) (xs : List Int) : (Int × List Int) ⊕ Int :=
 match tk 0 0 xs with
 | .inr e => .inr e
 | .inl (n, r) => if n > most then .inr 6 else .inl (n, r)
theorem F81_z : F81 0 = some (.inl ((), (), ())) := rfl
theorem F81_n {e : Int} (h : e ≠ 0) : F81 e = some (.inr (e, ((), (), ()))) := by
 unfold F81; rw [show ((e : Int) != 0) = true from by simpa using h]; rfl
theorem F58_eq (most : Int) (xs : List Int) (hb : Bys xs) : F58 most xs = some (match tnum most xs with | .inl q => .inl (tin q.1 q.2) | .inr e => .inr (tie e xs)) := by
 unfold F58 tnum; rw [F80_eq xs hb]; cases h : tk 0 0 xs with
 | inr e =>
  simp only [Option.bind_some]; rcases tk_err h with rfl | rfl <;> rfl
 | inl q =>
  obtain ⟨n, r⟩ := q; simp only [Option.bind_some, F81_z, Sum.elim_inl, cif]; by_cases c : n > most
  ·rw [if_pos c, if_pos c]; rfl
  ·rw [if_neg c, if_neg c]
theorem tnum_some {xs rest : List Int} {n most : Int} (hb : Bys xs) (h : tnum most xs = .inl (n, rest)) : xs = dg n ++ rest ∧ 0 ≤ n ∧ n < 18446744073709551616 ∧ n ≤ most := by
 unfold tnum at h; split at h
 ·cases h
 ·rename_i m r hk; split at h
  ·cases h
  ·cases h; obtain ⟨h1, h2, h3⟩ := tk_some hb hk; exact ⟨h1, h2, h3, by omega⟩
theorem tnum_app {n most : Int} (h0 : 0 ≤ n) (h1 : n < 18446744073709551616) (hm : n ≤ most) (rest : List Int) : tnum most (dg n ++ rest) = .inl (n, rest) := by
 unfold tnum; rw [tk_dg h0 h1]; simp only
 rw [if_neg (by omega)]
theorem F73_eq (xs : List Int) : F73 xs = some (match xs with | [] => .inr (tie 5 []) | b :: r => .inl (tin b r)) := by
 unfold F73; cases xs with
 | nil => rfl
 | cons b r =>
  simp only [Bool.cond_eq_ite, beq_iff_eq, List.length_cons, decide_eq_true_eq]; rw [if_neg (by omega), if_pos (by omega), if_pos (by omega)]; rfl
theorem F60_eq (most : Int) (xs : List Int) (hb : Bys xs) (hl : xs.length < 2 ^ 63) (hm : most < lim) : F60 most xs = some (match tkT most xs with | .inl q => .inl (tin q.1 q.2) | .inr e => .inr (tie e xs)) := by
 unfold F60; rw [F70_eq xs most hb hl hm]; simp only [Option.bind_some]; cases h : tkT most xs with
 | inl q => rfl
 | inr e =>
  have he : e ≠ 0 := by
   unfold tkT at h; split at h
   ·rename_i hk; cases h; rcases tk_err hk with h | h <;> omega
   ·split at h
    ·cases h; omega
    ·split at h
     ·cases h; omega
     ·cases h
  simp only
  rw [F81_n he]; rfl
theorem F61_eq (xs : List Int) : F61 xs = some (match xs with | [] => .inl ((), (([], ()), ()), ()) | b :: r => .inr (tie 4 (b :: r))) := by
 unfold F61; cases xs with
 | nil => rfl
 | cons b r =>
  simp only [cif, List.length_cons]; rw [if_pos (by omega)]; rfl
def dgs : List Int → List Int
 | [] => []
 | n :: l => dg n ++ dgs l
theorem dgs_len : ∀ l, (dgs l).length ≤ 10 * l.length
 | [] => by simp [dgs]
 | n :: l => by have := dgs_len l; have := dg_len n; simp only [dgs, List.length_append, List.length_cons]; omega
theorem dgs_byte : ∀ {l : List Int}, Vok l → Bys (dgs l)
 | [], _ => fun x hx => by cases hx
 | n :: l, h => (dg_byte (h n (List.mem_cons_self ..)).1 (h n (List.mem_cons_self ..)).2).app (dgs_byte fun x hx => h x (List.mem_cons_of_mem _ hx))
def encL (l : List Int) : List Int := dg l.length ++ dgs l
def encV (v : List Int) : List Int := encL (trim v)
theorem encL_len (l : List Int) : (encL l).length ≤ 10 + 10 * l.length := by
 unfold encL; have := dgs_len l; have := dg_len l.length; simp; omega
theorem trim_sub (a : List Int) : ∀ x ∈ trim a, x ∈ a := fun x hx => List.mem_of_mem_take hx
theorem trim_le (a : List Int) : (trim a).length ≤ a.length := by rw [trim_len]; exact trimN_le _ _
theorem L53_run (v : List Int) (hv : Vok v) (hl : v.length < 2 ^ 30) : ∀ (d k : Nat) (q : List Int), k + d = v.length → q.length + 10 * d + 10 < lim → L53_4 v (v.length : Nat) (k : Nat) q = some (((), ()), (), (q ++ dgs (v.drop k), ())) := by
 intro d; induction d with
 | zero =>
  intro k q hk hq; rw [L53_4_eq]; simp only [T53_4, cif]; rw [if_neg (by omega), List.drop_eq_nil_of_le (by omega)]; simp [dgs]
 | succ d ih =>
  intro k q hk hq; have hlt : k < v.length := by omega
  obtain ⟨a0, a1⟩ := hv _ (List.getElem_mem hlt); have hg : v.getD (k : Int).toNat 0 = v[k] := by rw [Int.toNat_natCast, List.getD_eq_getElem?_getD, List.getElem?_eq_getElem hlt]; rfl
  have hw : IntKind.wrap .i64 ((k : Int) + 1) = ((k + 1 : Nat) : Int) := by rw [w64 (by omega) (by omega)]; omega
  rw [L53_4_eq]; simp only [T53_4, cif, hg, hw]; rw [if_pos (by omega), if_pos (by omega), F51_eq _ _ a0 a1 (by omega)]; simp only [Option.bind_some, Sum.elim_inl]; have := dg_len v[k]
  rw [ih (k + 1) _ (by omega) (by simp; omega), List.drop_eq_getElem_cons hlt]
  simp [dgs]
theorem F53_eq (v q : List Int) (hv : Vok v) (hl : v.length < 2 ^ 30) (hq : q.length + 10 * v.length + 30 < lim) : F53 v q = some (ro (q ++ encV v)) := by
 unfold F53; have h1 := trim_le v; have h2 := dg_len (trim v).length; rw [F62_eq v (by omega)]; simp only [Option.bind_some]; rw [wu64 (by omega) (by omega), F51_eq _ _ (by omega) (by omega) (by omega)]; simp only [Option.bind_some]; have := L53_run (trim v) (fun x hx => hv x (trim_sub v x hx)) (by omega) (trim v).length 0 (q ++ dg (trim v).length) (by omega) (by simp; omega)
 rw [show ((0 : Nat) : Int) = 0 from rfl] at this; rw [this]; simp [encV, encL]
def Sml (v : List Int) : Prop := ∀ x ∈ v, 0 ≤ x ∧ x ≤ 9223372036854775807
def rdN : Nat → List Int → (List Int × List Int) ⊕ (Int × List Int)
 | 0, xs => .inl ([], xs)
 | k + 1, xs => match tnum 9223372036854775807 xs with
  | .inr e => .inr (e, xs)
  | .inl (n, r) => match rdN k r with
   | .inl (l, r') => .inl (n :: l, r')
   | .inr e => .inr e
theorem tnum_byte {xs rest : List Int} {n most : Int} (hb : Bys xs) (h : tnum most xs = .inl (n, rest)) : Bys rest := by
 obtain ⟨h1, _⟩ := tnum_some hb h; intro x hx; exact hb x (by rw [h1]; exact List.mem_append.2 (.inr hx))
theorem L59_run : ∀ (d k n : Nat) (xs q : List Int), k + d = n → n ≤ 64 → Bys xs → q.length + d < 1000000 →
  L59_3 (n : Nat) (k : Nat) xs q = some (match rdN d xs with | .inl (l, r) => .inr (((), ()), ((r, ()), ()), (q ++ l, ())) | .inr (e, r) => .inl (tie e r)) := by
 intro d; induction d with
 | zero =>
  intro k n xs q hk hn hb hq; rw [L59_3_eq]; simp only [T59_3, cif]; rw [if_neg (by omega)]; simp [rdN]
 | succ d ih =>
  intro k n xs q hk hn hb hq; rw [L59_3_eq]; simp only [T59_3, cif]; rw [if_pos (by omega), F58_eq _ _ hb]; unfold rdN; cases h : tnum 9223372036854775807 xs with
  | inr e => rfl
  | inl p =>
   obtain ⟨m, r⟩ := p; have hw : IntKind.wrap .u64 ((k : Int) + 1) = ((k + 1 : Nat) : Int) := by rw [wu64 (by omega) (by omega)]; omega
   simp only [Option.bind_some, Sum.elim_inl, hw]; rw [if_pos (by show _ < 1099511627776; simp; omega)]
   simp only [Option.bind_some, Sum.elim_inl]; rw [ih (k + 1) n r (q ++ [m]) (by omega) hn (tnum_byte hb h) (by simp; omega)]
   cases h2 : rdN d r with
   | inr e => rfl
   | inl p => obtain ⟨l, r'⟩ := p; simp
def rdV (xs : List Int) : (List Int × List Int) ⊕ (Int × List Int) :=
 match tnum 64 xs with
 | .inr e => .inr (e, xs)
 | .inl (n, r) => rdN n.toNat r
theorem F59_eq (xs : List Int) (hb : Bys xs) : F59 xs = some (match rdV xs with | .inl (l, r) => .inl (tin l r) | .inr (e, r) => .inr (tie e r)) := by
 unfold F59 rdV; rw [F58_eq _ _ hb]; cases h : tnum 64 xs with
 | inr e => rfl
 | inl p =>
  obtain ⟨n, r⟩ := p; obtain ⟨h1, h2, h3, h4⟩ := tnum_some hb h; simp only [Option.bind_some, Sum.elim_inl]; have := L59_run n.toNat 0 n.toNat r [] (by omega) (by omega) (tnum_byte hb h) (by simp; omega)
  rw [show ((0 : Nat) : Int) = 0 from rfl, Int.toNat_of_nonneg h2] at this; rw [this]; cases h5 : rdN n.toNat r with
  | inr e => rfl
  | inl p => obtain ⟨l, r'⟩ := p; rfl
theorem rdN_app : ∀ (l rest : List Int), Sml l → rdN l.length (dgs l ++ rest) = .inl (l, rest)
 | [], rest, _ => rfl
 | n :: l, rest, h => by
  obtain ⟨h0, h1⟩ := h n (List.mem_cons_self ..); show rdN (l.length + 1) (dg n ++ dgs l ++ rest) = _; unfold rdN; rw [List.append_assoc, tnum_app h0 (by omega) h1]; simp only
  rw [rdN_app l rest fun x hx => h x (List.mem_cons_of_mem _ hx)]
theorem rdV_app (l rest : List Int) (h : Sml l) (hl : l.length ≤ 64) : rdV (encL l ++ rest) = .inl (l, rest) := by
 unfold rdV encL; rw [List.append_assoc, tnum_app (by omega) (by omega) (by omega)]; simp only [Int.toNat_natCast]; exact rdN_app l rest h
theorem rdN_some : ∀ (k : Nat) (xs l rest : List Int), Bys xs → rdN k xs = .inl (l, rest) → xs = dgs l ++ rest ∧ l.length = k ∧ Sml l ∧ Bys rest
 | 0, xs, l, rest, hb, h => by cases h; exact ⟨rfl, rfl, fun x hx => (by cases hx), hb⟩
 | k + 1, xs, l, rest, hb, h => by
  unfold rdN at h; cases h1 : tnum 9223372036854775807 xs with
  | inr e => rw [h1] at h; cases h
  | inl p =>
   obtain ⟨n, r⟩ := p; rw [h1] at h; dsimp only at h; cases h2 : rdN k r with
   | inr e => rw [h2] at h; cases h
   | inl p =>
    obtain ⟨l', r'⟩ := p; rw [h2] at h; cases h; obtain ⟨g1, g2, g3, g4⟩ := tnum_some hb h1; obtain ⟨k1, k2, k3, k4⟩ := rdN_some k r l' rest (tnum_byte hb h1) h2; refine ⟨?_, by simp [k2], fun x hx => ?_, k4⟩
    ·rw [g1, k1]; simp [dgs]
    ·rcases List.mem_cons.1 hx with rfl | hx
     ·exact ⟨g2, g4⟩
     ·exact k3 x hx
theorem rdV_some {xs l rest : List Int} (hb : Bys xs) (h : rdV xs = .inl (l, rest)) : xs = encL l ++ rest ∧ Sml l ∧ l.length ≤ 64 ∧ Bys rest := by
 unfold rdV at h; cases h1 : tnum 64 xs with
 | inr e => rw [h1] at h; cases h
 | inl p =>
  obtain ⟨n, r⟩ := p; rw [h1] at h; obtain ⟨g1, g2, g3, g4⟩ := tnum_some hb h1; obtain ⟨k1, k2, k3, k4⟩ := rdN_some n.toNat r l rest (tnum_byte hb h1) h; refine ⟨?_, k3, by omega, k4⟩; unfold encL; rw [k2, Int.toNat_of_nonneg g2, g1, k1, List.append_assoc]
theorem Sml.trim {v : List Int} (h : Sml v) : Sml (trim v) := fun x hx => h x (trim_sub v x hx)
theorem encL_byte {l : List Int} (h : Vok l) (hl : l.length < 2 ^ 63) : Bys (encL l) := (dg_byte (by omega) (by omega)).app (dgs_byte h)
theorem trim_self {a : List Int} (h : a.length = 0 ∨ gv a (a.length - 1) ≠ 0) : trim a = a := by
 unfold trim; have : trimN a a.length = a.length := by
  cases hn : a.length with
  | zero => rfl
  | succ n =>
   rw [hn] at h; rcases h with h | h
   ·omega
   ·simp only [trimN]; rw [if_neg (show ¬ gv a n = 0 from h)]
 rw [this, List.take_length]
theorem trim_idem (a : List Int) : trim (trim a) = trim a := trim_self (trim_last a)
theorem bytesL_byte (s : ByteArray) : Bys (bytesL s) := fun x hx => by
 unfold bytesL at hx; obtain ⟨b, _, rfl⟩ := List.mem_map.1 hx; have := b.toNat_lt
 omega
theorem strL_bytesL (s : ByteArray) : strL (bytesL s) = s := by
 have : ((fun n : Int => UInt8.ofNat n.toNat) ∘ fun b : UInt8 => (b.toNat : Int)) = id := by funext b; simp
 unfold strL bytesL; apply ByteArray.ext
 simp [this]
structure EvB (e : Ev) : Prop where
 w : EvW e
 text : Bys e.2.2.2.2.2.1
 num : e.2.2.2.2.2.2.1 < 18446744073709551616
theorem dgT_byte {t : List Int} (h : Bys t) (hl : t.length < 2 ^ 63) : Bys (dgT t) := (dg_byte (by omega) (by omega)).app h
end Go.IM.V
namespace Go.IM.Crc
open Go Go.IM
noncomputable def stepI (s : Int) : Int := iXor .u32 (iShr .u32 s 1) (IntKind.wrap .u32 (2197175160 * iAnd .u32 s 1))
noncomputable def stepsI : Nat → Int → Int
 | 0, s => s
 | d + 1, s => stepsI d (stepI s)
noncomputable def sumI : List UInt8 → Int → Int
 | [], s => s
 | b :: r, s => sumI r (stepsI 8 (iXor .u32 s (IntKind.wrap .u32 (b.toNat : Int))))
noncomputable def topI (s : Int) : Int := iShr .u32 s 31
noncomputable def bitI (b : Int) (k : Nat) : Int := iAnd .u32 (IntKind.wrap .u32 (iShr .u8 b ((k : Nat) : Int))) 1
noncomputable def rstepI (b : Int) (k : Nat) (s : Int) : Int := if bitI b k = topI s then iShl .u32 s 1 else iXor .u32 (iShl .u32 s 1) 517762881
noncomputable def rstepsI (b : Int) : Nat → Nat → Int → Int
 | 0, _, s => s
 | d + 1, k, s => rstepsI b d (k + 1) (rstepI b k s)
noncomputable def rsumI : List UInt8 → Int → Int
 | [], s => s
 | b :: r, s => rsumI r (rstepsI (b.toNat : Int) 8 0 s)
noncomputable def turnI (s : Int) : Nat → Nat → Int → Int
 | 0, _, t => t
 | d + 1, k, t => turnI s d (k + 1) (iOr .u32 (iShl .u32 t 1) (iAnd .u32 (iShr .u32 s ((k : Nat) : Int)) 1))
noncomputable def rsum (B : List UInt8) : Int := turnI (iNot .u32 (rsumI B 4294967295)) 32 0 0
/- Plain: the two sums are one. -/
theorem wrap_u32 (n : Int) : IntKind.wrap .u32 n = n % 4294967296 := by
 simp [IntKind.wrap, IntKind.bits, IntKind.signed]
theorem ofInt_toNat (s : BitVec 32) : BitVec.ofInt 32 (s.toNat : Int) = s := by
 apply BitVec.eq_of_toNat_eq
 have := s.isLt
 rw [BitVec.toNat_ofInt]; omega
theorem wrap_bv (s : BitVec 32) : IntKind.wrap .u32 (s.toNat : Int) = (s.toNat : Int) := by
 have := s.isLt
 rw [wrap_u32]; omega
theorem xor_bv (s t : BitVec 32) : iXor .u32 (s.toNat : Int) (t.toNat : Int) = ((s ^^^ t).toNat : Int) := by
 unfold iXor; show IntKind.wrap .u32 ((BitVec.ofInt 32 (s.toNat : Int) ^^^ BitVec.ofInt 32 (t.toNat : Int)).toNat : Int) = _; rw [ofInt_toNat, ofInt_toNat, wrap_bv]
theorem and_bv (s t : BitVec 32) : iAnd .u32 (s.toNat : Int) (t.toNat : Int) = ((s &&& t).toNat : Int) := by
 unfold iAnd; show IntKind.wrap .u32 ((BitVec.ofInt 32 (s.toNat : Int) &&& BitVec.ofInt 32 (t.toNat : Int)).toNat : Int) = _; rw [ofInt_toNat, ofInt_toNat, wrap_bv]
theorem or_bv (s t : BitVec 32) : iOr .u32 (s.toNat : Int) (t.toNat : Int) = ((s ||| t).toNat : Int) := by
 unfold iOr; show IntKind.wrap .u32 ((BitVec.ofInt 32 (s.toNat : Int) ||| BitVec.ofInt 32 (t.toNat : Int)).toNat : Int) = _; rw [ofInt_toNat, ofInt_toNat, wrap_bv]
theorem not_bv (s : BitVec 32) : iNot .u32 (s.toNat : Int) = ((~~~s).toNat : Int) := by
 unfold iNot; have h : (if IntKind.u32.signed then (-1 : Int) else IntKind.u32.max) = ((BitVec.allOnes 32).toNat : Int) := by decide
 rw [h, xor_bv, BitVec.allOnes_xor]
theorem shr_bv (s : BitVec 32) (n : Nat) (hn : n ≤ 32) : iShr .u32 (s.toNat : Int) (n : Int) = ((s >>> n).toNat : Int) := by
 unfold iShr; have h : min (n : Int).toNat IntKind.u32.bits = n := by show min n 32 = n; omega
 rw [h, BitVec.toNat_ushiftRight, Nat.shiftRight_eq_div_pow]; have h2 : ((2 : Int) ^ n) = ((2 ^ n : Nat) : Int) := by simp
 rw [h2, Int.fdiv_eq_ediv_of_nonneg _ (Int.natCast_nonneg _)]; rfl
theorem shl_bv (s : BitVec 32) : iShl .u32 (s.toNat : Int) 1 = ((s <<< 1).toNat : Int) := by
 unfold iShl; have h : min (1 : Int).toNat IntKind.u32.bits = 1 := by decide
 rw [h, wrap_u32, BitVec.toNat_shiftLeft, Nat.shiftLeft_eq]; have := s.isLt
 omega
theorem mul_bv (s : BitVec 32) : IntKind.wrap .u32 (2197175160 * (s.toNat : Int)) = ((2197175160#32 * s).toNat : Int) := by
 rw [wrap_u32, BitVec.toNat_mul]; show _ = ((2197175160 * s.toNat % 2 ^ 32 : Nat) : Int); omega
def pad (b : UInt8) : BitVec 32 := BitVec.ofNat 32 b.toNat
def stepB (s : BitVec 32) : BitVec 32 := (s >>> 1) ^^^ (2197175160#32 * (s &&& 1#32))
def stepsB : Nat → BitVec 32 → BitVec 32
 | 0, s => s
 | d + 1, s => stepsB d (stepB s)
def sumB : List UInt8 → BitVec 32 → BitVec 32
 | [], s => s
 | b :: r, s => sumB r (stepsB 8 (s ^^^ pad b))
theorem step_bv (s : BitVec 32) : stepI (s.toNat : Int) = ((stepB s).toNat : Int) := by
 unfold stepI stepB; have h : iShr .u32 (s.toNat : Int) 1 = ((s >>> 1).toNat : Int) := shr_bv s 1 (by omega); have h2 : iAnd .u32 (s.toNat : Int) 1 = ((s &&& 1#32).toNat : Int) := by
  have := and_bv s 1#32
  exact this
 rw [h, h2, mul_bv, xor_bv]
theorem steps_bv : ∀ (d : Nat) (s : BitVec 32), stepsI d (s.toNat : Int) = ((stepsB d s).toNat : Int) := by
 intro d; induction d with
 | zero => intro s; rfl
 | succ d ih => intro s; rw [stepsI, stepsB, step_bv, ih]
theorem pad_toNat (b : UInt8) : (b.toNat : Int) = ((pad b).toNat : Int) := by
 unfold pad; have := b.toNat_lt
 rw [BitVec.toNat_ofNat]; omega
theorem sum_bv : ∀ (B : List UInt8) (s : BitVec 32), sumI B (s.toNat : Int) = ((sumB B s).toNat : Int) := by
 intro B; induction B with
 | nil => intro s; rfl
 | cons b r ih => intro s; rw [sumI, sumB, pad_toNat, wrap_bv, xor_bv, steps_bv, ih]
def bitStep (β : Bool) (s : BitVec 32) : BitVec 32 := (s >>> 1) ^^^ (if s.getLsbD 0 != β then 2197175160#32 else 0#32)
def bitsStep (b : BitVec 32) : Nat → Nat → BitVec 32 → BitVec 32
 | 0, _, s => s
 | d + 1, k, s => bitsStep b d (k + 1) (bitStep (b.getLsbD k) s)
theorem and_one (s : BitVec 32) : s &&& 1#32 = if s.getLsbD 0 then 1#32 else 0#32 := by
 apply BitVec.eq_of_getLsbD_eq
 intro i hi; rw [BitVec.getLsbD_and]; by_cases h : i = 0
 ·subst h; cases hs : s.getLsbD 0 <;> simp
 ·have : (1#32).getLsbD i = false := by
   rw [BitVec.getLsbD_one]; simp; omega
  rw [this]; cases hs : s.getLsbD 0 <;> simp [this]
theorem stepB_bit (s : BitVec 32) : stepB s = (s >>> 1) ^^^ (if s.getLsbD 0 then 2197175160#32 else 0#32) := by
 unfold stepB; rw [and_one]; cases s.getLsbD 0 <;> simp
theorem split (b : BitVec 32) : ∀ (d k : Nat) (s : BitVec 32), stepsB d (s ^^^ (b >>> k)) = bitsStep b d k s ^^^ (b >>> (k + d)) := by
 intro d; induction d with
 | zero => intro k s; rfl
 | succ d ih =>
  intro k s; rw [stepsB, bitsStep]; have h : stepB (s ^^^ (b >>> k)) = bitStep (b.getLsbD k) s ^^^ (b >>> (k + 1)) := by
   rw [stepB_bit]; unfold bitStep; have e1 : (s ^^^ b >>> k) >>> 1 = s >>> 1 ^^^ b >>> (k + 1) := by
    apply BitVec.eq_of_getLsbD_eq
    intro i hi; simp [BitVec.getLsbD_ushiftRight, Nat.add_comm, Nat.add_left_comm, Nat.add_assoc]
   have e2 : (s ^^^ b >>> k).getLsbD 0 = (s.getLsbD 0 != b.getLsbD k) := by simp
   rw [e1, e2]; rw [BitVec.xor_assoc, BitVec.xor_assoc, BitVec.xor_comm (b >>> (k + 1))]
  rw [h, ih (k + 1), show k + 1 + d = k + (d + 1) by omega]
theorem split8 (b : UInt8) (s : BitVec 32) : stepsB 8 (s ^^^ pad b) = bitsStep (pad b) 8 0 s := by
 have h := split (pad b) 8 0 s; have e0 : pad b >>> 0 = pad b := by simp
 have e8 : pad b >>> (0 + 8) = 0#32 := by
  apply BitVec.eq_of_toNat_eq
  have := b.toNat_lt
  rw [BitVec.toNat_ushiftRight, Nat.shiftRight_eq_div_pow]; unfold pad; rw [BitVec.toNat_ofNat]; simp; omega
 rw [e0, e8] at h; rw [h, BitVec.xor_zero]
/- Plain: the two sums are one (by the highest bit first). -/
def rev (s : BitVec 32) : BitVec 32 := s.reverse
theorem rev_get (s : BitVec 32) (i : Nat) (hi : i < 32) : (rev s).getLsbD i = s.getLsbD (31 - i) := by
 unfold rev; rw [BitVec.getLsbD_reverse, BitVec.getMsbD]; simp [hi]
theorem rev_xor (s t : BitVec 32) : rev (s ^^^ t) = rev s ^^^ rev t := by
 apply BitVec.eq_of_getLsbD_eq
 intro i hi; rw [rev_get _ _ hi, BitVec.getLsbD_xor, BitVec.getLsbD_xor, rev_get _ _ hi, rev_get _ _ hi]
theorem rev_not (s : BitVec 32) : rev (~~~s) = ~~~(rev s) := by
 apply BitVec.eq_of_getLsbD_eq
 intro i hi; rw [rev_get _ _ hi, BitVec.getLsbD_not, BitVec.getLsbD_not, rev_get _ _ hi]; simp [hi]; omega
theorem rev_rev (s : BitVec 32) : rev (rev s) = s := by
 apply BitVec.eq_of_getLsbD_eq
 intro i hi; rw [rev_get _ _ hi, rev_get _ _ (by omega)]
 congr 1; omega
theorem rev_shr (s : BitVec 32) : rev (s >>> 1) = rev s <<< 1 := by
 apply BitVec.eq_of_getLsbD_eq
 intro i hi; rw [rev_get _ _ hi, BitVec.getLsbD_ushiftRight, BitVec.getLsbD_shiftLeft]; by_cases h : i = 0
 ·subst h; simp
 ·rw [rev_get _ _ (by omega)]; have : 1 + (31 - i) = 31 - (i - 1) := by omega
  rw [this]; simp [hi]; omega
def rstepB (β : Bool) (s : BitVec 32) : BitVec 32 := (s <<< 1) ^^^ (if s.getLsbD 31 != β then 517762881#32 else 0#32)
theorem rstep_rev (β : Bool) (s : BitVec 32) : rstepB β (rev s) = rev (bitStep β s) := by
 unfold rstepB bitStep; rw [rev_xor, rev_shr, rev_get _ _ (by omega)]; have e1 : rev 2197175160#32 = 517762881#32 := by decide +kernel
 have e2 : rev 0#32 = 0#32 := by decide +kernel
 congr 1
 by_cases h : (s.getLsbD (31 - 31) != β) = true
 ·have h2 : (s.getLsbD 0 != β) = true := h; rw [if_pos h, if_pos h2, e1]
 ·have h2 : ¬ (s.getLsbD 0 != β) = true := h; rw [if_neg h, if_neg h2, e2]
theorem bit_toNat (s : BitVec 32) : ((s &&& 1#32).toNat : Int) = if s.getLsbD 0 then 1 else 0 := by
 rw [and_one]; cases s.getLsbD 0 <;> simp
theorem bit_bv (b : UInt8) (k : Nat) (hk : k < 8) : bitI (b.toNat : Int) k = if (pad b).getLsbD k then 1 else 0 := by
 unfold bitI; have h1 : iShr .u8 (b.toNat : Int) (k : Int) = ((pad b >>> k).toNat : Int) := by
  have := shr_bv (pad b) k (by omega)
  rw [← pad_toNat] at this; rw [← this]; unfold iShr; have e : min (k : Int).toNat IntKind.u8.bits = min (k : Int).toNat IntKind.u32.bits := by show min k 8 = min k 32; omega
  rw [e]
 rw [h1, wrap_bv]; have h2 := and_bv (pad b >>> k) 1#32; have h3 : iAnd .u32 ((pad b >>> k).toNat : Int) 1 = (((pad b >>> k) &&& 1#32).toNat : Int) := h2; rw [h3, bit_toNat]; simp
theorem top_bv (s : BitVec 32) : topI (s.toNat : Int) = if s.getLsbD 31 then 1 else 0 := by
 unfold topI; have h : iShr .u32 (s.toNat : Int) 31 = ((s >>> 31).toNat : Int) := shr_bv s 31 (by omega); rw [h]; have h2 : s >>> 31 = (s >>> 31) &&& 1#32 := by
  apply BitVec.eq_of_getLsbD_eq
  intro i hi; rw [BitVec.getLsbD_and, BitVec.getLsbD_ushiftRight, BitVec.getLsbD_one]; by_cases h : i = 0
  ·subst h; simp
  ·rw [BitVec.getLsbD_of_ge _ _ (by omega)]; simp
 rw [h2, bit_toNat]; simp
theorem rstep_bv (b : UInt8) (k : Nat) (hk : k < 8) (s : BitVec 32) : rstepI (b.toNat : Int) k (s.toNat : Int) = ((rstepB ((pad b).getLsbD k) s).toNat : Int) := by
 unfold rstepI rstepB; rw [bit_bv b k hk, top_bv, shl_bv]; have hx : iXor .u32 ((s <<< 1).toNat : Int) 517762881 = ((s <<< 1 ^^^ 517762881#32).toNat : Int) := xor_bv (s <<< 1) 517762881#32; rw [hx]; cases (pad b).getLsbD k <;> cases s.getLsbD 31 <;> simp
theorem rsteps_bv (b : UInt8) : ∀ (d k : Nat), k + d ≤ 8 → ∀ (s : BitVec 32), rstepsI (b.toNat : Int) d k ((rev s).toNat : Int) = ((rev (bitsStep (pad b) d k s)).toNat : Int) := by
 intro d; induction d with
 | zero => intro k _ s; rfl
 | succ d ih =>
  intro k hk s; rw [rstepsI, bitsStep, rstep_bv b k (by omega), rstep_rev, ih (k + 1) (by omega)]
theorem rsum_bv : ∀ (B : List UInt8) (s : BitVec 32), rsumI B ((rev s).toNat : Int) = ((rev (sumB B s)).toNat : Int) := by
 intro B; induction B with
 | nil => intro s; rfl
 | cons b r ih => intro s; rw [rsumI, sumB, rsteps_bv b 8 0 (by omega), ih, split8]
def turnB (s : BitVec 32) : Nat → Nat → BitVec 32 → BitVec 32
 | 0, _, t => t
 | d + 1, k, t => turnB s d (k + 1) ((t <<< 1) ||| ((s >>> k) &&& 1#32))
theorem turn_bv (s : BitVec 32) : ∀ (d k : Nat), k + d ≤ 32 → ∀ (t : BitVec 32), turnI (s.toNat : Int) d k (t.toNat : Int) = ((turnB s d k t).toNat : Int) := by
 intro d; induction d with
 | zero => intro k _ t; rfl
 | succ d ih =>
  intro k hk t; rw [turnI, turnB, shl_bv, shr_bv s k (by omega)]; have h3 : iAnd .u32 ((s >>> k).toNat : Int) 1 = (((s >>> k) &&& 1#32).toNat : Int) := and_bv (s >>> k) 1#32; rw [h3, or_bv, ih (k + 1) (by omega)]
theorem turn_spec (s : BitVec 32) : ∀ (d k : Nat), k + d = 32 → ∀ (t : BitVec 32), (∀ j, j < 32 → t.getLsbD j = (decide (j < k) && s.getLsbD (k - 1 - j))) → turnB s d k t = rev s := by
 intro d; induction d with
 | zero =>
  intro k hk t ht; obtain rfl : k = 32 := by omega
  apply BitVec.eq_of_getLsbD_eq
  intro i hi; show t.getLsbD i = _; rw [ht i hi, rev_get _ _ hi]; simp [hi]
 | succ d ih =>
  intro k hk t ht; rw [turnB]; refine ih (k + 1) (by omega) _ fun j hj => ?_
  rw [BitVec.getLsbD_or, BitVec.getLsbD_shiftLeft, BitVec.getLsbD_and, BitVec.getLsbD_ushiftRight, BitVec.getLsbD_one]; by_cases h0 : j = 0
  ·subst h0; simp
  ·rw [ht (j - 1) (by omega)]; have e : k - 1 - (j - 1) = k + 1 - 1 - j := by omega
   rw [e]; by_cases hjk : j < k + 1
   ·have : j - 1 < k := by omega
    simp [hjk, this, hj, h0]
   ·have : ¬ j - 1 < k := by omega
    simp [hjk, this, h0]
theorem sums_alike (B : List UInt8) : iNot .u32 (sumI B 4294967295) = rsum B := by
 have e1 : (4294967295 : Int) = ((BitVec.allOnes 32).toNat : Int) := by decide
 have e2 : (4294967295 : Int) = ((rev (BitVec.allOnes 32)).toNat : Int) := by decide +kernel
 unfold rsum; have h1 : sumI B 4294967295 = ((sumB B (BitVec.allOnes 32)).toNat : Int) := by rw [e1, sum_bv]
 have h2 : rsumI B 4294967295 = ((rev (sumB B (BitVec.allOnes 32))).toNat : Int) := by rw [e2, rsum_bv]
 rw [h1, h2, not_bv, not_bv]; have h3 := turn_bv (~~~(rev (sumB B (BitVec.allOnes 32)))) 32 0 (by omega) 0#32; have e0 : ((0#32).toNat : Int) = 0 := by decide
 rw [e0] at h3; rw [h3, turn_spec _ 32 0 rfl 0#32 (fun j _ => by simp), rev_not, rev_rev]
end Go.IM.Crc
namespace Go.IM.V
open Go Go.IM Go.Proofs
open Go.IM.Crc
def toB (xs : List Int) : List UInt8 := xs.map fun n => UInt8.ofNat n.toNat
theorem toB_get {xs : List Int} (hb : Bys xs) {i : Nat} (h : i < xs.length) : xs.getD i 0 = (((toB xs)[i]'(by simpa [toB] using h)).toNat : Int) := by
 have := hb _ (List.getElem_mem h)
 rw [List.getD_eq_getElem?_getD, List.getElem?_eq_getElem h]; simp only [toB, List.getElem_map, Option.getD_some, UInt8.toNat_ofNat']; omega
theorem toB_len (xs : List Int) : (toB xs).length = xs.length := by simp [toB]
theorem L11a_run (a7 : List Int) (a8 a9 : Int) : ∀ (d k : Nat) (s : Int), k + d = 8 → L72_7 s a7 a8 a9 (k : Nat) = some (r1 (stepsI d s)) := by
 intro d; induction d with
 | zero =>
  intro k s hk; rw [L72_7_eq]; simp only [T72_7, cif]; rw [if_neg (by omega)]; rfl
 | succ d ih =>
  intro k s hk; have hw : IntKind.wrap .i64 ((k : Int) + 1) = ((k + 1 : Nat) : Int) := by rw [w64 (by omega) (by omega)]; omega
  rw [L72_7_eq]; simp only [T72_7, cif]; rw [if_pos (by omega), hw]; simp only [Option.bind_some, Sum.elim_inl]; exact ih (k + 1) _ (by omega)
theorem L72_run (xs : List Int) (hb : Bys xs) (hl : xs.length < 2 ^ 62) : ∀ (d i : Nat) (s : Int), i + d = xs.length → L72_3 s xs (xs.length : Nat) (i : Nat) = some (r1 (sumI ((toB xs).drop i) s)) := by
 intro d; induction d with
 | zero =>
  intro i s hi; rw [L72_3_eq]; simp only [T72_3, cif]; rw [if_neg (by omega), List.drop_eq_nil_of_le (by rw [toB_len]; omega)]
  rfl
 | succ d ih =>
  intro i s hi; have hlt : i < xs.length := by omega
  have hw : IntKind.wrap .i64 ((i : Int) + 1) = ((i + 1 : Nat) : Int) := by rw [w64 (by omega) (by omega)]; omega
  have h8 := fun s => L11a_run xs (xs.length : Nat) (i : Nat) 8 0 s (by omega)
  rw [show ((0 : Nat) : Int) = 0 from rfl] at h8; rw [L72_3_eq]; simp only [T72_3, cif]; rw [if_pos (by omega), if_pos (by omega), h8, hw]; simp only [Option.bind_some, Sum.elim_inl, Int.toNat_natCast, toB_get hb hlt]; rw [ih (i + 1) _ (by omega), List.drop_eq_getElem_cons (l := toB xs) (i := i) (by rw [toB_len]; omega)]
  rfl
noncomputable def crc (xs : List Int) : Int := rsum (toB xs)
theorem F72_eq (xs : List Int) (hb : Bys xs) (hl : xs.length < 2 ^ 62) : F72 xs = some (r1 (crc xs)) := by
 unfold F72 crc; have := L72_run xs hb hl xs.length 0 4294967295 (by omega)
 rw [show ((0 : Nat) : Int) = 0 from rfl] at this; rw [this, ← sums_alike]; rfl
def four (n : Int) : List Int := [IntKind.wrap .u8 (iShr .u32 n 24), IntKind.wrap .u8 (iShr .u32 n 16), IntKind.wrap .u8 (iShr .u32 n 8), IntKind.wrap .u8 n]
theorem four_byte (n : Int) : Bys (four n) := fun x hx => by
 simp only [four, List.mem_cons, List.not_mem_nil, or_false] at hx; rcases hx with rfl | rfl | rfl | rfl <;> rw [wu8_mod] <;> omega
theorem four_len (n : Int) : (four n).length = 4 := rfl
theorem F71_eq (n : Int) : F71 n = some (r1 (four n)) := rfl
noncomputable def rcd (p : List Int) : List Int := dgT p ++ four (crc (dgT p))
theorem rcd_byte {p : List Int} (h : Bys p) (hl : p.length < 2 ^ 63) : Bys (rcd p) := (dgT_byte h hl).app (four_byte _)
theorem rcd_len (p : List Int) : (rcd p).length = (dg p.length).length + p.length + 4 := by unfold rcd dgT; simp [four_len]; omega
theorem F49_eq (p : List Int) (hb : Bys p) (hl : p.length < 4294967296) : F49 p = some (ro (rcd p)) := by
 have h1 := dgT_len p; have hlim : lim = 1099511627776 := rfl; unfold F49; rw [F52_eq _ _ hl (by simp; omega)]
 simp only [Option.bind_some, List.nil_append]; rw [F72_eq _ (dgT_byte hb (by omega)) (by omega)]; simp only [Option.bind_some, F71_eq, cif]; rw [if_pos (by rw [four_len]; omega)]
 rfl
noncomputable def opn (most : Int) (xs : List Int) : (List Int × List Int) ⊕ Int :=
 match tkT most xs with
 | .inr e => .inr e
 | .inl (t, r) => if r.length < 4 then .inr 5 else if four (crc (xs.take (xs.length - r.length))) = r.take 4 then .inl (t, r.drop 4) else .inr 4
theorem tkT_err {most e : Int} {xs : List Int} (h : tkT most xs = .inr e) : e = 4 ∨ e = 5 ∨ e = 6 := by
 unfold tkT at h; split at h
 ·rename_i hk; cases h; rcases tk_err hk with h | h <;> omega
 ·split at h
  ·cases h; omega
  ·split at h
   ·cases h; omega
   ·cases h
theorem F70_eq' (xs : List Int) (most : Int) (hb : Bys xs) (hl : xs.length < lim) (hm : most < 9223372036854775808) : F70 xs most = some (match tkT most xs with | .inl q => r3 q.1 q.2 0 | .inr e => r3 [] xs e) := by
 unfold F70 tkT; rw [F80_eq xs hb]; have hlim : lim = 1099511627776 := rfl; cases h : tk 0 0 xs with
 | inr e =>
  simp only [Option.bind_some]; rcases tk_err h with rfl | rfl <;> rfl
 | inl q =>
  obtain ⟨n, r⟩ := q; obtain ⟨h1, h2, h3⟩ := tk_some hb h; have hr : r.length ≤ xs.length := by rw [h1]; simp
  simp only [Option.bind_some, bne_self_eq_false, cond_false, cif]; by_cases c1 : most < 0
  ·rw [if_pos c1, if_pos (Or.inl c1)]
  ·rw [if_neg c1, wu64 (n := most) (by omega) (by omega), wu64 (n := (r.length : Int)) (by omega) (by omega)]; by_cases c2 : n > most
   ·rw [if_pos c2, if_pos (Or.inr c2)]
   ·rw [if_neg c2, if_neg (show ¬ (most < 0 ∨ n > most) from by omega)]; by_cases c3 : n > (r.length : Int)
    ·rw [if_pos c3, if_pos c3]
    ·rw [if_neg c3, if_neg c3, if_pos (by omega), if_pos (by rw [List.length_take]; omega), if_pos (by omega)]
theorem F37_eq (xs : List Int) (most : Int) (hb : Bys xs) (hl : xs.length < lim) (hm : most < 9223372036854775808) :
  F37 xs most = some (match opn most xs with | .inl q => r3 q.1 q.2 0 | .inr e => r3 [] xs e) := by
 have hlim : lim = 1099511627776 := rfl; unfold F37 opn; rw [F70_eq' xs most hb hl hm]; cases h : tkT most xs with
 | inr e =>
  simp only [Option.bind_some]; rcases tkT_err h with rfl | rfl | rfl <;> rfl
 | inl q =>
  obtain ⟨t, r⟩ := q; obtain ⟨h1, h2⟩ := tkT_some hb h; have hr : r.length ≤ xs.length := by rw [h1]; simp
  have br : Bys r := fun x hx => hb x (by rw [h1]; exact List.mem_append.2 (.inr hx))
  have hw : IntKind.wrap .i64 ((xs.length : Int) - (r.length : Int)) = ((xs.length - r.length : Nat) : Int) := by rw [w64 (by omega) (by omega)]; omega
  simp only [Option.bind_some, bne_self_eq_false, cond_false, cif, hw, Int.toNat_natCast]; by_cases c4 : r.length < 4
  ·rw [if_pos (by omega), if_pos c4]
  ·rw [if_neg (by omega), if_neg c4, if_pos (by omega), F72_eq _ (hb.take _) (by rw [List.length_take]; omega)]
   simp only [Option.bind_some, F71_eq]; have h4 : (4 : Int).toNat = 4 := rfl; rw [if_pos (by omega), h4, strL_beq (four_byte _) (br.take 4)]; by_cases ce : four (crc (xs.take (xs.length - r.length))) = r.take 4
   ·rw [decide_eq_true ce, if_pos ce]; simp only [Bool.not_true, cond_false]; rw [if_pos (by omega)]
   ·rw [decide_eq_false ce, if_neg ce]; rfl
theorem opn_app {t rest : List Int} {most : Int} (h : (t.length : Int) ≤ most) (hl : t.length < 2 ^ 63) : opn most (rcd t ++ rest) = .inl (t, rest) := by
 unfold opn rcd; rw [List.append_assoc, tkT_app h hl]; dsimp only; have e1 : (four (crc (dgT t)) ++ rest).length = 4 + rest.length := by rw [List.length_append, four_len]
 rw [if_neg (by omega)]; have e2 : (dgT t ++ (four (crc (dgT t)) ++ rest)).take ((dgT t ++ (four (crc (dgT t)) ++ rest)).length - (four (crc (dgT t)) ++ rest).length) = dgT t := by
  rw [List.length_append, Nat.add_sub_cancel, List.take_left]
 rw [e2, List.take_left' (four_len _), List.drop_left' (four_len _), if_pos rfl]
end Go.IM.V
namespace Go.IM.V
open Go Go.IM Go.Proofs
theorem lt_lim {n : Nat} (h : n < 200000000) : n < lim := by unfold lim; omega
abbrev Rw : Type := Int × List Int × Int × Unit
structure RwOK (r : Rw) : Prop where
 n0 : 0 ≤ r.1
 n1 : r.1 ≤ 63
 v : Sml r.2.1
 l : r.2.1.length ≤ 64
 t0 : 0 ≤ r.2.2.1
 t1 : r.2.2.1 ≤ 9223372036854775807
theorem encV_len {v : List Int} {n : Nat} (h : v.length ≤ n) : (encV v).length ≤ 10 + 10 * n := by
 unfold encV; have := encL_len (trim v)
 have := trim_le v
 omega
theorem Sml.vk {v : List Int} (h : Sml v) : Vok v := fun x hx => by have := h x hx; omega
section
variable (x0 x1 x2 : Int) (x3 : Bool) (x4 : Int) (x5 : List Int) (x7 : List Ev) (x8 x9 x10 x11 : Int) (x12 : List Int) (x13 : Int)
end
structure EvR (e : Ev) : Prop where
 r : rgt e = 0
 w : EvW e
 l : (encE e).length ≤ 1000
 b : Bys (encE e)
section
variable (x0 x1 x2 : Int) (x3 : Bool) (x4 : Int) (x5 : List Int) (x6 : List Rw) (x8 x9 x10 x11 : Int) (x12 : List Int) (x13 : Int)
end
end Go.IM.V
namespace Go.IM.V
open Go Go.IM Go.Proofs
structure LOK (k f t : Int) (mine : Bool) (ser : Int) (hv : List Int) (rs : List Rw) (es : List Ev) (tm sz sum at' : Int) (bs : List Int) (why : Int) : Prop where
 k1 : 1 ≤ k
 k7 : k ≤ 7
 f0 : 0 ≤ f
 f1 : f ≤ 63
 t0 : 0 ≤ t
 t1 : t ≤ 63
 s0 : 0 ≤ ser
 s1 : ser ≤ 9223372036854775807
 v : Sml hv
 vl : hv.length ≤ 64
 r : ∀ r ∈ rs, RwOK r
 rl : rs.length ≤ 64
 e : ∀ e ∈ es, EvR e
 el : es.length ≤ 1000
 tm0 : 0 ≤ tm
 tm1 : tm < 18446744073709551616
 sz0 : 0 ≤ sz
 sz1 : sz < 18446744073709551616
 sm0 : 0 ≤ sum
 sm1 : sum < 4294967296
 at0 : 0 ≤ at'
 at1 : at' < 18446744073709551616
 b : Bys bs
 bl : bs.length ≤ 1000
 w0 : 0 ≤ why
 w1 : why ≤ 65536
theorem encV_byte {v : List Int} (h : Sml v) (hl : v.length ≤ 64) : Bys (encV v) := by
 have := trim_le v
 exact encL_byte h.trim.vk (by omega)
variable {k f t : Int} {mine : Bool} {ser : Int} {hv : List Int} {rs : List Rw} {es : List Ev} {tm sz sum at' : Int} {bs : List Int} {why : Int}
end Go.IM.V
namespace Go.IM.V
open Go Go.IM Go.Proofs
theorem tnum_len {xs rest : List Int} {n most : Int} (hb : Bys xs) (h : tnum most xs = .inl (n, rest)) : rest.length ≤ xs.length := by
 obtain ⟨h1, _⟩ := tnum_some hb h; rw [h1, List.length_append]; omega
theorem rdV_len {xs l rest : List Int} (hb : Bys xs) (h : rdV xs = .inl (l, rest)) : rest.length ≤ xs.length := by
 obtain ⟨h1, _⟩ := rdV_some hb h; rw [h1, List.length_append]; omega
section
variable (k f t : Int) (mine : Bool) (ser : Int) (hv : List Int)
end
end Go.IM.V
namespace Go.IM.V
open Go Go.IM Go.Proofs
end Go.IM.V
namespace Go.IM.V
open Go Go.IM Go.Proofs
abbrev DMf : Type := (Int × (Int × ((List Int) × (Int × (ByteArray × Unit)))))
abbrev tDMf : Ty := (.p (.i .i64) (.p (.i .u64) (.p (.l (.i .u64)) (.p (.i .u64) (.p .s .u)))))
noncomputable def b79b : Code := (.seq (.region 0 (regOf Try.f79 0) false) (.seq (.seq (.region 1 (regOf Try.f79 1) false) (.cond (.tmp 4) (.seq (.region 2 (regOf Try.f79 2) false) .ret) .skip)) (.seq (.region 3 (regOf Try.f79 3) false) .ret)))
theorem body79b : Try.f79.body = some b79b := by kernel_rfl
noncomputable def C79b : Tab := []
theorem C79b_ok : TabOK TP C79b := trivial
noncomputable def LO79b : Tab := []
noncomputable def i79b : Tm := { sl := [(0, .v (.l (.i .u64)))], bx := [], bf := [] }
noncomputable def o79b : OT := (.ret { sl := [(0, .o 0)], bx := [], bf := [(.i .u64)] })
noncomputable def F79b (a0 : (List Int)) : Option ((Unit × Unit) × Unit × ((List Int) × Unit)) :=
 (nilBr a0.length (some (((), ()), (), (([] : List Int), ()))) (bif (decide ((([] : List Int)).length + a0.length < lim)) then (some (((), ()), (), ((([] : List Int) ++ a0), ()))) else none))
noncomputable def c79b : Con := ⟨i79b, o79b, fun x => F79b x.1.1⟩
theorem e79b (x : i79b.E) : vfn TP C79b LO79b Try.f79 b79b i79b o79b x = c79b.F x := by kernel_rfl
theorem c79b_ok : Con.OK TP 79 c79b := (fn_ok C79b_ok (fun _ => rfl) Try.func79 body79b (noL (by kernel_rfl)) i79b o79b).congr fun x => (e79b x).symm
noncomputable def F79h (a0 : (List Int)) : Option ((Unit × Unit) × (((List Int) × Unit) × Unit) × Unit) := (F79b a0).bind fun y => bif List.isEmpty (α := Int) y.2.2.1 then none else some (((), ()), (((y.2.2.1, ()), ()), ()))
noncomputable def c79h : Con := ⟨i79b, (.ret { sl := [(0, .m (.i .u64) 0)], bx := [[.r (.i .u64)]], bf := [] }), fun x => F79h x.1.1⟩
theorem c79h_ok : Con.OK TP 79 c79h := heat (ik := .u64) rfl rfl c79b_ok
noncomputable def b76 : Code := (.seq (.region 0 (regOf Try.f76 0) false) (.seq (.region 1 (regOf Try.f76 1) false) .ret))
theorem body76 : Try.f76.body = some b76 := by kernel_rfl
noncomputable def C76 : Tab := [(91, c91)]
theorem C76_ok : TabOK TP C76 := ⟨c91_ok, trivial⟩
noncomputable def LO76 : Tab := []
noncomputable def i76 : Tm := { sl := [(0, .v .s), (1, .fn 41)], bx := [], bf := [] }
noncomputable def o76 : OT := (.ret { sl := [(0, .v (.i .i64))], bx := [], bf := [] })
noncomputable def F76 (a0 : ByteArray) : Option ((Int × Unit) × Unit × Unit) :=
 ((F91 a0 true).bind fun y0 => (some ((y0.1.1, ()), (), ())))
noncomputable def c76 : Con := ⟨i76, o76, fun x => F76 x.1.1⟩
theorem e76 (x : i76.E) : vfn TP C76 LO76 Try.f76 b76 i76 o76 x = c76.F x := by kernel_rfl
theorem c76_ok : Con.OK TP 76 c76 := (fn_ok C76_ok (fun _ => rfl) Try.func76 body76 (noL (by kernel_rfl)) i76 o76).congr fun x => (e76 x).symm
noncomputable def b40 : Code := (.seq (.region 0 (regOf Try.f40 0) false) (.seq (.region 1 (regOf Try.f40 1) false) .ret))
theorem body40 : Try.f40.body = some b40 := by kernel_rfl
noncomputable def C40 : Tab := [(76, c76)]
theorem C40_ok : TabOK TP C40 := ⟨c76_ok, trivial⟩
noncomputable def LO40 : Tab := []
noncomputable def i40 : Tm := { sl := [(0, .v .s), (1, .fn 41)], bx := [], bf := [] }
noncomputable def o40 : OT := (.ret { sl := [(0, .v .b)], bx := [], bf := [] })
noncomputable def F40 (a0 : ByteArray) : Option ((Bool × Unit) × Unit × Unit) :=
 ((F76 a0).bind fun y0 => (some (((decide (y0.1.1 ≥ 0)), ()), (), ())))
noncomputable def c40 : Con := ⟨i40, o40, fun x => F40 x.1.1⟩
theorem e40 (x : i40.E) : vfn TP C40 LO40 Try.f40 b40 i40 o40 x = c40.F x := by kernel_rfl
theorem c40_ok : Con.OK TP 40 c40 := (fn_ok C40_ok (fun _ => rfl) Try.func40 body40 (noL (by kernel_rfl)) i40 o40).congr fun x => (e40 x).symm
noncomputable def b16 : Code := (.seq (.region 0 (regOf Try.f16 0) false) (.seq (.region 1 (regOf Try.f16 1) false) .ret))
theorem body16 : Try.f16.body = some b16 := by kernel_rfl
noncomputable def C16 : Tab := [(40, c40)]
theorem C16_ok : TabOK TP C16 := ⟨c40_ok, trivial⟩
noncomputable def LO16 : Tab := []
noncomputable def i16 : Tm := { sl := [(0, .v .s)], bx := [], bf := [] }
noncomputable def o16 : OT := (.ret { sl := [(0, .v .b)], bx := [], bf := [] })
noncomputable def F16 (a0 : ByteArray) : Option ((Bool × Unit) × Unit × Unit) :=
 (bif (!((a0 : ByteArray).toList == ((⟨#[]⟩ : ByteArray) : ByteArray).toList)) then (bif (decide (((a0.size : Nat) : Int) ≤ 48)) then ((F40 a0).bind fun y0 => (some (((!y0.1.1), ()), (), ()))) else (some ((false, ()), (), ()))) else (some ((false, ()), (), ())))
noncomputable def c16 : Con := ⟨i16, o16, fun x => F16 x.1.1⟩
theorem e16 (x : i16.E) : vfn TP C16 LO16 Try.f16 b16 i16 o16 x = c16.F x := by kernel_rfl
theorem c16_ok : Con.OK TP 16 c16 := (fn_ok C16_ok (fun _ => rfl) Try.func16 body16 (noL (by kernel_rfl)) i16 o16).congr fun x => (e16 x).symm
noncomputable def l63_2 : Code := (.seq (.seq (.region 2 (regOf Try.f63 2) false) (.cond (.tmp 15) .skip (.exit 0))) (.seq (.block 1 (.seq (.region 4 (regOf Try.f63 4) false) (.cond (.tmp 24) (.seq (.region 5 (regOf Try.f63 5) false) .ret) .skip))) (.region 3 (regOf Try.f63 3) false)))
noncomputable def b63 : Code := (.seq (.region 0 (regOf Try.f63 0) false) (.seq (.seq (.region 1 (regOf Try.f63 1) false) (.block 0 (.loop l63_2))) (.seq (.region 6 (regOf Try.f63 6) false) .ret)))
theorem body63 : Try.f63.body = some b63 := by kernel_rfl
noncomputable def C63_2 : Tab := [(82, c82)]
theorem C63_2_ok : TabOK TP C63_2 := ⟨c82_ok, trivial⟩
noncomputable def LO63_2 : Tab := []
noncomputable def i63_2 : Tm := { sl := [(0, .v (.l (.i .u64))), (1, .v (.l (.i .u64))), (5, .v (.i .i64))], bx := [], bf := [] }
noncomputable def o63_2 : OT := (.two (.ret { sl := [(4, .v .b)], bx := [], bf := [] }) (.exit 0 { sl := [], bx := [], bf := [] }))
noncomputable def T63_2 (a0 : (List Int)) (a1 : (List Int)) (a5 : Int) : Option ((((List Int) × ((List Int) × (Int × Unit))) × Unit × Unit) ⊕ (((Bool × Unit) × Unit × Unit) ⊕ (Unit × Unit × Unit))) :=
 (bif (decide (a5 < ((a0.length : Nat) : Int))) then ((F82 a0 a5).bind fun y0 => ((F82 a1 a5).bind fun y1 => (bif (y0.1.1 != y1.1.1) then (some (.inr (.inl ((false, ()), (), ())))) else (some (.inl ((a0, a1, (IntKind.wrap .i64 (a5 + 1)), ()), (), ())))))) else (bif (decide (a5 < ((a1.length : Nat) : Int))) then ((F82 a0 a5).bind fun y2 => ((F82 a1 a5).bind fun y3 => (bif (y2.1.1 != y3.1.1) then (some (.inr (.inl ((false, ()), (), ())))) else (some (.inl ((a0, a1, (IntKind.wrap .i64 (a5 + 1)), ()), (), ())))))) else (some (.inr (.inr ((), (), ()))))))
noncomputable def L63_2 (a0 : (List Int)) (a1 : (List Int)) (a5 : Int) : Option (((Bool × Unit) × Unit × Unit) ⊕ (Unit × Unit × Unit)) := loopF (fun x : (((List Int) × ((List Int) × (Int × Unit))) × Unit × Unit) => T63_2 x.1.1 x.1.2.1 x.1.2.2.1) ((a0, a1, a5, ()), (), ())
theorem L63_2_eq (a0 : (List Int)) (a1 : (List Int)) (a5 : Int) : L63_2 a0 a1 a5 = (T63_2 a0 a1 a5).bind (Sum.elim (fun x => L63_2 x.1.1 x.1.2.1 x.1.2.2.1) some) := loopF_eq _ _
noncomputable def k63_2 : Con := ⟨i63_2, o63_2, fun x => L63_2 x.1.1 x.1.2.1 x.1.2.2.1⟩
theorem e63_2 (x : i63_2.E) : vround TP C63_2 LO63_2 Try.f63.ntmps l63_2 i63_2 o63_2 x = T63_2 x.1.1 x.1.2.1 x.1.2.2.1 := by kernel_rfl
theorem k63_2_ok : Con.LOK TP Try.f63.ntmps l63_2 k63_2 := (loop_ok C63_2_ok (noL (by kernel_rfl)) i63_2 o63_2).congr fun x => (congrArg (fun T => loopF T x) (funext e63_2)).symm
noncomputable def C63 : Tab := [(82, c82)]
theorem C63_ok : TabOK TP C63 := ⟨c82_ok, trivial⟩
noncomputable def LO63 : Tab := [(2, k63_2)]
noncomputable def i63 : Tm := { sl := [(0, .v (.l (.i .u64))), (1, .v (.l (.i .u64)))], bx := [], bf := [] }
noncomputable def o63 : OT := (.ret { sl := [(0, .v .b)], bx := [], bf := [] })
noncomputable def F63 (a0 : (List Int)) (a1 : (List Int)) : Option ((Bool × Unit) × Unit × Unit) :=
 ((L63_2 a0 a1 0).bind fun y0 => (Sum.elim (fun y1 => (some ((y1.1.1, ()), (), ()))) (fun y1 => (some ((true, ()), (), ()))) y0))
noncomputable def c63 : Con := ⟨i63, o63, fun x => F63 x.1.1 x.1.2.1⟩
theorem e63 (x : i63.E) : vfn TP C63 LO63 Try.f63 b63 i63 o63 x = c63.F x := by kernel_rfl
theorem c63_ok : Con.OK TP 63 c63 := (fn_ok C63_ok (fun _ => rfl) Try.func63 body63 (loops_of (l := [l63_2]) (by kernel_rfl) (show LoopsOK TP Try.f63.ntmps [l63_2] LO63 from ⟨k63_2_ok, trivial⟩)) i63 o63).congr fun x => (e63 x).symm
noncomputable def l54_4 : Code := (.seq (.seq (.region 4 (regOf Try.f54 4) false) (.cond (.tmp 21) .skip (.exit 0))) (.block 1 (.region 5 (regOf Try.f54 5) false)))
noncomputable def b54 : Code := (.seq (.region 0 (regOf Try.f54 0) false) (.seq (.seq (.region 1 (regOf Try.f54 1) false) (.cond (.tmp 13) (.seq (.region 2 (regOf Try.f54 2) false) .ret) .skip)) (.seq (.region 3 (regOf Try.f54 3) false) (.seq (.block 0 (.loop l54_4)) (.seq (.region 6 (regOf Try.f54 6) false) (.seq (.region 7 (regOf Try.f54 7) false) .ret))))))
theorem body54 : Try.f54.body = some b54 := by kernel_rfl
noncomputable def C54_4 : Tab := []
theorem C54_4_ok : TabOK TP C54_4 := trivial
noncomputable def LO54_4 : Tab := []
noncomputable def i54_4 : Tm := { sl := [(1, .v (.i .i64)), (2, .v (.i .u64)), (7, .m (.i .u64) 0)], bx := [[.r (.i .u64)]], bf := [] }
noncomputable def o54_4 : OT := (.exit 0 { sl := [(7, .m (.i .u64) 1)], bx := [[.g], [.r (.i .u64)]], bf := [] })
noncomputable def T54_4 (a1 : Int) (a2 : Int) (b0_0 : (List Int)) : Option (((Int × (Int × (Unit × Unit))) × (((List Int) × Unit) × Unit) × Unit) ⊕ ((Unit × Unit) × ((Unit × Unit) × (((List Int) × Unit) × Unit)) × Unit)) :=
 (bif (decide (((b0_0.length : Nat) : Int) ≤ a1)) then (bif (decide ((b0_0).length + ([0]).length < lim)) then (some (.inl ((a1, a2, (), ()), (((b0_0 ++ [0]), ()), ()), ()))) else none) else (some (.inr (((), ()), (((), ()), (b0_0, ()), ()), ()))))
noncomputable def L54_4 (a1 : Int) (a2 : Int) (b0_0 : (List Int)) : Option ((Unit × Unit) × ((Unit × Unit) × (((List Int) × Unit) × Unit)) × Unit) := loopF (fun x : ((Int × (Int × (Unit × Unit))) × (((List Int) × Unit) × Unit) × Unit) => T54_4 x.1.1 x.1.2.1 x.2.1.1.1) ((a1, a2, (), ()), ((b0_0, ()), ()), ())
theorem L54_4_eq (a1 : Int) (a2 : Int) (b0_0 : (List Int)) : L54_4 a1 a2 b0_0 = (T54_4 a1 a2 b0_0).bind (Sum.elim (fun x => L54_4 x.1.1 x.1.2.1 x.2.1.1.1) some) := loopF_eq _ _
noncomputable def k54_4 : Con := ⟨i54_4, o54_4, fun x => L54_4 x.1.1 x.1.2.1 x.2.1.1.1⟩
theorem e54_4 (x : i54_4.E) : vround TP C54_4 LO54_4 Try.f54.ntmps l54_4 i54_4 o54_4 x = T54_4 x.1.1 x.1.2.1 x.2.1.1.1 := by kernel_rfl
theorem k54_4_ok : Con.LOK TP Try.f54.ntmps l54_4 k54_4 := (loop_ok C54_4_ok (noL (by kernel_rfl)) i54_4 o54_4).congr fun x => (congrArg (fun T => loopF T x) (funext e54_4)).symm
noncomputable def C54 : Tab := [(62, c62), (79, c79h)]
theorem C54_ok : TabOK TP C54 := ⟨c62_ok, c79h_ok, trivial⟩
noncomputable def LO54 : Tab := [(4, k54_4)]
noncomputable def i54 : Tm := { sl := [(0, .v (.l (.i .u64))), (1, .v (.i .i64)), (2, .v (.i .u64))], bx := [], bf := [] }
noncomputable def o54 : OT := (.ret { sl := [(0, .v (.l (.i .u64)))], bx := [], bf := [] })
noncomputable def F54 (a0 : (List Int)) (a1 : Int) (a2 : Int) : Option (((List Int) × Unit) × Unit × Unit) :=
 (bif (decide (a1 < 0)) then ((F62 a0).bind fun y0 => (some ((y0.1.1, ()), (), ()))) else (bif (decide (a1 ≥ 64)) then ((F62 a0).bind fun y1 => (some ((y1.1.1, ()), (), ()))) else ((F79h a0).bind fun y2 => ((L54_4 a1 a2 y2.2.1.1.1).bind fun y3 => (bif (decide (0 ≤ a1 ∧ a1 < ((y3.2.1.2.1.1.length : Nat) : Int))) then (bif (decide (a1.toNat < y3.2.1.2.1.1.length)) then ((F62 ((y3.2.1.2.1.1).set a1.toNat a2)).bind fun y4 => (some ((y4.1.1, ()), (), ()))) else none) else none)))))
noncomputable def c54 : Con := ⟨i54, o54, fun x => F54 x.1.1 x.1.2.1 x.1.2.2.1⟩
theorem e54 (x : i54.E) : vfn TP C54 LO54 Try.f54 b54 i54 o54 x = c54.F x := by kernel_rfl
theorem c54_ok : Con.OK TP 54 c54 := (fn_ok C54_ok (fun _ => rfl) Try.func54 body54 (loops_of (l := [l54_4]) (by kernel_rfl) (show LoopsOK TP Try.f54.ntmps [l54_4] LO54 from ⟨k54_4_ok, trivial⟩)) i54 o54).congr fun x => (e54 x).symm
noncomputable def l24_6 : Code := (.seq (.seq (.region 6 (regOf Try.f24 6) false) (.cond (.tmp 26) .skip (.exit 0))) (.seq (.block 1 (.region 8 (regOf Try.f24 8) true)) (.region 7 (regOf Try.f24 7) false)))
noncomputable def b24 : Code := (.seq (.region 0 (regOf Try.f24 0) false) (.seq (.seq (.region 1 (regOf Try.f24 1) false) (.cond (.tmp 7) (.seq (.region 2 (regOf Try.f24 2) false) (.seq (.region 3 (regOf Try.f24 3) false) (.seq (.region 4 (regOf Try.f24 4) false) (.seq (.seq (.region 5 (regOf Try.f24 5) false) (.block 0 (.loop l24_6))) (.seq (.region 9 (regOf Try.f24 9) false) (.cond (.tmp 42) (.region 10 (regOf Try.f24 10) false) .skip)))))) .skip)) (.seq (.region 11 (regOf Try.f24 11) false) .ret)))
theorem body24 : Try.f24.body = some b24 := by kernel_rfl
noncomputable def C24_6 : Tab := [(54, c54), (55, c55)]
theorem C24_6_ok : TabOK TP C24_6 := ⟨c54_ok, c55_ok, trivial⟩
noncomputable def LO24_6 : Tab := []
noncomputable def i24_6 : Tm := { sl := [(2, .p 0 0), (4, .p 1 0), (5, .v (.i .i64))], bx := [[.v (.i .i64), .v (.i .u64), .v (.l (.i .u64)), .v (.i .u64), .v .s], [.v (.i .i64), .v (.i .u64), .v (.l (.i .u64)), .v (.i .u64), .v .s]], bf := [] }
noncomputable def o24_6 : OT := (.exit 0 { sl := [], bx := [[.v (.i .i64), .v (.i .u64), .v (.l (.i .u64)), .v (.i .u64), .v .s], [.v (.i .i64), .v (.i .u64), .v (.l (.i .u64)), .v (.i .u64), .v .s]], bf := [] })
noncomputable def T24_6 (a5 : Int) (b0_0 : Int) (b0_1 : Int) (b0_2 : (List Int)) (b0_3 : Int) (b0_4 : ByteArray) (b1_0 : Int) (b1_1 : Int) (b1_2 : (List Int)) (b1_3 : Int) (b1_4 : ByteArray) : Option (((Unit × (Unit × (Int × Unit))) × (DMf × (DMf × Unit)) × Unit) ⊕ (Unit × (DMf × (DMf × Unit)) × Unit)) :=
 (bif (decide (a5 < ((b0_2.length : Nat) : Int))) then ((F55 b0_2 a5).bind fun y0 => ((F54 b0_2 a5 (y0.1.1.tmod 4611686018427387904)).bind fun y1 => (some (.inl (((), (), (IntKind.wrap .i64 (a5 + 1)), ()), ((b0_0, b0_1, y1.1.1, b0_3, b0_4, ()), (b1_0, b1_1, b1_2, b1_3, b1_4, ()), ()), ()))))) else (some (.inr ((), ((b0_0, b0_1, b0_2, b0_3, b0_4, ()), (b1_0, b1_1, b1_2, b1_3, b1_4, ()), ()), ()))))
noncomputable def L24_6 (a5 : Int) (b0_0 : Int) (b0_1 : Int) (b0_2 : (List Int)) (b0_3 : Int) (b0_4 : ByteArray) (b1_0 : Int) (b1_1 : Int) (b1_2 : (List Int)) (b1_3 : Int) (b1_4 : ByteArray) : Option (Unit × (DMf × (DMf × Unit)) × Unit) := loopF (fun x : ((Unit × (Unit × (Int × Unit))) × (DMf × (DMf × Unit)) × Unit) => T24_6 x.1.2.2.1 x.2.1.1.1 x.2.1.1.2.1 x.2.1.1.2.2.1 x.2.1.1.2.2.2.1 x.2.1.1.2.2.2.2.1 x.2.1.2.1.1 x.2.1.2.1.2.1 x.2.1.2.1.2.2.1 x.2.1.2.1.2.2.2.1 x.2.1.2.1.2.2.2.2.1) (((), (), a5, ()), ((b0_0, b0_1, b0_2, b0_3, b0_4, ()), (b1_0, b1_1, b1_2, b1_3, b1_4, ()), ()), ())
theorem L24_6_eq (a5 : Int) (b0_0 : Int) (b0_1 : Int) (b0_2 : (List Int)) (b0_3 : Int) (b0_4 : ByteArray) (b1_0 : Int) (b1_1 : Int) (b1_2 : (List Int)) (b1_3 : Int) (b1_4 : ByteArray) : L24_6 a5 b0_0 b0_1 b0_2 b0_3 b0_4 b1_0 b1_1 b1_2 b1_3 b1_4 = (T24_6 a5 b0_0 b0_1 b0_2 b0_3 b0_4 b1_0 b1_1 b1_2 b1_3 b1_4).bind (Sum.elim (fun x => L24_6 x.1.2.2.1 x.2.1.1.1 x.2.1.1.2.1 x.2.1.1.2.2.1 x.2.1.1.2.2.2.1 x.2.1.1.2.2.2.2.1 x.2.1.2.1.1 x.2.1.2.1.2.1 x.2.1.2.1.2.2.1 x.2.1.2.1.2.2.2.1 x.2.1.2.1.2.2.2.2.1) some) := loopF_eq _ _
noncomputable def k24_6 : Con := ⟨i24_6, o24_6, fun x => L24_6 x.1.2.2.1 x.2.1.1.1 x.2.1.1.2.1 x.2.1.1.2.2.1 x.2.1.1.2.2.2.1 x.2.1.1.2.2.2.2.1 x.2.1.2.1.1 x.2.1.2.1.2.1 x.2.1.2.1.2.2.1 x.2.1.2.1.2.2.2.1 x.2.1.2.1.2.2.2.2.1⟩
theorem e24_6 (x : i24_6.E) : vround TP C24_6 LO24_6 Try.f24.ntmps l24_6 i24_6 o24_6 x = T24_6 x.1.2.2.1 x.2.1.1.1 x.2.1.1.2.1 x.2.1.1.2.2.1 x.2.1.1.2.2.2.1 x.2.1.1.2.2.2.2.1 x.2.1.2.1.1 x.2.1.2.1.2.1 x.2.1.2.1.2.2.1 x.2.1.2.1.2.2.2.1 x.2.1.2.1.2.2.2.2.1 := by kernel_rfl
theorem k24_6_ok : Con.LOK TP Try.f24.ntmps l24_6 k24_6 := (loop_ok C24_6_ok (noL (by kernel_rfl)) i24_6 o24_6).congr fun x => (congrArg (fun T => loopF T x) (funext e24_6)).symm
noncomputable def C24 : Tab := [(16, c16), (54, c54), (55, c55)]
theorem C24_ok : TabOK TP C24 := ⟨c16_ok, c54_ok, c55_ok, trivial⟩
noncomputable def LO24 : Tab := [(6, k24_6)]
noncomputable def i24 : Tm := { sl := [(0, .v tDMf), (1, .v (.i .u8))], bx := [], bf := [] }
noncomputable def o24 : OT := (.ret { sl := [(0, .v tDMf)], bx := [], bf := [] })
noncomputable def F24 (a0 : DMf) (a1 : Int) : Option ((DMf × Unit) × Unit × Unit) :=
 (bif (decide (a1 ≥ 64)) then ((L24_6 0 (IntKind.wrap .i64 (((IntKind.wrap .u64 a0.1) : Int).tmod 64)) ((a0.2.1 : Int).tmod 4611686018427387904) a0.2.2.1 ((a0.2.2.2.1 : Int).tmod 4611686018427387904) a0.2.2.2.2.1 0 0 ([] : List Int) 0 ByteArray.empty).bind fun y0 => ((F16 y0.2.1.1.2.2.2.2.1).bind fun y1 => (bif (!y1.1.1) then (some (((y0.2.1.1.1, (y0.2.1.1.2.1, (y0.2.1.1.2.2.1, (y0.2.1.1.2.2.2.1, ((⟨#[]⟩ : ByteArray), ()))))), ()), (), ())) else (some ((y0.2.1.1, ()), (), ()))))) else (some ((a0, ()), (), ())))
noncomputable def c24 : Con := ⟨i24, o24, fun x => F24 x.1.1 x.1.2.1⟩
theorem e24 (x : i24.E) : vfn TP C24 LO24 Try.f24 b24 i24 o24 x = c24.F x := by kernel_rfl
theorem c24_ok : Con.OK TP 24 c24 := (fn_ok C24_ok (fun _ => rfl) Try.func24 body24 (loops_of (l := [l24_6]) (by kernel_rfl) (show LoopsOK TP Try.f24.ntmps [l24_6] LO24 from ⟨k24_6_ok, trivial⟩)) i24 o24).congr fun x => (e24 x).symm
noncomputable def b30 : Code := (.seq (.region 0 (regOf Try.f30 0) false) (.seq (.region 1 (regOf Try.f30 1) false) .ret))
theorem body30 : Try.f30.body = some b30 := by kernel_rfl
noncomputable def C30 : Tab := [(63, c63)]
theorem C30_ok : TabOK TP C30 := ⟨c63_ok, trivial⟩
noncomputable def LO30 : Tab := []
noncomputable def i30 : Tm := { sl := [(0, .v tDMf), (1, .v tDMf)], bx := [], bf := [] }
noncomputable def o30 : OT := (.ret { sl := [(0, .v .b)], bx := [], bf := [] })
noncomputable def F30 (a0 : DMf) (a1 : DMf) : Option ((Bool × Unit) × Unit × Unit) :=
 (bif ((a0.1 : Int) == a1.1) then (bif ((a0.2.1 : Int) == a1.2.1) then (bif ((a0.2.2.2.1 : Int) == a1.2.2.2.1) then (bif ((a0.2.2.2.2.1 : ByteArray).toList == (a1.2.2.2.2.1 : ByteArray).toList) then ((F63 a0.2.2.1 a1.2.2.1).bind fun y0 => (some ((y0.1.1, ()), (), ()))) else (some ((false, ()), (), ()))) else (some ((false, ()), (), ()))) else (some ((false, ()), (), ()))) else (some ((false, ()), (), ())))
noncomputable def c30 : Con := ⟨i30, o30, fun x => F30 x.1.1 x.1.2.1⟩
theorem e30 (x : i30.E) : vfn TP C30 LO30 Try.f30 b30 i30 o30 x = c30.F x := by kernel_rfl
theorem c30_ok : Con.OK TP 30 c30 := (fn_ok C30_ok (fun _ => rfl) Try.func30 body30 (noL (by kernel_rfl)) i30 o30).congr fun x => (e30 x).symm
noncomputable def b21 : Code := (.seq (.region 0 (regOf Try.f21 0) false) (.seq (.region 1 (regOf Try.f21 1) true) (.seq (.region 2 (regOf Try.f21 2) true) .ret)))
theorem body21 : Try.f21.body = some b21 := by kernel_rfl
noncomputable def C21 : Tab := [(51, c51), (52, c52), (53, c53)]
theorem C21_ok : TabOK TP C21 := ⟨c51_ok, c52_ok, c53_ok, trivial⟩
noncomputable def LO21 : Tab := []
noncomputable def i21 : Tm := { sl := [(0, .v tDMf)], bx := [], bf := [] }
noncomputable def o21 : OT := (.ret { sl := [(0, .o 0)], bx := [], bf := [(.i .u8)] })
noncomputable def F21 (a0 : DMf) : Option ((Unit × Unit) × Unit × ((List Int) × Unit)) :=
 ((F51 (IntKind.wrap .u64 a0.1) ([] : List Int)).bind fun y0 => ((F51 a0.2.1 y0.2.2.1).bind fun y1 => ((F53 a0.2.2.1 y1.2.2.1).bind fun y2 => ((F51 a0.2.2.2.1 y2.2.2.1).bind fun y3 => ((F52 (bytesL a0.2.2.2.2.1) y3.2.2.1).bind fun y4 => (some (((), ()), (), (y4.2.2.1, ()))))))))
noncomputable def c21 : Con := ⟨i21, o21, fun x => F21 x.1.1⟩
theorem e21 (x : i21.E) : vfn TP C21 LO21 Try.f21 b21 i21 o21 x = c21.F x := by kernel_rfl
theorem c21_ok : Con.OK TP 21 c21 := (fn_ok C21_ok (fun _ => rfl) Try.func21 body21 (noL (by kernel_rfl)) i21 o21).congr fun x => (e21 x).symm
noncomputable def b29 : Code := (.seq (.region 0 (regOf Try.f29 0) false) (.seq (.region 1 (regOf Try.f29 1) false) (.seq (.region 2 (regOf Try.f29 2) false) (.seq (.region 3 (regOf Try.f29 3) false) (.seq (.region 4 (regOf Try.f29 4) false) (.seq (.seq (.region 5 (regOf Try.f29 5) true) (.cond (.tmp 41) (.seq (.region 6 (regOf Try.f29 6) false) .ret) .skip)) (.seq (.region 7 (regOf Try.f29 7) false) .ret)))))))
theorem body29 : Try.f29.body = some b29 := by kernel_rfl
noncomputable def C29 : Tab := [(16, c16), (57, c57), (58, c58), (59, c59), (60, c60), (61, c61), (62, c62)]
theorem C29_ok : TabOK TP C29 := ⟨c16_ok, c57_ok, c58_ok, c59_ok, c60_ok, c61_ok, c62_ok, trivial⟩
noncomputable def LO29 : Tab := []
noncomputable def i29 : Tm := { sl := [(0, .v (.l (.i .u8)))], bx := [], bf := [] }
noncomputable def o29 : OT := (.ret { sl := [(0, .v tDMf), (1, .v (.i .i64))], bx := [], bf := [] })
noncomputable def F29 (a0 : (List Int)) : Option ((DMf × (Int × Unit)) × Unit × Unit) :=
 ((F57 a0).bind fun y0 => ((F58 63 y0.2.1.1.1).bind fun y1 => (Sum.elim (fun y2 => ((F58 9223372036854775807 y2.2.1.1.1).bind fun y3 => (Sum.elim (fun y4 => ((F59 y4.2.1.1.1).bind fun y5 => (Sum.elim (fun y6 => ((F58 9223372036854775807 y6.2.1.1.1).bind fun y7 => (Sum.elim (fun y8 => ((F60 48 y8.2.1.1.1).bind fun y9 => (Sum.elim (fun y10 => ((F61 y10.2.1.1.1).bind fun y11 => (Sum.elim (fun y12 => ((F62 y6.1.1).bind fun y13 => (bif (((y13.1.1.length : Nat) : Int) != ((y6.1.1.length : Nat) : Int)) then (some (((0, (0, (([] : List Int), (0, (ByteArray.empty, ()))))), 4, ()), (), ())) else (bif (!(((strL y10.1.1) : ByteArray).toList == ((⟨#[]⟩ : ByteArray) : ByteArray).toList)) then ((F16 (strL y10.1.1)).bind fun y14 => (bif (!y14.1.1) then (some (((0, (0, (([] : List Int), (0, (ByteArray.empty, ()))))), 4, ()), (), ())) else (some ((((IntKind.wrap .i64 y2.1.1), (y4.1.1, (y6.1.1, (y8.1.1, ((strL y10.1.1), ()))))), 0, ()), (), ())))) else (some ((((IntKind.wrap .i64 y2.1.1), (y4.1.1, (y6.1.1, (y8.1.1, ((strL y10.1.1), ()))))), 0, ()), (), ())))))) (fun y12 => (some (((0, (0, (([] : List Int), (0, (ByteArray.empty, ()))))), y12.1, ()), (), ()))) y11))) (fun y10 => (some (((0, (0, (([] : List Int), (0, (ByteArray.empty, ()))))), y10.1, ()), (), ()))) y9))) (fun y8 => (some (((0, (0, (([] : List Int), (0, (ByteArray.empty, ()))))), y8.1, ()), (), ()))) y7))) (fun y6 => (some (((0, (0, (([] : List Int), (0, (ByteArray.empty, ()))))), y6.1, ()), (), ()))) y5))) (fun y4 => (some (((0, (0, (([] : List Int), (0, (ByteArray.empty, ()))))), y4.1, ()), (), ()))) y3))) (fun y2 => (some (((0, (0, (([] : List Int), (0, (ByteArray.empty, ()))))), y2.1, ()), (), ()))) y1)))
noncomputable def c29 : Con := ⟨i29, o29, fun x => F29 x.1.1⟩
theorem e29 (x : i29.E) : vfn TP C29 LO29 Try.f29 b29 i29 o29 x = c29.F x := by kernel_rfl
theorem c29_ok : Con.OK TP 29 c29 := (fn_ok C29_ok (fun _ => rfl) Try.func29 body29 (noL (by kernel_rfl)) i29 o29).congr fun x => (e29 x).symm
end Go.IM.V
namespace Go.IM.V
open Go Go.IM Go.Proofs
def isEmp (s : ByteArray) : Bool := s.toList == (⟨#[]⟩ : ByteArray).toList
def nmd (s : ByteArray) : Bool := (!(isEmp s)) && decide (((s.size : Nat) : Int) ≤ 48) && !(decide (idx (hasBadF s (s.size + 1) 0) ≥ 0))
theorem F16_eq (s : ByteArray) : F16 s = some (r1 (nmd s)) := by
 unfold F16 F40 F76 F91 nmd isEmp; simp only [cond_true, Option.bind_some]; cases (s.toList == (⟨#[]⟩ : ByteArray).toList) <;> cases decide (((s.size : Nat) : Int) ≤ 48) <;> rfl
theorem nmd_le {s : ByteArray} (h : nmd s = true) : s.size ≤ 48 := by
 unfold nmd at h; simp only [Bool.and_eq_true, decide_eq_true_eq] at h; have := h.1.2
 omega
structure MOK (m : DMf) : Prop where
 n0 : 0 ≤ m.1
 n1 : m.1 ≤ 63
 s0 : 0 ≤ m.2.1
 s1 : m.2.1 ≤ 9223372036854775807
 f : Sml m.2.2.1
 fl : m.2.2.1.length ≤ 64
 t0 : 0 ≤ m.2.2.2.1
 t1 : m.2.2.2.1 ≤ 9223372036854775807
 d : isEmp m.2.2.2.2.1 = true ∨ nmd m.2.2.2.2.1 = true
structure MTy (m : DMf) : Prop where
 s0 : 0 ≤ m.2.1
 s1 : m.2.1 < 18446744073709551616
 f : Vok m.2.2.1
 fl : m.2.2.1.length ≤ 64
 t0 : 0 ≤ m.2.2.2.1
 t1 : m.2.2.2.1 < 18446744073709551616
theorem F79h_eq (v : List Int) (h0 : 0 < v.length) (hl : v.length < 2 ^ 39) : F79h v = some (((), ()), (((v, ()), ()), ())) := by
 unfold F79h F79b nilBr; rw [decide_eq_true h0, decide_eq_true (show (([] : List Int)).length + v.length < lim by unfold lim; simp; omega)]
 cases v with
 | nil => cases h0
 | cons a l => rfl
theorem F54_eq (v : List Int) (k : Nat) (x : Int) (hk : k < v.length) (hl : v.length ≤ 64) : F54 v (k : Int) x = some (r1 (trim (v.set k x))) := by
 unfold F54; rw [decide_eq_false (show ¬ (k : Int) < 0 by omega), decide_eq_false (show ¬ (k : Int) ≥ 64 by omega), F79h_eq v (by omega) (by omega)]; simp only [cond_false, Option.bind_some]; have hL : L54_4 (k : Int) x v = some (((), ()), (((), ()), (v, ()), ()), ()) := by
  rw [L54_4_eq]; unfold T54_4; rw [decide_eq_false (show ¬ ((v.length : Nat) : Int) ≤ (k : Int) by omega)]; rfl
 rw [hL]; simp only [Option.bind_some]; rw [decide_eq_true (show 0 ≤ (k : Int) ∧ (k : Int) < ((v.length : Nat) : Int) by omega), decide_eq_true (show (k : Int).toNat < v.length by omega)]; simp only [cond_true, Int.toNat_natCast]; rw [F62_eq _ (by rw [List.length_set]; omega)]
 rfl
theorem Vok.set {v : List Int} (h : Vok v) {x : Int} (hx : 0 ≤ x ∧ x < 18446744073709551616) (k : Nat) : Vok (v.set k x) := fun y hy => by
 rcases List.mem_or_eq_of_mem_set hy with q | q
 ·exact h y q
 ·rw [q]; exact hx
theorem Vok.trim {v : List Int} (h : Vok v) : Vok (trim v) := fun x hx => h x (trim_sub v x hx)
def encM (m : DMf) : List Int := dg m.1 ++ dg m.2.1 ++ encV m.2.2.1 ++ dg m.2.2.2.1 ++ dgT (bytesL m.2.2.2.2.1)
theorem encM_len (m : DMf) (h : MOK m) (hd : m.2.2.2.2.1.size ≤ 60) : (encM m).length ≤ 800 := by
 have h1 := dg_len m.1; have h2 := dg_len m.2.1; have h3 := encV_len h.fl; have h4 := dg_len m.2.2.2.1; have h5 := dgT_len (bytesL m.2.2.2.2.1); rw [bytesL_len] at h5; unfold encM; simp only [List.length_append]; omega
theorem F21_eq (m : DMf) (h : MOK m) (hd : m.2.2.2.2.1.size ≤ 60) : F21 m = some (ro (encM m)) := by
 have h1 := dg_len m.1; have h2 := dg_len m.2.1; have h3 := encV_len h.fl; have h4 := dg_len m.2.2.2.1; have hfl := h.fl; have := h.n0; have := h.n1; have := h.s0; have := h.s1; have := h.t0; have := h.t1
 unfold F21; rw [wu64 (by omega) (by omega), F51_eq m.1 [] (by omega) (by omega) (lt_lim (by simp))]; simp only [Option.bind_some, List.nil_append]; rw [F51_eq m.2.1 _ (by omega) (by omega) (lt_lim (by omega))]; simp only [Option.bind_some]; rw [F53_eq _ _ h.f.vk (by omega) (lt_lim (by simp only [List.length_append]; omega))]
 simp only [Option.bind_some]; rw [F51_eq m.2.2.2.1 _ (by omega) (by omega) (lt_lim (by simp only [List.length_append]; omega))]
 simp only [Option.bind_some]; rw [F52_eq _ _ (by rw [bytesL_len]; omega) (lt_lim (by simp only [List.length_append, bytesL_len]; omega))]
 rfl
end Go.IM.V
namespace Go.IM.V
open Go Go.IM Go.Proofs
abbrev END : Int := 9223372036854775807
abbrev zM : DMf := (0, (0, (([] : List Int), (0, (ByteArray.empty, ())))))
def decM (s : List Int) : DMf ⊕ Int :=
 match tnum 63 s with
 | .inr e => .inr e
 | .inl (n, r1) => match tnum END r1 with
  | .inr e => .inr e
  | .inl (sr, r2) => match rdV r2 with
   | .inr (e, _) => .inr e
   | .inl (l, r3) => match tnum END r3 with
    | .inr e => .inr e
    | .inl (t, r4) => match tkT 48 r4 with
     | .inr e => .inr e
     | .inl (x, r5) => match r5 with
      | _ :: _ => .inr 4
      | [] => if (trim l).length = l.length ∧ (isEmp (strL x) = true ∨ nmd (strL x) = true) then .inl (n, sr, l, t, strL x, ()) else .inr 4
theorem F29_eq (s : List Int) (hb : Bys s) (hl : s.length < 2 ^ 40) : F29 s = some (match decM s with | .inl m => ((m, 0, ()), (), ()) | .inr e => ((zM, e, ()), (), ())) := by
 unfold F29 F57 decM; simp only [Option.bind_some]; rw [F58_eq _ _ hb]; cases h1 : tnum 63 s with
 | inr e => simp only [Option.bind_some, Sum.elim_inr]
 | inl q1 =>
  obtain ⟨n, r1⟩ := q1; have hb1 := tnum_byte hb h1; have hl1 := tnum_len hb h1; obtain ⟨_, n0, _, n1⟩ := tnum_some hb h1; simp only [Option.bind_some, Sum.elim_inl]; rw [F58_eq _ _ hb1]; cases h2 : tnum END r1 with
  | inr e => simp only [Option.bind_some, Sum.elim_inr]
  | inl q2 =>
   obtain ⟨sr, r2⟩ := q2; have hb2 := tnum_byte hb1 h2; have hl2 := tnum_len hb1 h2; simp only [Option.bind_some, Sum.elim_inl]; rw [F59_eq _ hb2]; cases h3 : rdV r2 with
   | inr q3 => obtain ⟨e, r⟩ := q3; simp only [Option.bind_some, Sum.elim_inr]
   | inl q3 =>
    obtain ⟨l, r3⟩ := q3; obtain ⟨_, s3, l3, hb3⟩ := rdV_some hb2 h3; have hl3 := rdV_len hb2 h3; simp only [Option.bind_some, Sum.elim_inl]; rw [F58_eq _ _ hb3]; cases h4 : tnum END r3 with
    | inr e => simp only [Option.bind_some, Sum.elim_inr]
    | inl q4 =>
     obtain ⟨t, r4⟩ := q4; have hb4 := tnum_byte hb3 h4; have hl4 := tnum_len hb3 h4; simp only [Option.bind_some, Sum.elim_inl]; rw [F60_eq _ _ hb4 (by omega) (by unfold lim; decide)]
     cases h5 : tkT 48 r4 with
     | inr e => simp only [Option.bind_some, Sum.elim_inr]
     | inl q5 =>
      obtain ⟨x, r5⟩ := q5; simp only [Option.bind_some, Sum.elim_inl]; rw [F61_eq]; cases r5 with
      | cons a r => simp only [Option.bind_some, Sum.elim_inr]
      | nil =>
       simp only [Option.bind_some, Sum.elim_inl]; rw [F62_eq l (by omega), F16_eq]; simp only [Option.bind_some]; rw [w64 (n := n) (by omega) (by omega)]; by_cases he : (trim l).length = l.length
       ·rw [show ((((trim l).length : Nat) : Int) != ((l.length : Nat) : Int)) = false by rw [he]; simp]
        simp only [cond_false]; cases hq : ((strL x : ByteArray).toList == ((⟨#[]⟩ : ByteArray) : ByteArray).toList) with
        | true =>
         rw [if_pos ⟨he, .inl hq⟩]; rfl
        | false =>
         simp only [Bool.not_false, cond_true]; cases hn : nmd (strL x) with
         | true =>
          rw [if_pos ⟨he, .inr rfl⟩]; rfl
         | false =>
          rw [if_neg (fun q => by
           rcases q.2 with q | q
           ·unfold isEmp at q; rw [hq] at q; cases q
           ·cases q)]
          rfl
       ·rw [show ((((trim l).length : Nat) : Int) != ((l.length : Nat) : Int)) = true by rw [bne_iff_ne]; omega]
        rw [if_neg (fun q => he q.1)]; rfl
theorem isEmp_eq {s : ByteArray} (h : isEmp s = true) : s.size = 0 := by
 unfold isEmp at h; rw [beq_iff_eq, toListB, toListB] at h; have : s.size = s.data.toList.length := by simp
 rw [this, h]; rfl
theorem MOK.dl {m : DMf} (h : MOK m) : m.2.2.2.2.1.size ≤ 48 := by
 rcases h.d with q | q
 ·rw [isEmp_eq q]; omega
 ·exact nmd_le q
theorem decM_app (m : DMf) (h : MOK m) : decM (encM m) = .inl (m.1, m.2.1, trim m.2.2.1, m.2.2.2.1, m.2.2.2.2.1, ()) := by
 have hd := h.dl; have hfl := h.fl; have := h.n0; have := h.n1; have := h.s0; have := h.s1; have := h.t0; have := h.t1
 have htl := trim_le m.2.2.1; have e : encM m = dg m.1 ++ (dg m.2.1 ++ (encL (trim m.2.2.1) ++ (dg m.2.2.2.1 ++ (dgT (bytesL m.2.2.2.2.1) ++ [])))) := by
  unfold encM encV; simp only [List.append_assoc, List.append_nil]
 unfold decM; rw [e, tnum_app (by omega) (by omega) (by omega)]; dsimp only; rw [tnum_app (by omega) (by omega) (by omega)]; dsimp only; rw [rdV_app _ _ h.f.trim (by omega)]; dsimp only; rw [tnum_app (by omega) (by omega) (by omega)]; dsimp only; rw [tkT_app (by rw [bytesL_len]; omega) (by rw [bytesL_len]; omega)]
 dsimp only; rw [strL_bytesL, if_pos ⟨by rw [trim_idem], h.d⟩]
theorem L63_run (a b : List Int) (ha : a.length ≤ 64) (hb : b.length ≤ 64) (h : ∀ k, gv a k = gv b k) : ∀ (d k : Nat), k + d = 65 → L63_2 a b (k : Nat) = some (.inr ((), (), ())) := by
 intro d; induction d with
 | zero =>
  intro k hk; rw [L63_2_eq]; unfold T63_2; rw [decide_eq_false (show ¬ (k : Int) < ((a.length : Nat) : Int) by omega), decide_eq_false (show ¬ (k : Int) < ((b.length : Nat) : Int) by omega)]; rfl
 | succ d ih =>
  intro k hk; rw [L63_2_eq]; unfold T63_2; rw [F82_nat, F82_nat]; simp only [Option.bind_some]; rw [show (gv a k != gv b k) = false by rw [h k]; simp]
  simp only [cond_false]; have hw : IntKind.wrap .i64 ((k : Int) + 1) = ((k + 1 : Nat) : Int) := by rw [w64 (by omega) (by omega)]; omega
  cases decide ((k : Int) < ((a.length : Nat) : Int)) with
  | true => simp only [cond_true, Option.bind_some, Sum.elim_inl]; rw [hw]; exact ih (k + 1) (by omega)
  | false =>
   simp only [cond_false]; cases decide ((k : Int) < ((b.length : Nat) : Int)) with
   | true => simp only [cond_true, Option.bind_some, Sum.elim_inl]; rw [hw]; exact ih (k + 1) (by omega)
   | false => rfl
theorem F30_eq (m : DMf) (h : MOK m) : F30 (m.1, m.2.1, trim m.2.2.1, m.2.2.2.1, m.2.2.2.2.1, ()) m = some (r1 true) := by
 have hfl := h.fl; have htl := trim_le m.2.2.1; unfold F30 F63; have hr := L63_run (trim m.2.2.1) m.2.2.1 (by omega) hfl (gv_trim _) 65 0 (by omega); rw [show ((0 : Nat) : Int) = 0 from rfl] at hr; rw [hr]; simp only [BEq.rfl, cond_true, Option.bind_some, Sum.elim_inr]
end Go.IM.V
namespace Go.IM.V
open Go Go.IM Go.Proofs
theorem encM_byte (m : DMf) (h : MOK m) : Bys (encM m) := by
 have := h.n0; have := h.n1; have := h.s0; have := h.s1; have := h.t0; have := h.t1; have := h.dl
 unfold encM; exact ((((dg_byte (by omega) (by omega)).app (dg_byte (by omega) (by omega))).app (encV_byte h.f h.fl)).app (dg_byte (by omega) (by omega))).app (dgT_byte (bytesL_byte _) (by rw [bytesL_len]; omega))
end Go.IM.V
namespace Go.IM.V
open Go Go.IM Go.Proofs
abbrev DS0 : Type := ((Unit × (Int × (Int × (Int × (Int × (Bool × Unit)))))) × ((Unit × Unit) × Unit))
abbrev DS1 : Type := ((Unit × (Int × (Int × (Int × (Int × (Bool × Unit)))))) × ((Unit × Unit) × ((Unit × (Int × Unit)) × Unit)))
abbrev DS2 : Type := ((Unit × (Int × (Int × (Int × (Int × (Bool × Unit)))))) × ((Unit × Unit) × (((List Int) × (Int × Unit)) × Unit)))
abbrev pD : List Pt := [.mv 1, .v (.i .i64), .v (.i .i64), .v (.i .i64), .v (.i .i64), .v .b]
abbrev bNM : ByteArray := ⟨#[109, 97, 110, 105, 102, 101, 115, 116]⟩
abbrev bNN : ByteArray := ⟨#[109, 97, 110, 105, 102, 101, 115, 116, 46, 110, 101, 119]⟩
abbrev DSh : Type := ((Int × (Int × (Int × Unit))) × ((List (List Int)) × (Int × (Int × Unit))))
abbrev tDSh : Ty := (.p (.p (.i .u8) (.p (.i .u64) (.p (.i .u64) .u))) (.p (.l (.l (.i .u8))) (.p (.i .i64) (.p (.i .i64) .u))))
noncomputable def b15 : Code := (.seq (.region 0 (regOf Try.f15 0) false) (.seq (.region 1 (regOf Try.f15 1) false) .ret))
theorem body15 : Try.f15.body = some b15 := by kernel_rfl
noncomputable def C15 : Tab := []
theorem C15_ok : TabOK TP C15 := trivial
noncomputable def LO15 : Tab := []
noncomputable def i15 : Tm := { sl := [(0, .v (.i .i64))], bx := [], bf := [] }
noncomputable def o15 : OT := (.ret { sl := [(0, .p 0 0)], bx := [pD, [.mx 0 []]], bf := [] })
noncomputable def F15 (a0 : Int) : Option ((Unit × Unit) × DS0 × Unit) :=
 (some (((), ()), (((), a0, (-1), 0, 0, false, ()), ((), ()), ()), ()))
noncomputable def c15 : Con := ⟨i15, o15, fun x => F15 x.1.1⟩
theorem e15 (x : i15.E) : vfn TP C15 LO15 Try.f15 b15 i15 o15 x = c15.F x := by kernel_rfl
theorem c15_ok : Con.OK TP 15 c15 := (fn_ok C15_ok (fun _ => rfl) Try.func15 body15 (noL (by kernel_rfl)) i15 o15).congr fun x => (e15 x).symm
noncomputable def l420_5 : Code := (.seq (.region 5 (regOf Try.f42 5) false) (.seq (.cond (.tmp 15) .skip (.exit 0)) (.block 1 (.seq (.region 6 (regOf Try.f42 6) false) (.region 7 (regOf Try.f42 7) false)))))
noncomputable def b420 : Code := (.seq (.region 0 (regOf Try.f42 0) false) (.seq (.seq (.region 1 (regOf Try.f42 1) false) (.cond (.tmp 8) (.seq (.region 2 (regOf Try.f42 2) false) .ret) .skip)) (.seq (.region 3 (regOf Try.f42 3) false) (.seq (.seq (.region 4 (regOf Try.f42 4) false) (.block 0 (.loop l420_5))) (.seq (.region 8 (regOf Try.f42 8) false) .ret)))))
theorem body420 : Try.f42.body = some b420 := by kernel_rfl
noncomputable def C420 : Tab := [(700005, cHot)]
theorem C420_ok : TabOK TP C420 := ⟨cHot_ok, trivial⟩
noncomputable def LO420 : Tab := []
noncomputable def i420 : Tm := { sl := [(0, .p 0 0)], bx := [pD, [.mx 0 []]], bf := [] }
noncomputable def o420 : OT := (.ret { sl := [(0, .v (.i .i64)), (1, .v (.i .i64))], bx := [pD, [.mx 0 []]], bf := [] })
noncomputable def F420 (u1 u2 u3 u4 : Int) (u5 : Bool) : Option ((Int × (Int × Unit)) × DS0 × Unit) :=
 (some ((u1, 0, ()), (((), u1, u2, u3, u4, u5, ()), ((), ()), ()), ()))
noncomputable def c420 : Con := ⟨i420, o420, fun x => F420 x.2.1.1.2.1 x.2.1.1.2.2.1 x.2.1.1.2.2.2.1 x.2.1.1.2.2.2.2.1 x.2.1.1.2.2.2.2.2.1⟩
theorem e420 (x : i420.E) : vfn TP C420 LO420 Try.f42 b420 i420 o420 x = c420.F x := by kernel_rfl
theorem c420_ok : Con.OK TP 42 c420 := (fn_ok C420_ok (fun _ => rfl) Try.func42 body420 (show ∀ b' ∈ loopsOf b420, ∀ con, lookC LO420 (headReg b') = some con → con.LOK TP Try.f42.ntmps b' from fun _ _ _ h => absurd (show (none : Option Con) = some _ from h) (fun h => by cases h)) i420 o420).congr fun x => (e420 x).symm
noncomputable def b430 : Code := (.seq (.region 0 (regOf Try.f43 0) false) (.seq (.region 1 (regOf Try.f43 1) false) .ret))
theorem body430 : Try.f43.body = some b430 := by kernel_rfl
noncomputable def C430 : Tab := []
theorem C430_ok : TabOK TP C430 := trivial
noncomputable def LO430 : Tab := []
noncomputable def i430 : Tm := { sl := [(0, .p 0 0)], bx := [pD, [.mx 0 []]], bf := [] }
noncomputable def o430 : OT := (.ret { sl := [(0, .v .b)], bx := [pD, [.mx 0 []]], bf := [] })
noncomputable def F430 (u1 u2 u3 u4 : Int) (u5 : Bool) : Option ((Bool × Unit) × DS0 × Unit) :=
 (some (((!u5), ()), (((), u1, u2, u3, u4, u5, ()), ((), ()), ()), ()))
noncomputable def c430 : Con := ⟨i430, o430, fun x => F430 x.2.1.1.2.1 x.2.1.1.2.2.1 x.2.1.1.2.2.2.1 x.2.1.1.2.2.2.2.1 x.2.1.1.2.2.2.2.2.1⟩
theorem e430 (x : i430.E) : vfn TP C430 LO430 Try.f43 b430 i430 o430 x = c430.F x := by kernel_rfl
theorem c430_ok : Con.OK TP 43 c430 := (fn_ok C430_ok (fun _ => rfl) Try.func43 body430 (noL (by kernel_rfl)) i430 o430).congr fun x => (e430 x).symm
noncomputable def b43n : Code := b430
theorem body43n : Try.f43.body = some b43n := by kernel_rfl
noncomputable def C43n : Tab := []
theorem C43n_ok : TabOK TP C43n := trivial
noncomputable def LO43n : Tab := []
noncomputable def i43n : Tm := { sl := [(0, .p 0 0)], bx := [pD, [.mx 2 [(bNM, 1, 2)]], [.v (.l (.i .u8)), .v (.i .i64)]], bf := [] }
noncomputable def o43n : OT := (.ret { sl := [(0, .v .b)], bx := [pD, [.mx 2 [(bNM, 1, 2)]], [.v (.l (.i .u8)), .v (.i .i64)]], bf := [] })
noncomputable def F43n (u1 u2 u3 u4 : Int) (u5 : Bool) (v0 : (List Int)) (v1 : Int) : Option ((Bool × Unit) × DS2 × Unit) :=
 (some (((!u5), ()), (((), u1, u2, u3, u4, u5, ()), ((), ()), (v0, v1, ()), ()), ()))
noncomputable def c43n : Con := ⟨i43n, o43n, fun x => F43n x.2.1.1.2.1 x.2.1.1.2.2.1 x.2.1.1.2.2.2.1 x.2.1.1.2.2.2.2.1 x.2.1.1.2.2.2.2.2.1 x.2.1.2.2.1.1 x.2.1.2.2.1.2.1⟩
theorem e43n (x : i43n.E) : vfn TP C43n LO43n Try.f43 b43n i43n o43n x = c43n.F x := by kernel_rfl
theorem c43n_ok : Con.OK TP 43 c43n := (fn_ok C43n_ok (fun _ => rfl) Try.func43 body43n (noL (by kernel_rfl)) i43n o43n).congr fun x => (e43n x).symm
noncomputable def b440 : Code := (.seq (.region 0 (regOf Try.f44 0) false) (.seq (.seq (.region 1 (regOf Try.f44 1) false) (.cond (.tmp 10) (.seq (.region 2 (regOf Try.f44 2) false) .ret) .skip)) (.seq (.region 3 (regOf Try.f44 3) false) (.seq (.seq (.region 4 (regOf Try.f44 4) false) (.cond (.tmp 22) (.seq (.region 5 (regOf Try.f44 5) false) (.seq (.region 6 (regOf Try.f44 6) false) .ret)) .skip)) (.seq (.seq (.region 7 (regOf Try.f44 7) false) (.cond (.tmp 30) (.region 8 (regOf Try.f44 8) false) .skip)) (.seq (.region 9 (regOf Try.f44 9) false) .ret))))))
theorem body440 : Try.f44.body = some b440 := by kernel_rfl
noncomputable def C440 : Tab := []
theorem C440_ok : TabOK TP C440 := trivial
noncomputable def LO440 : Tab := []
noncomputable def i440 : Tm := { sl := [(0, .p 0 0)], bx := [pD, [.mx 0 []]], bf := [] }
noncomputable def o440 : OT := (.ret { sl := [(0, .v (.i .i64))], bx := [pD, [.mx 0 []]], bf := [] })
noncomputable def F440 (u1 u2 u3 u4 : Int) (u5 : Bool) : Option ((Int × Unit) × DS0 × Unit) :=
 (bif u5 then (some ((7, ()), (((), u1, u2, u3, u4, u5, ()), ((), ()), ()), ())) else (bif (u2 == 0) then (some ((7, ()), (((), u1, u2, u3, (IntKind.wrap .i64 (u4 + 1)), true, ()), ((), ()), ()), ())) else (bif (decide (u2 > 0)) then (some ((0, ()), (((), u1, (IntKind.wrap .i64 (u2 - 1)), u3, (IntKind.wrap .i64 (u4 + 1)), u5, ()), ((), ()), ()), ())) else (some ((0, ()), (((), u1, u2, u3, (IntKind.wrap .i64 (u4 + 1)), u5, ()), ((), ()), ()), ())))))
noncomputable def c440 : Con := ⟨i440, o440, fun x => F440 x.2.1.1.2.1 x.2.1.1.2.2.1 x.2.1.1.2.2.2.1 x.2.1.1.2.2.2.2.1 x.2.1.1.2.2.2.2.2.1⟩
theorem e440 (x : i440.E) : vfn TP C440 LO440 Try.f44 b440 i440 o440 x = c440.F x := by kernel_rfl
theorem c440_ok : Con.OK TP 44 c440 := (fn_ok C440_ok (fun _ => rfl) Try.func44 body440 (noL (by kernel_rfl)) i440 o440).congr fun x => (e440 x).symm
noncomputable def b44a : Code := b440
theorem body44a : Try.f44.body = some b44a := by kernel_rfl
noncomputable def C44a : Tab := []
theorem C44a_ok : TabOK TP C44a := trivial
noncomputable def LO44a : Tab := []
noncomputable def i44a : Tm := { sl := [(0, .p 0 0)], bx := [pD, [.mx 1 [(bNN, 0, 2)]], [.o 0, .v (.i .i64)]], bf := [(.i .u8)] }
noncomputable def o44a : OT := (.ret { sl := [(0, .v (.i .i64))], bx := [pD, [.mx 1 [(bNN, 0, 2)]], [.o 0, .v (.i .i64)]], bf := [(.i .u8)] })
noncomputable def F44a (u1 u2 u3 u4 : Int) (u5 : Bool) (v1 : Int) (q0 : (List Int)) : Option ((Int × Unit) × DS1 × ((List Int) × Unit)) :=
 (bif u5 then (some ((7, ()), (((), u1, u2, u3, u4, u5, ()), ((), ()), ((), v1, ()), ()), (q0, ()))) else (bif (u2 == 0) then (some ((7, ()), (((), u1, u2, u3, (IntKind.wrap .i64 (u4 + 1)), true, ()), ((), ()), ((), v1, ()), ()), (q0, ()))) else (bif (decide (u2 > 0)) then (some ((0, ()), (((), u1, (IntKind.wrap .i64 (u2 - 1)), u3, (IntKind.wrap .i64 (u4 + 1)), u5, ()), ((), ()), ((), v1, ()), ()), (q0, ()))) else (some ((0, ()), (((), u1, u2, u3, (IntKind.wrap .i64 (u4 + 1)), u5, ()), ((), ()), ((), v1, ()), ()), (q0, ()))))))
noncomputable def c44a : Con := ⟨i44a, o44a, fun x => F44a x.2.1.1.2.1 x.2.1.1.2.2.1 x.2.1.1.2.2.2.1 x.2.1.1.2.2.2.2.1 x.2.1.1.2.2.2.2.2.1 x.2.1.2.2.1.2.1 x.2.2.1⟩
theorem e44a (x : i44a.E) : vfn TP C44a LO44a Try.f44 b44a i44a o44a x = c44a.F x := by kernel_rfl
theorem c44a_ok : Con.OK TP 44 c44a := (fn_ok C44a_ok (fun _ => rfl) Try.func44 body44a (noL (by kernel_rfl)) i44a o44a).congr fun x => (e44a x).symm
noncomputable def b450a : Code := (.seq (.region 0 (regOf Try.f45 0) false) (.seq (.seq (.region 1 (regOf Try.f45 1) false) (.cond (.tmp 18) (.seq (.region 2 (regOf Try.f45 2) false) (.region 3 (regOf Try.f45 3) false)) .skip)) (.region 4 (regOf Try.f45 4) false)))
theorem body450a : Try.f45.body = some b450a := by kernel_rfl
noncomputable def C450a : Tab := []
theorem C450a_ok : TabOK TP C450a := trivial
noncomputable def LO450a : Tab := []
noncomputable def i450a : Tm := { sl := [(0, .p 0 0), (1, .kt bNN), (2, .v (.l (.i .u8)))], bx := [pD, [.mx 0 []]], bf := [] }
noncomputable def o450a : OT := (.ret { sl := [], bx := [pD, [.mx 1 [(bNN, 0, 2)]], [.o 0, .v (.i .i64)]], bf := [(.i .u8)] })
noncomputable def F450a (a2 : (List Int)) (u1 u2 u3 u4 : Int) (u5 : Bool) : Option (Unit × DS1 × ((List Int) × Unit)) :=
 (bif (decide (a2.length < lim)) then (some ((), (((), u1, u2, u3, u4, u5, ()), ((), ()), ((), 0, ()), ()), (a2, ()))) else none)
noncomputable def c450a : Con := ⟨i450a, o450a, fun x => F450a x.1.2.2.1 x.2.1.1.2.1 x.2.1.1.2.2.1 x.2.1.1.2.2.2.1 x.2.1.1.2.2.2.2.1 x.2.1.1.2.2.2.2.2.1⟩
theorem e450a (x : i450a.E) : vfn TP C450a LO450a Try.f45 b450a i450a o450a x = c450a.F x := by kernel_rfl
theorem c450a_ok : Con.OK TP 45 c450a := (fn_ok C450a_ok (fun _ => rfl) Try.func45 body450a (noL (by kernel_rfl)) i450a o450a).congr fun x => (e450a x).symm
noncomputable def b180a : Code := (.seq (.region 0 (regOf Try.f18 0) false) (.seq (.seq (.region 1 (regOf Try.f18 1) false) (.cond (.tmp 13) (.seq (.region 2 (regOf Try.f18 2) false) .ret) .skip)) (.seq (.region 3 (regOf Try.f18 3) false) (.seq (.region 4 (regOf Try.f18 4) false) (.seq (.seq (.region 5 (regOf Try.f18 5) false) (.seq (.region 6 (regOf Try.f18 6) false) (.cond (.tmp 24) (.seq (.seq (.region 7 (regOf Try.f18 7) false) (.cond (.tmp 45) (.region 8 (regOf Try.f18 8) false) .skip)) (.seq (.region 9 (regOf Try.f18 9) false) .ret)) .skip))) (.seq (.seq (.region 10 (regOf Try.f18 10) false) (.cond (.tmp 64) (.seq (.region 11 (regOf Try.f18 11) false) .ret) .skip)) (.seq (.region 12 (regOf Try.f18 12) false) (.seq (.region 13 (regOf Try.f18 13) false) .ret))))))))
theorem body180a : Try.f18.body = some b180a := by kernel_rfl
noncomputable def C180a : Tab := [(16, c16), (42, c420), (43, c430), (44, c440), (45, c450a)]
theorem C180a_ok : TabOK TP C180a := ⟨c16_ok, c420_ok, c430_ok, c440_ok, c450a_ok, trivial⟩
noncomputable def LO180a : Tab := []
noncomputable def i180a : Tm := { sl := [(0, .p 0 0), (1, .kt bNN), (2, .v (.l (.i .u8)))], bx := [pD, [.mx 0 []]], bf := [] }
noncomputable def o180a : OT := (.ret { sl := [(0, .v (.i .i64))], bx := [pD, [.mx 1 [(bNN, 0, 2)]], [.o 0, .v (.i .i64)]], bf := [(.i .u8)] })
noncomputable def F180a (a2 : (List Int)) (u1 u2 u3 u4 : Int) (u5 : Bool) : Option ((Int × Unit) × DS1 × ((List Int) × Unit)) :=
 ((F16 bNN).bind fun y0 => (bif (!y0.1.1) then none else ((F420 u1 u2 u3 u4 u5).bind fun y1 => ((F430 y1.2.1.1.2.1 y1.2.1.1.2.2.1 y1.2.1.1.2.2.2.1 y1.2.1.1.2.2.2.2.1 y1.2.1.1.2.2.2.2.2.1).bind fun y2 => ((F440 y2.2.1.1.2.1 y2.2.1.1.2.2.1 y2.2.1.1.2.2.2.1 y2.2.1.1.2.2.2.2.1 y2.2.1.1.2.2.2.2.2.1).bind fun y3 => (bif (y3.1.1 != 0) then (bif y2.1.1 then (bif (decide (y3.2.1.1.2.2.2.1 > 0)) then (bif (decide (((IntKind.wrap .i64 (y1.1.2.1 + (if ((a2.length : Nat) : Int) < y3.2.1.1.2.2.2.1 then ((a2.length : Nat) : Int) else y3.2.1.1.2.2.2.1))) : Int) ≤ y1.1.1)) then (bif (decide (0 ≤ ((if ((a2.length : Nat) : Int) < y3.2.1.1.2.2.2.1 then ((a2.length : Nat) : Int) else y3.2.1.1.2.2.2.1) : Int) ∧ ((if ((a2.length : Nat) : Int) < y3.2.1.1.2.2.2.1 then ((a2.length : Nat) : Int) else y3.2.1.1.2.2.2.1) : Int) ≤ ((a2.length : Nat) : Int))) then ((F450a ((a2).take ((if ((a2.length : Nat) : Int) < y3.2.1.1.2.2.2.1 then ((a2.length : Nat) : Int) else y3.2.1.1.2.2.2.1) : Int).toNat) y3.2.1.1.2.1 y3.2.1.1.2.2.1 y3.2.1.1.2.2.2.1 y3.2.1.1.2.2.2.2.1 y3.2.1.1.2.2.2.2.2.1).bind fun y4 => (some ((y3.1.1, ()), y4.2.1, y4.2.2))) else none) else none) else none) else none) else (bif (decide (((a2.length : Nat) : Int) > (IntKind.wrap .i64 (y1.1.1 - y1.1.2.1)))) then none else ((F450a a2 y3.2.1.1.2.1 y3.2.1.1.2.2.1 y3.2.1.1.2.2.2.1 y3.2.1.1.2.2.2.2.1 y3.2.1.1.2.2.2.2.2.1).bind fun y5 => (some ((0, ()), y5.2.1, y5.2.2))))))))))
noncomputable def c180a : Con := ⟨i180a, o180a, fun x => F180a x.1.2.2.1 x.2.1.1.2.1 x.2.1.1.2.2.1 x.2.1.1.2.2.2.1 x.2.1.1.2.2.2.2.1 x.2.1.1.2.2.2.2.2.1⟩
theorem e180a (x : i180a.E) : vfn TP C180a LO180a Try.f18 b180a i180a o180a x = c180a.F x := by kernel_rfl
theorem c180a_ok : Con.OK TP 18 c180a := (fn_ok C180a_ok (fun _ => rfl) Try.func18 body180a (noL (by kernel_rfl)) i180a o180a).congr fun x => (e180a x).symm
noncomputable def b23a : Code := (.seq (.region 0 (regOf Try.f23 0) false) (.seq (.seq (.region 1 (regOf Try.f23 1) false) (.seq (.region 2 (regOf Try.f23 2) false) (.cond (.tmp 11) (.seq (.region 3 (regOf Try.f23 3) false) .ret) .skip))) (.seq (.region 4 (regOf Try.f23 4) false) (.seq (.seq (.region 5 (regOf Try.f23 5) false) (.cond (.tmp 23) (.seq (.region 6 (regOf Try.f23 6) false) .ret) .skip)) (.seq (.region 7 (regOf Try.f23 7) false) (.seq (.region 8 (regOf Try.f23 8) false) .ret))))))
theorem body23a : Try.f23.body = some b23a := by kernel_rfl
noncomputable def C23a : Tab := [(44, c44a)]
theorem C23a_ok : TabOK TP C23a := ⟨c44a_ok, trivial⟩
noncomputable def LO23a : Tab := []
noncomputable def i23a : Tm := { sl := [(0, .p 0 0), (1, .kt bNN)], bx := [pD, [.mx 1 [(bNN, 0, 2)]], [.o 0, .v (.i .i64)]], bf := [(.i .u8)] }
noncomputable def o23a : OT := (.ret { sl := [(0, .v (.i .i64))], bx := [pD, [.mx 1 [(bNN, 0, 2)]], [.o 0, .v (.i .i64)]], bf := [(.i .u8)] })
noncomputable def F23a (u1 u2 u3 u4 : Int) (u5 : Bool) (v1 : Int) (q0 : (List Int)) : Option ((Int × Unit) × DS1 × ((List Int) × Unit)) :=
 ((F44a u1 u2 u3 u4 u5 v1 q0).bind fun y0 => (bif (y0.1.1 != 0) then (some y0) else (some ((0, ()), (y0.2.1.1, ((), ()), ((), ((y0.2.2.1.length : Nat) : Int), ()), ()), y0.2.2))))
noncomputable def c23a : Con := ⟨i23a, o23a, fun x => F23a x.2.1.1.2.1 x.2.1.1.2.2.1 x.2.1.1.2.2.2.1 x.2.1.1.2.2.2.2.1 x.2.1.1.2.2.2.2.2.1 x.2.1.2.2.1.2.1 x.2.2.1⟩
theorem e23a (x : i23a.E) : vfn TP C23a LO23a Try.f23 b23a i23a o23a x = c23a.F x := by kernel_rfl
theorem c23a_ok : Con.OK TP 23 c23a := (fn_ok C23a_ok (fun _ => rfl) Try.func23 body23a (noL (by kernel_rfl)) i23a o23a).congr fun x => (e23a x).symm
noncomputable def b470 : Code := (.seq (.region 0 (regOf Try.f47 0) false) (.seq (.seq (.region 1 (regOf Try.f47 1) false) (.seq (.region 2 (regOf Try.f47 2) false) (.cond (.tmp 11) (.seq (.region 3 (regOf Try.f47 3) false) .ret) .skip))) (.seq (.seq (.region 4 (regOf Try.f47 4) false) (.seq (.region 5 (regOf Try.f47 5) false) (.cond (.tmp 23) (.seq (.region 6 (regOf Try.f47 6) false) .ret) .skip))) (.seq (.region 7 (regOf Try.f47 7) false) (.seq (.region 8 (regOf Try.f47 8) false) .ret)))))
theorem body470 : Try.f47.body = some b470 := by kernel_rfl
noncomputable def C470 : Tab := [(44, c440)]
theorem C470_ok : TabOK TP C470 := ⟨c440_ok, trivial⟩
noncomputable def LO470 : Tab := []
noncomputable def i470 : Tm := { sl := [(0, .p 0 0), (1, .kt bNN)], bx := [pD, [.mx 0 []]], bf := [] }
noncomputable def o470 : OT := (.ret { sl := [(0, .v (.i .i64))], bx := [pD, [.mx 0 []]], bf := [] })
noncomputable def F470 (u1 u2 u3 u4 : Int) (u5 : Bool) : Option ((Int × Unit) × DS0 × Unit) :=
 ((F440 u1 u2 u3 u4 u5).bind fun y0 => (bif (y0.1.1 != 0) then (some ((y0.1.1, ()), y0.2.1, ())) else (some ((2, ()), y0.2.1, ()))))
noncomputable def c470 : Con := ⟨i470, o470, fun x => F470 x.2.1.1.2.1 x.2.1.1.2.2.1 x.2.1.1.2.2.2.1 x.2.1.1.2.2.2.2.1 x.2.1.1.2.2.2.2.2.1⟩
theorem e470 (x : i470.E) : vfn TP C470 LO470 Try.f47 b470 i470 o470 x = c470.F x := by kernel_rfl
theorem c470_ok : Con.OK TP 47 c470 := (fn_ok C470_ok (fun _ => rfl) Try.func47 body470 (noL (by kernel_rfl)) i470 o470).congr fun x => (e470 x).symm
noncomputable def b50am : Code := (.seq (.region 0 (regOf Try.f50 0) false) (.seq (.seq (.region 1 (regOf Try.f50 1) false) (.cond (.tmp 12) (.seq (.region 2 (regOf Try.f50 2) false) .ret) .skip)) (.seq (.seq (.region 3 (regOf Try.f50 3) false) (.seq (.region 4 (regOf Try.f50 4) false) (.cond (.tmp 16) (.seq (.region 5 (regOf Try.f50 5) false) .ret) .skip))) (.seq (.region 6 (regOf Try.f50 6) false) (.seq (.seq (.region 7 (regOf Try.f50 7) false) (.cond (.tmp 28) (.seq (.region 8 (regOf Try.f50 8) false) .ret) .skip)) (.seq (.region 9 (regOf Try.f50 9) false) (.seq (.region 10 (regOf Try.f50 10) false) (.seq (.region 11 (regOf Try.f50 11) false) .ret))))))))
theorem body50am : Try.f50.body = some b50am := by kernel_rfl
noncomputable def C50am : Tab := [(16, c16), (44, c44a)]
theorem C50am_ok : TabOK TP C50am := ⟨c16_ok, c44a_ok, trivial⟩
noncomputable def LO50am : Tab := []
noncomputable def i50am : Tm := { sl := [(0, .p 0 0), (1, .kt bNN), (2, .kt bNM)], bx := [pD, [.mx 1 [(bNN, 0, 2)]], [.o 0, .v (.i .i64)]], bf := [(.i .u8)] }
noncomputable def o50am : OT := (.ret { sl := [(0, .v (.i .i64))], bx := [pD, [.mx 2 [(bNM, 1, 2)]], [.o 0, .v (.i .i64)]], bf := [(.i .u8)] })
noncomputable def F50am (u1 u2 u3 u4 : Int) (u5 : Bool) (v1 : Int) (q0 : (List Int)) : Option ((Int × Unit) × DS1 × ((List Int) × Unit)) :=
 ((F16 bNM).bind fun y0 => (bif (!y0.1.1) then none else ((F44a u1 u2 u3 u4 u5 v1 q0).bind fun y1 => (bif (y1.1.1 != 0) then none else (some ((0, ()), y1.2.1, y1.2.2))))))
noncomputable def c50am : Con := ⟨i50am, o50am, fun x => F50am x.2.1.1.2.1 x.2.1.1.2.2.1 x.2.1.1.2.2.2.1 x.2.1.1.2.2.2.2.1 x.2.1.1.2.2.2.2.2.1 x.2.1.2.2.1.2.1 x.2.2.1⟩
theorem e50am (x : i50am.E) : vfn TP C50am LO50am Try.f50 b50am i50am o50am x = c50am.F x := by kernel_rfl
theorem c50am_ok : Con.OK TP 50 c50am := (fn_ok C50am_ok (fun _ => rfl) Try.func50 body50am (noL (by kernel_rfl)) i50am o50am).congr fun x => (e50am x).symm
noncomputable def b22n : Code := (.seq (.region 0 (regOf Try.f22 0) false) (.cond (.tmp 7) (.region 1 (regOf Try.f22 1) false) .skip))
theorem body22n : Try.f22.body = some b22n := by kernel_rfl
noncomputable def C22n : Tab := []
theorem C22n_ok : TabOK TP C22n := trivial
noncomputable def LO22n : Tab := []
noncomputable def i22n : Tm := { sl := [(0, .p 0 0), (1, .v (.i .i64)), (2, .v (.i .i64))], bx := [pD, [.mx 2 [(bNM, 1, 2)]], [.v (.l (.i .u8)), .v (.i .i64)]], bf := [] }
noncomputable def o22n : OT := (.ret { sl := [], bx := [pD, [.mx 2 [(bNM, 1, 2)]], [.v (.l (.i .u8)), .v (.i .i64)]], bf := [] })
noncomputable def F22n (a1 : Int) (a2 : Int) (u1 u2 u3 u4 : Int) (u5 : Bool) (v0 : (List Int)) (v1 : Int) : Option (Unit × DS2 × Unit) :=
 (some ((), (((), u1, a1, (if (0 : Int) > a2 then 0 else a2), u4, u5, ()), ((), ()), (v0, v1, ()), ()), ()))
noncomputable def c22n : Con := ⟨i22n, o22n, fun x => F22n x.1.2.1 x.1.2.2.1 x.2.1.1.2.1 x.2.1.1.2.2.1 x.2.1.1.2.2.2.1 x.2.1.1.2.2.2.2.1 x.2.1.1.2.2.2.2.2.1 x.2.1.2.2.1.1 x.2.1.2.2.1.2.1⟩
theorem e22n (x : i22n.E) : vfn TP C22n LO22n Try.f22 b22n i22n o22n x = c22n.F x := by kernel_rfl
theorem c22n_ok : Con.OK TP 22 c22n := (fn_ok C22n_ok (fun _ => rfl) Try.func22 body22n (noL (by kernel_rfl)) i22n o22n).congr fun x => (e22n x).symm
noncomputable def b48 : Code := (.seq (.region 0 (regOf Try.f48 0) false) (.seq (.region 1 (regOf Try.f48 1) false) (.seq (.region 2 (regOf Try.f48 2) true) .ret)))
theorem body48 : Try.f48.body = some b48 := by kernel_rfl
noncomputable def C48 : Tab := [(49, c49), (51, c51)]
theorem C48_ok : TabOK TP C48 := ⟨c49_ok, c51_ok, trivial⟩
noncomputable def LO48 : Tab := []
noncomputable def i48 : Tm := { sl := [(0, .v (.p (.i .u8) (.p (.i .u64) (.p (.i .u64) .u))))], bx := [], bf := [] }
noncomputable def o48 : OT := (.ret { sl := [(0, .o 0)], bx := [], bf := [(.i .u8)] })
noncomputable def F48 (a0 : (Int × (Int × (Int × Unit)))) : Option ((Unit × Unit) × Unit × ((List Int) × Unit)) :=
 (bif (decide (0 < ([97, 110, 97, 49]).length)) then ((F51 a0.2.1 ([97, 110, 97, 49] ++ [a0.1])).bind fun y0 => ((F51 a0.2.2.1 y0.2.2.1).bind fun y1 => ((F49 y1.2.2.1).bind fun y2 => (some (((), ()), (), y2.2.2))))) else none)
noncomputable def c48 : Con := ⟨i48, o48, fun x => F48 x.1.1⟩
theorem e48 (x : i48.E) : vfn TP C48 LO48 Try.f48 b48 i48 o48 x = c48.F x := by kernel_rfl
theorem c48_ok : Con.OK TP 48 c48 := (fn_ok C48_ok (fun _ => rfl) Try.func48 body48 (noL (by kernel_rfl)) i48 o48).congr fun x => (e48 x).symm
noncomputable def l200m_7 : Code := (.seq (.region 7 (regOf Try.f20 7) false) (.seq (.cond (.tmp 33) .skip (.exit 0)) (.seq (.block 1 (.seq (.region 8 (regOf Try.f20 8) false) (.seq (.seq (.region 9 (regOf Try.f20 9) false) (.cond (.tmp 38) (.seq (.region 10 (regOf Try.f20 10) false) .ret) .skip)) (.region 11 (regOf Try.f20 11) false)))) (.region 12 (regOf Try.f20 12) false))))
noncomputable def b200m : Code := (.seq (.region 0 (regOf Try.f20 0) false) (.seq (.region 1 (regOf Try.f20 1) false) (.seq (.seq (.region 2 (regOf Try.f20 2) false) (.seq (.region 3 (regOf Try.f20 3) false) (.cond (.tmp 26) (.seq (.region 4 (regOf Try.f20 4) false) .ret) .skip))) (.seq (.region 5 (regOf Try.f20 5) false) (.seq (.seq (.region 6 (regOf Try.f20 6) false) (.block 0 (.loop l200m_7))) (.seq (.seq (.region 13 (regOf Try.f20 13) false) (.seq (.region 14 (regOf Try.f20 14) false) (.cond (.tmp 49) (.seq (.region 15 (regOf Try.f20 15) false) .ret) .skip))) (.seq (.seq (.region 16 (regOf Try.f20 16) false) (.seq (.region 17 (regOf Try.f20 17) false) (.cond (.tmp 55) (.seq (.region 18 (regOf Try.f20 18) false) .ret) .skip))) (.seq (.region 19 (regOf Try.f20 19) false) .ret))))))))
theorem body200m : Try.f20.body = some b200m := by kernel_rfl
noncomputable def C200m_7 : Tab := [(49, c49)]
theorem C200m_7_ok : TabOK TP C200m_7 := ⟨c49_ok, trivial⟩
noncomputable def LO200m_7 : Tab := []
noncomputable def i200m_7 : Tm := { sl := [(11, .o 0), (30, .v (.l (.l (.i .u8)))), (31, .v (.i .i64)), (32, .v (.i .i64))], bx := [], bf := [(.i .u8)] }
noncomputable def o200m_7 : OT := (.two (.ret { sl := [(8, .v (.i .i64))], bx := [], bf := [] }) (.exit 0 { sl := [(11, .o 0)], bx := [], bf := [(.i .u8)] }))
noncomputable def T200m_7 (a30 : (List (List Int))) (a31 : Int) (a32 : Int) (q0 : (List Int)) : Option (((Unit × ((List (List Int)) × (Int × (Int × Unit)))) × Unit × ((List Int) × Unit)) ⊕ (((Int × Unit) × Unit × Unit) ⊕ ((Unit × Unit) × Unit × ((List Int) × Unit)))) :=
 (bif (decide (a32 < a31)) then (bif (decide (0 ≤ a32 ∧ a32 < ((a30.length : Nat) : Int))) then (bif (decide (((((((a30).getD a32.toNat [])).length : Nat) : Int) : Int) > 2097152)) then (some (.inr (.inl ((6, ()), (), ())))) else ((F49 ((a30).getD a32.toNat [])).bind fun y0 => (bif (decide (q0.length + y0.2.2.1.length < lim)) then (some (.inl (((), a30, a31, (IntKind.wrap .i64 (a32 + 1)), ()), (), ((q0 ++ y0.2.2.1), ())))) else none))) else none) else (some (.inr (.inr (((), ()), (), (q0, ()))))))
noncomputable def L200m_7 (a30 : (List (List Int))) (a31 : Int) (a32 : Int) (q0 : (List Int)) : Option (((Int × Unit) × Unit × Unit) ⊕ ((Unit × Unit) × Unit × ((List Int) × Unit))) := loopF (fun x : ((Unit × ((List (List Int)) × (Int × (Int × Unit)))) × Unit × ((List Int) × Unit)) => T200m_7 x.1.2.1 x.1.2.2.1 x.1.2.2.2.1 x.2.2.1) (((), a30, a31, a32, ()), (), (q0, ()))
theorem L200m_7_eq (a30 : (List (List Int))) (a31 : Int) (a32 : Int) (q0 : (List Int)) : L200m_7 a30 a31 a32 q0 = (T200m_7 a30 a31 a32 q0).bind (Sum.elim (fun x => L200m_7 x.1.2.1 x.1.2.2.1 x.1.2.2.2.1 x.2.2.1) some) := loopF_eq _ _
noncomputable def k200m_7 : Con := ⟨i200m_7, o200m_7, fun x => L200m_7 x.1.2.1 x.1.2.2.1 x.1.2.2.2.1 x.2.2.1⟩
theorem e200m_7 (x : i200m_7.E) : vround TP C200m_7 LO200m_7 Try.f20.ntmps l200m_7 i200m_7 o200m_7 x = T200m_7 x.1.2.1 x.1.2.2.1 x.1.2.2.2.1 x.2.2.1 := by kernel_rfl
theorem k200m_7_ok : Con.LOK TP Try.f20.ntmps l200m_7 k200m_7 := (loop_ok C200m_7_ok (noL (by kernel_rfl)) i200m_7 o200m_7).congr fun x => (congrArg (fun T => loopF T x) (funext e200m_7)).symm
noncomputable def C200m : Tab := [(18, c180a), (23, c23a), (47, c470), (48, c48), (49, c49), (50, c50am)]
theorem C200m_ok : TabOK TP C200m := ⟨c180a_ok, c23a_ok, c470_ok, c48_ok, c49_ok, c50am_ok, trivial⟩
noncomputable def LO200m : Tab := [(7, k200m_7)]
noncomputable def i200m : Tm := { sl := [(0, .p 0 0), (1, .kt bNM), (2, .v (.p (.i .u8) (.p (.i .u64) (.p (.i .u64) .u)))), (3, .v (.l (.l (.i .u8))))], bx := [pD, [.mx 0 []]], bf := [] }
noncomputable def o200m : OT := (.ret { sl := [(0, .v (.i .i64))], bx := [pD, [.mx 2 [(bNM, 1, 2)]], [.o 0, .v (.i .i64)]], bf := [(.i .u8)] })
noncomputable def F200m (a2 : (Int × (Int × (Int × Unit)))) (a3 : (List (List Int))) (u1 u2 u3 u4 : Int) (u5 : Bool) : Option ((Int × Unit) × DS1 × ((List Int) × Unit)) :=
 ((F470 u1 u2 u3 u4 u5).bind fun y0 => (bif (y0.1.1 != 0) then (bif (y0.1.1 != 2) then none else ((F48 (a2.1, (a2.2.1, (a2.2.2.1, ())))).bind fun y1 => ((L200m_7 a3 ((a3.length : Nat) : Int) 0 y1.2.2.1).bind fun y2 => (Sum.elim (fun y3 => none) (fun y3 => ((F180a y3.2.2.1 y0.2.1.1.2.1 y0.2.1.1.2.2.1 y0.2.1.1.2.2.2.1 y0.2.1.1.2.2.2.2.1 y0.2.1.1.2.2.2.2.2.1).bind fun y4 => (bif (y4.1.1 != 0) then none else ((F23a y4.2.1.1.2.1 y4.2.1.1.2.2.1 y4.2.1.1.2.2.2.1 y4.2.1.1.2.2.2.2.1 y4.2.1.1.2.2.2.2.2.1 y4.2.1.2.2.1.2.1 y4.2.2.1).bind fun y5 => (bif (y5.1.1 != 0) then none else ((F50am y5.2.1.1.2.1 y5.2.1.1.2.2.1 y5.2.1.1.2.2.2.1 y5.2.1.1.2.2.2.2.1 y5.2.1.1.2.2.2.2.2.1 y5.2.1.2.2.1.2.1 y5.2.2.1).bind fun y6 => (some y6))))))) y2)))) else ((F48 (a2.1, (a2.2.1, (a2.2.2.1, ())))).bind fun y7 => ((L200m_7 a3 ((a3.length : Nat) : Int) 0 y7.2.2.1).bind fun y8 => (Sum.elim (fun y9 => none) (fun y9 => ((F180a y9.2.2.1 y0.2.1.1.2.1 y0.2.1.1.2.2.1 y0.2.1.1.2.2.2.1 y0.2.1.1.2.2.2.2.1 y0.2.1.1.2.2.2.2.2.1).bind fun y10 => (bif (y10.1.1 != 0) then none else ((F23a y10.2.1.1.2.1 y10.2.1.1.2.2.1 y10.2.1.1.2.2.2.1 y10.2.1.1.2.2.2.2.1 y10.2.1.1.2.2.2.2.2.1 y10.2.1.2.2.1.2.1 y10.2.2.1).bind fun y11 => (bif (y11.1.1 != 0) then none else ((F50am y11.2.1.1.2.1 y11.2.1.1.2.2.1 y11.2.1.1.2.2.2.1 y11.2.1.1.2.2.2.2.1 y11.2.1.1.2.2.2.2.2.1 y11.2.1.2.2.1.2.1 y11.2.2.1).bind fun y12 => (some y12))))))) y8)))))
noncomputable def c200m : Con := ⟨i200m, o200m, fun x => F200m x.1.2.2.1 x.1.2.2.2.1 x.2.1.1.2.1 x.2.1.1.2.2.1 x.2.1.1.2.2.2.1 x.2.1.1.2.2.2.2.1 x.2.1.1.2.2.2.2.2.1⟩
theorem e200m (x : i200m.E) : vfn TP C200m LO200m Try.f20 b200m i200m o200m x = c200m.F x := by kernel_rfl
theorem c200m_ok : Con.OK TP 20 c200m := (fn_ok C200m_ok (fun _ => rfl) Try.func20 body200m (loops_of (l := [l200m_7]) (by kernel_rfl) (show LoopsOK TP Try.f20.ntmps [l200m_7] LO200m from ⟨k200m_7_ok, trivial⟩)) i200m o200m).congr fun x => (e200m x).symm
noncomputable def b17w : Code := (.seq (.region 0 (regOf Try.f17 0) false) (.seq (.seq (.region 1 (regOf Try.f17 1) false) (.cond (.tmp 23) (.seq (.region 2 (regOf Try.f17 2) false) .ret) .skip)) (.seq (.region 3 (regOf Try.f17 3) true) .ret)))
theorem body17w : Try.f17.body = some b17w := by kernel_rfl
noncomputable def C17w : Tab := [(16, c16), (20, c200m), (21, c21)]
theorem C17w_ok : TabOK TP C17w := ⟨c16_ok, c200m_ok, c21_ok, trivial⟩
noncomputable def LO17w : Tab := []
noncomputable def i17w : Tm := { sl := [(0, .p 0 0), (1, .v tDMf)], bx := [pD, [.mx 0 []]], bf := [] }
noncomputable def o17w : OT := (.two (.ret { sl := [(0, .v (.i .i64))], bx := [pD, [.mx 2 [(bNM, 1, 2)]], [.o 0, .v (.i .i64)]], bf := [(.i .u8)] }) (.ret { sl := [(0, .v (.i .i64))], bx := [pD, [.mx 0 []]], bf := [] }))
noncomputable def F17w (a1 : DMf) (u1 u2 u3 u4 : Int) (u5 : Bool) : Option (((Int × Unit) × DS1 × ((List Int) × Unit)) ⊕ ((Int × Unit) × DS0 × Unit)) :=
 (bif (decide ((a1.1 : Int) < 0)) then (some (.inr ((1, ()), (((), u1, u2, u3, u4, u5, ()), ((), ()), ()), ()))) else (bif (decide ((a1.1 : Int) ≥ 64)) then (some (.inr ((1, ()), (((), u1, u2, u3, u4, u5, ()), ((), ()), ()), ()))) else (bif (!((a1.2.2.2.2.1 : ByteArray).toList == ((⟨#[]⟩ : ByteArray) : ByteArray).toList)) then ((F16 a1.2.2.2.2.1).bind fun y0 => (bif (!y0.1.1) then (some (.inr ((1, ()), (((), u1, u2, u3, u4, u5, ()), ((), ()), ()), ()))) else ((F21 a1).bind fun y1 => ((F200m (109, ((IntKind.wrap .u64 a1.1), (a1.2.1, ()))) [y1.2.2.1] u1 u2 u3 u4 u5).bind fun y2 => (some (.inl y2)))))) else ((F21 a1).bind fun y3 => ((F200m (109, ((IntKind.wrap .u64 a1.1), (a1.2.1, ()))) [y3.2.2.1] u1 u2 u3 u4 u5).bind fun y4 => (some (.inl y4)))))))
noncomputable def c17w : Con := ⟨i17w, o17w, fun x => F17w x.1.2.1 x.2.1.1.2.1 x.2.1.1.2.2.1 x.2.1.1.2.2.2.1 x.2.1.1.2.2.2.2.1 x.2.1.1.2.2.2.2.2.1⟩
theorem e17w (x : i17w.E) : vfn TP C17w LO17w Try.f17 b17w i17w o17w x = c17w.F x := by kernel_rfl
theorem c17w_ok : Con.OK TP 17 c17w := (fn_ok C17w_ok (fun _ => rfl) Try.func17 body17w (noL (by kernel_rfl)) i17w o17w).congr fun x => (e17w x).symm
noncomputable def b92 : Code := (.seq (.region 0 (regOf Try.f92 0) false) (.seq (.seq (.region 1 (regOf Try.f92 1) false) (.cond (.tmp 4) (.seq (.region 2 (regOf Try.f92 2) false) .ret) .skip)) (.seq (.region 3 (regOf Try.f92 3) false) .ret)))
theorem body92 : Try.f92.body = some b92 := by kernel_rfl
noncomputable def C92 : Tab := []
theorem C92_ok : TabOK TP C92 := trivial
noncomputable def LO92 : Tab := []
noncomputable def i92 : Tm := { sl := [(0, .v (.l (.i .u8)))], bx := [], bf := [] }
noncomputable def o92 : OT := (.ret { sl := [(0, .v (.l (.i .u8)))], bx := [], bf := [] })
noncomputable def F92 (a0 : (List Int)) : Option (((List Int) × Unit) × Unit × Unit) :=
 (nilBr a0.length (some ((([] : List Int), ()), (), ())) (bif (decide ((([] : List Int)).length + a0.length < lim)) then (some (((([] : List Int) ++ a0), ()), (), ())) else none))
noncomputable def c92 : Con := ⟨i92, o92, fun x => F92 x.1.1⟩
theorem e92 (x : i92.E) : vfn TP C92 LO92 Try.f92 b92 i92 o92 x = c92.F x := by kernel_rfl
theorem c92_ok : Con.OK TP 92 c92 := (fn_ok C92_ok (fun _ => rfl) Try.func92 body92 (noL (by kernel_rfl)) i92 o92).congr fun x => (e92 x).symm
noncomputable def b77d : Code := (.seq (.region 0 (regOf Try.f77 0) false) (.seq (.seq (.region 1 (regOf Try.f77 1) false) (.cond (.tmp 10) (.seq (.region 2 (regOf Try.f77 2) false) .ret) .skip)) (.seq (.region 3 (regOf Try.f77 3) false) (.seq (.seq (.region 4 (regOf Try.f77 4) false) (.cond (.tmp 21) (.seq (.region 5 (regOf Try.f77 5) false) .ret) .skip)) (.seq (.region 6 (regOf Try.f77 6) false) .ret)))))
noncomputable def b77n : Code := b77d
theorem body77n : Try.f77.body = some b77n := by kernel_rfl
noncomputable def C77n : Tab := [(43, c43n), (92, c92)]
theorem C77n_ok : TabOK TP C77n := ⟨c43n_ok, c92_ok, trivial⟩
noncomputable def LO77n : Tab := []
noncomputable def i77n : Tm := { sl := [(0, .p 0 0), (1, .kt bNM)], bx := [pD, [.mx 2 [(bNM, 1, 2)]], [.v (.l (.i .u8)), .v (.i .i64)]], bf := [] }
noncomputable def o77n : OT := (.ret { sl := [(0, .v (.l (.i .u8))), (1, .v (.i .i64))], bx := [pD, [.mx 2 [(bNM, 1, 2)]], [.v (.l (.i .u8)), .v (.i .i64)]], bf := [] })
noncomputable def F77n (u1 u2 u3 u4 : Int) (u5 : Bool) (v0 : (List Int)) (v1 : Int) : Option (((List Int) × (Int × Unit)) × DS2 × Unit) :=
 ((F43n u1 u2 u3 u4 u5 v0 v1).bind fun y0 => (bif (!y0.1.1) then (some ((([] : List Int), 7, ()), y0.2.1, ())) else ((F92 y0.2.1.2.2.1.1).bind fun y1 => (some ((y1.1.1, 0, ()), y0.2.1, ())))))
noncomputable def c77n : Con := ⟨i77n, o77n, fun x => F77n x.2.1.1.2.1 x.2.1.1.2.2.1 x.2.1.1.2.2.2.1 x.2.1.1.2.2.2.2.1 x.2.1.1.2.2.2.2.2.1 x.2.1.2.2.1.1 x.2.1.2.2.1.2.1⟩
theorem e77n (x : i77n.E) : vfn TP C77n LO77n Try.f77 b77n i77n o77n x = c77n.F x := by kernel_rfl
theorem c77n_ok : Con.OK TP 77 c77n := (fn_ok C77n_ok (fun _ => rfl) Try.func77 body77n (noL (by kernel_rfl)) i77n o77n).congr fun x => (e77n x).symm
noncomputable def l93_4 : Code := (.seq (.region 4 (regOf Try.f93 4) false) (.seq (.cond (.tmp 13) .skip (.exit 0)) (.seq (.block 1 (.seq (.region 5 (regOf Try.f93 5) false) (.seq (.region 6 (regOf Try.f93 6) false) (.cond (.tmp 19) (.seq (.region 7 (regOf Try.f93 7) false) .ret) .skip)))) (.region 8 (regOf Try.f93 8) false))))
noncomputable def b93 : Code := (.seq (.region 0 (regOf Try.f93 0) false) (.seq (.region 1 (regOf Try.f93 1) false) (.seq (.region 2 (regOf Try.f93 2) false) (.seq (.seq (.region 3 (regOf Try.f93 3) false) (.block 0 (.loop l93_4))) (.seq (.region 9 (regOf Try.f93 9) false) (.seq (.region 10 (regOf Try.f93 10) false) (.seq (.region 11 (regOf Try.f93 11) false) .ret)))))))
theorem body93 : Try.f93.body = some b93 := by kernel_rfl
noncomputable def C93_4 : Tab := [(73, c73)]
theorem C93_4_ok : TabOK TP C93_4 := ⟨c73_ok, trivial⟩
noncomputable def LO93_4 : Tab := []
noncomputable def i93_4 : Tm := { sl := [(2, .p 0 0), (3, .p 1 0), (4, .p 2 0), (10, .v (.l (.i .u8))), (11, .v (.i .i64)), (12, .v (.i .i64))], bx := [[.v (.i .u8), .v (.i .u64), .v (.i .u64)], [.v (.i .i64)], [.v (.l (.i .u8))]], bf := [] }
noncomputable def o93_4 : OT := (.two (.ret { sl := [], bx := [[.v (.i .u8), .v (.i .u64), .v (.i .u64)], [.v (.i .i64)], [.v (.l (.i .u8))]], bf := [] }) (.two (.pnc 130 .i64 { sl := [], bx := [[.v (.i .u8), .v (.i .u64), .v (.i .u64)], [.v (.i .i64)], [.v (.l (.i .u8))]], bf := [] }) (.exit 0 { sl := [], bx := [[.v (.i .u8), .v (.i .u64), .v (.i .u64)], [.v (.i .i64)], [.v (.l (.i .u8))]], bf := [] })))
noncomputable def T93_4 (a10 : (List Int)) (a11 : Int) (a12 : Int) (u0 : Int) (u1 : Int) (u2 : Int) (rr0 : Int) (v0 : (List Int)) : Option (((Unit × (Unit × (Unit × ((List Int) × (Int × (Int × Unit)))))) × ((Int × (Int × (Int × Unit))) × ((Int × Unit) × (((List Int) × Unit) × Unit))) × Unit) ⊕ ((Unit × ((Int × (Int × (Int × Unit))) × ((Int × Unit) × (((List Int) × Unit) × Unit))) × Unit) ⊕ ((Int × (Unit × ((Int × (Int × (Int × Unit))) × ((Int × Unit) × (((List Int) × Unit) × Unit))) × Unit)) ⊕ (Unit × ((Int × (Int × (Int × Unit))) × ((Int × Unit) × (((List Int) × Unit) × Unit))) × Unit)))) :=
 (bif (decide (a12 < a11)) then (bif (decide (0 ≤ a12 ∧ a12 < ((a10.length : Nat) : Int))) then ((F73 v0).bind fun y0 => (Sum.elim (fun y1 => (bif (y1.1.1 != ((a10).getD a12.toNat (0 : Int))) then (some (.inr (.inl ((), ((0, 0, 0, ()), (4, ()), (y1.2.1.1.1, ()), ()), ())))) else (some (.inl (((), (), (), a10, a11, (IntKind.wrap .i64 (a12 + 1)), ()), ((u0, u1, u2, ()), (rr0, ()), (y1.2.1.1.1, ()), ()), ()))))) (fun y1 => (some (.inr (.inr (.inl (y1.1, ((), ((u0, u1, u2, ()), (rr0, ()), (y1.2.2.1.1.1, ()), ()), ()))))))) y0)) else none) else (some (.inr (.inr (.inr ((), ((u0, u1, u2, ()), (rr0, ()), (v0, ()), ()), ()))))))
noncomputable def L93_4 (a10 : (List Int)) (a11 : Int) (a12 : Int) (u0 : Int) (u1 : Int) (u2 : Int) (rr0 : Int) (v0 : (List Int)) : Option ((Unit × ((Int × (Int × (Int × Unit))) × ((Int × Unit) × (((List Int) × Unit) × Unit))) × Unit) ⊕ ((Int × (Unit × ((Int × (Int × (Int × Unit))) × ((Int × Unit) × (((List Int) × Unit) × Unit))) × Unit)) ⊕ (Unit × ((Int × (Int × (Int × Unit))) × ((Int × Unit) × (((List Int) × Unit) × Unit))) × Unit))) := loopF (fun x : ((Unit × (Unit × (Unit × ((List Int) × (Int × (Int × Unit)))))) × ((Int × (Int × (Int × Unit))) × ((Int × Unit) × (((List Int) × Unit) × Unit))) × Unit) => T93_4 x.1.2.2.2.1 x.1.2.2.2.2.1 x.1.2.2.2.2.2.1 x.2.1.1.1 x.2.1.1.2.1 x.2.1.1.2.2.1 x.2.1.2.1.1 x.2.1.2.2.1.1) (((), (), (), a10, a11, a12, ()), ((u0, u1, u2, ()), (rr0, ()), (v0, ()), ()), ())
theorem L93_4_eq (a10 : (List Int)) (a11 : Int) (a12 : Int) (u0 : Int) (u1 : Int) (u2 : Int) (rr0 : Int) (v0 : (List Int)) : L93_4 a10 a11 a12 u0 u1 u2 rr0 v0 = (T93_4 a10 a11 a12 u0 u1 u2 rr0 v0).bind (Sum.elim (fun x => L93_4 x.1.2.2.2.1 x.1.2.2.2.2.1 x.1.2.2.2.2.2.1 x.2.1.1.1 x.2.1.1.2.1 x.2.1.1.2.2.1 x.2.1.2.1.1 x.2.1.2.2.1.1) some) := loopF_eq _ _
noncomputable def k93_4 : Con := ⟨i93_4, o93_4, fun x => L93_4 x.1.2.2.2.1 x.1.2.2.2.2.1 x.1.2.2.2.2.2.1 x.2.1.1.1 x.2.1.1.2.1 x.2.1.1.2.2.1 x.2.1.2.1.1 x.2.1.2.2.1.1⟩
theorem e93_4 (x : i93_4.E) : vround TP C93_4 LO93_4 Try.f93.ntmps l93_4 i93_4 o93_4 x = T93_4 x.1.2.2.2.1 x.1.2.2.2.2.1 x.1.2.2.2.2.2.1 x.2.1.1.1 x.2.1.1.2.1 x.2.1.1.2.2.1 x.2.1.2.1.1 x.2.1.2.2.1.1 := by kernel_rfl
theorem k93_4_ok : Con.LOK TP Try.f93.ntmps l93_4 k93_4 := (loop_ok C93_4_ok (noL (by kernel_rfl)) i93_4 o93_4).congr fun x => (congrArg (fun T => loopF T x) (funext e93_4)).symm
noncomputable def C93 : Tab := [(57, c57), (58, c58), (61, c61), (73, c73)]
theorem C93_ok : TabOK TP C93 := ⟨c57_ok, c58_ok, c61_ok, c73_ok, trivial⟩
noncomputable def LO93 : Tab := [(4, k93_4)]
noncomputable def i93 : Tm := { sl := [(0, .v (.l (.i .u8)))], bx := [], bf := [] }
noncomputable def o93 : OT := (.ret { sl := [(0, .v (.p (.i .u8) (.p (.i .u64) (.p (.i .u64) .u)))), (1, .v (.i .i64))], bx := [], bf := [] })
noncomputable def F93 (a0 : (List Int)) : Option (((Int × (Int × (Int × Unit))) × (Int × Unit)) × Unit × Unit) :=
 ((F57 a0).bind fun y0 => (bif (decide (0 < ([97, 110, 97, 49]).length)) then ((L93_4 [97, 110, 97, 49] ((([97, 110, 97, 49]).length : Nat) : Int) 0 0 0 0 0 y0.2.1.1.1).bind fun y1 => (Sum.elim (fun y2 => (some (((y2.2.1.1.1, (y2.2.1.1.2.1, (y2.2.1.1.2.2.1, ()))), y2.2.1.2.1.1, ()), (), ()))) (fun y2 => (Sum.elim (fun y3 => (some (((y3.2.2.1.1.1, (y3.2.2.1.1.2.1, (y3.2.2.1.1.2.2.1, ()))), y3.1, ()), (), ()))) (fun y3 => ((F73 y3.2.1.2.2.1.1).bind fun y4 => (Sum.elim (fun y5 => ((F58 18446744073709551615 y5.2.1.1.1).bind fun y6 => (Sum.elim (fun y7 => ((F58 18446744073709551615 y7.2.1.1.1).bind fun y8 => (Sum.elim (fun y9 => ((F61 y9.2.1.1.1).bind fun y10 => (Sum.elim (fun y11 => (some (((y5.1.1, (y7.1.1, (y9.1.1, ()))), 0, ()), (), ()))) (fun y11 => (some (((y5.1.1, (y7.1.1, (y9.1.1, ()))), y11.1, ()), (), ()))) y10))) (fun y9 => (some (((y3.2.1.1.1, (y3.2.1.1.2.1, (y3.2.1.1.2.2.1, ()))), y9.1, ()), (), ()))) y8))) (fun y7 => (some (((y3.2.1.1.1, (y3.2.1.1.2.1, (y3.2.1.1.2.2.1, ()))), y7.1, ()), (), ()))) y6))) (fun y5 => (some (((y3.2.1.1.1, (y3.2.1.1.2.1, (y3.2.1.1.2.2.1, ()))), y5.1, ()), (), ()))) y4))) y2)) y1)) else none))
noncomputable def c93 : Con := ⟨i93, o93, fun x => F93 x.1.1⟩
theorem e93 (x : i93.E) : vfn TP C93 LO93 Try.f93 b93 i93 o93 x = c93.F x := by kernel_rfl
theorem c93_ok : Con.OK TP 93 c93 := (fn_ok C93_ok (fun _ => rfl) Try.func93 body93 (loops_of (l := [l93_4]) (by kernel_rfl) (show LoopsOK TP Try.f93.ntmps [l93_4] LO93 from ⟨k93_4_ok, trivial⟩)) i93 o93).congr fun x => (e93 x).symm
noncomputable def l94_3 : Code := (.seq (.seq (.region 3 (regOf Try.f94 3) false) (.cond (.tmp 15) .skip (.exit 0))) (.block 1 (.seq (.region 4 (regOf Try.f94 4) false) (.seq (.seq (.region 5 (regOf Try.f94 5) false) (.cond (.tmp 24) (.seq (.region 6 (regOf Try.f94 6) false) .ret) .skip)) (.region 7 (regOf Try.f94 7) false)))))
noncomputable def b94 : Code := (.seq (.region 0 (regOf Try.f94 0) false) (.seq (.region 1 (regOf Try.f94 1) false) (.seq (.region 2 (regOf Try.f94 2) false) (.seq (.block 0 (.loop l94_3)) (.seq (.region 8 (regOf Try.f94 8) false) .ret)))))
theorem body94 : Try.f94.body = some b94 := by kernel_rfl
noncomputable def C94_3 : Tab := [(37, c37)]
theorem C94_3_ok : TabOK TP C94_3 := ⟨c37_ok, trivial⟩
noncomputable def LO94_3 : Tab := []
noncomputable def i94_3 : Tm := { sl := [(0, .v (.l (.i .u8))), (1, .v (.i .i64)), (7, .o 0), (8, .v (.l (.i .u8)))], bx := [], bf := [(.l (.i .u8))] }
noncomputable def o94_3 : OT := (.two (.ret { sl := [(4, .o 0), (5, .v (.i .i64)), (6, .v (.i .i64))], bx := [], bf := [(.l (.i .u8))] }) (.exit 0 { sl := [(7, .o 0)], bx := [], bf := [(.l (.i .u8))] }))
noncomputable def T94_3 (a0 : (List Int)) (a1 : Int) (a8 : (List Int)) (q0 : (List (List Int))) : Option ((((List Int) × (Int × (Unit × ((List Int) × Unit)))) × Unit × ((List (List Int)) × Unit)) ⊕ (((Unit × (Int × (Int × Unit))) × Unit × ((List (List Int)) × Unit)) ⊕ ((Unit × Unit) × Unit × ((List (List Int)) × Unit)))) :=
 (bif (decide (((a8.length : Nat) : Int) > 0)) then ((F37 a8 a1).bind fun y0 => (bif (y0.1.2.2.1 != 0) then (some (.inr (.inl (((), (IntKind.wrap .i64 (((a0.length : Nat) : Int) - ((a8.length : Nat) : Int))), y0.1.2.2.1, ()), (), (q0, ()))))) else (bif (decide (q0.length + ([y0.1.1]).length < lim)) then (some (.inl ((a0, a1, (), y0.1.2.1, ()), (), ((q0 ++ [y0.1.1]), ())))) else none))) else (some (.inr (.inr (((), ()), (), (q0, ()))))))
noncomputable def L94_3 (a0 : (List Int)) (a1 : Int) (a8 : (List Int)) (q0 : (List (List Int))) : Option (((Unit × (Int × (Int × Unit))) × Unit × ((List (List Int)) × Unit)) ⊕ ((Unit × Unit) × Unit × ((List (List Int)) × Unit))) := loopF (fun x : (((List Int) × (Int × (Unit × ((List Int) × Unit)))) × Unit × ((List (List Int)) × Unit)) => T94_3 x.1.1 x.1.2.1 x.1.2.2.2.1 x.2.2.1) ((a0, a1, (), a8, ()), (), (q0, ()))
theorem L94_3_eq (a0 : (List Int)) (a1 : Int) (a8 : (List Int)) (q0 : (List (List Int))) : L94_3 a0 a1 a8 q0 = (T94_3 a0 a1 a8 q0).bind (Sum.elim (fun x => L94_3 x.1.1 x.1.2.1 x.1.2.2.2.1 x.2.2.1) some) := loopF_eq _ _
noncomputable def k94_3 : Con := ⟨i94_3, o94_3, fun x => L94_3 x.1.1 x.1.2.1 x.1.2.2.2.1 x.2.2.1⟩
theorem e94_3 (x : i94_3.E) : vround TP C94_3 LO94_3 Try.f94.ntmps l94_3 i94_3 o94_3 x = T94_3 x.1.1 x.1.2.1 x.1.2.2.2.1 x.2.2.1 := by kernel_rfl
theorem k94_3_ok : Con.LOK TP Try.f94.ntmps l94_3 k94_3 := (loop_ok C94_3_ok (noL (by kernel_rfl)) i94_3 o94_3).congr fun x => (congrArg (fun T => loopF T x) (funext e94_3)).symm
noncomputable def C94 : Tab := [(37, c37)]
theorem C94_ok : TabOK TP C94 := ⟨c37_ok, trivial⟩
noncomputable def LO94 : Tab := [(3, k94_3)]
noncomputable def i94 : Tm := { sl := [(0, .v (.l (.i .u8))), (1, .v (.i .i64))], bx := [], bf := [] }
noncomputable def o94 : OT := (.ret { sl := [(0, .v (.l (.l (.i .u8)))), (1, .v (.i .i64)), (2, .v (.i .i64))], bx := [], bf := [] })
noncomputable def F94 (a0 : (List Int)) (a1 : Int) : Option (((List (List Int)) × (Int × (Int × Unit))) × Unit × Unit) :=
 ((L94_3 a0 a1 a0 ([] : List (List Int))).bind fun y0 => (Sum.elim (fun y1 => (some ((y1.2.2.1, y1.1.2.1, y1.1.2.2.1, ()), (), ()))) (fun y1 => (some ((y1.2.2.1, ((a0.length : Nat) : Int), 0, ()), (), ()))) y0))
noncomputable def c94 : Con := ⟨i94, o94, fun x => F94 x.1.1 x.1.2.1⟩
theorem e94 (x : i94.E) : vfn TP C94 LO94 Try.f94 b94 i94 o94 x = c94.F x := by kernel_rfl
theorem c94_ok : Con.OK TP 94 c94 := (fn_ok C94_ok (fun _ => rfl) Try.func94 body94 (loops_of (l := [l94_3]) (by kernel_rfl) (show LoopsOK TP Try.f94.ntmps [l94_3] LO94 from ⟨k94_3_ok, trivial⟩)) i94 o94).congr fun x => (e94 x).symm
noncomputable def b78 : Code := (.seq (.region 0 (regOf Try.f78 0) false) (.seq (.region 1 (regOf Try.f78 1) false) (.seq (.seq (.region 2 (regOf Try.f78 2) false) (.cond (.tmp 18) (.seq (.region 3 (regOf Try.f78 3) false) .ret) .skip)) (.seq (.region 4 (regOf Try.f78 4) false) (.seq (.seq (.region 5 (regOf Try.f78 5) false) (.cond (.tmp 27) (.seq (.region 6 (regOf Try.f78 6) false) .ret) .skip)) (.seq (.region 7 (regOf Try.f78 7) false) (.seq (.region 8 (regOf Try.f78 8) false) .ret)))))))
theorem body78 : Try.f78.body = some b78 := by kernel_rfl
noncomputable def C78 : Tab := [(37, c37), (93, c93), (94, c94)]
theorem C78_ok : TabOK TP C78 := ⟨c37_ok, c93_ok, c94_ok, trivial⟩
noncomputable def LO78 : Tab := []
noncomputable def i78 : Tm := { sl := [(0, .v (.l (.i .u8)))], bx := [], bf := [] }
noncomputable def o78 : OT := (.ret { sl := [(0, .v tDSh), (1, .v (.i .i64))], bx := [], bf := [] })
noncomputable def F78 (a0 : (List Int)) : Option ((DSh × (Int × Unit)) × Unit × Unit) :=
 ((F37 a0 2097152).bind fun y0 => (bif (y0.1.2.2.1 != 0) then (some ((((0, (0, (0, ()))), (([] : List (List Int)), (0, (0, ())))), y0.1.2.2.1, ()), (), ())) else ((F93 y0.1.1).bind fun y1 => (bif (y1.1.2.1 != 0) then (some ((((0, (0, (0, ()))), (([] : List (List Int)), (0, (0, ())))), y1.1.2.1, ()), (), ())) else ((F94 y0.1.2.1 2097152).bind fun y2 => (some ((((y1.1.1.1, (y1.1.1.2.1, (y1.1.1.2.2.1, ()))), (y2.1.1, ((IntKind.wrap .i64 ((IntKind.wrap .i64 (((a0.length : Nat) : Int) - ((y0.1.2.1.length : Nat) : Int))) + y2.1.2.1)), (y2.1.2.2.1, ())))), 0, ()), (), ())))))))
noncomputable def c78 : Con := ⟨i78, o78, fun x => F78 x.1.1⟩
theorem e78 (x : i78.E) : vfn TP C78 LO78 Try.f78 b78 i78 o78 x = c78.F x := by kernel_rfl
theorem c78_ok : Con.OK TP 78 c78 := (fn_ok C78_ok (fun _ => rfl) Try.func78 body78 (noL (by kernel_rfl)) i78 o78).congr fun x => (e78 x).symm
noncomputable def b46d : Code := (.seq (.region 0 (regOf Try.f46 0) false) (.seq (.region 1 (regOf Try.f46 1) false) (.seq (.seq (.region 2 (regOf Try.f46 2) false) (.cond (.tmp 15) (.seq (.region 3 (regOf Try.f46 3) false) .ret) .skip)) (.seq (.region 4 (regOf Try.f46 4) false) .ret))))
noncomputable def b46n : Code := b46d
theorem body46n : Try.f46.body = some b46n := by kernel_rfl
noncomputable def C46n : Tab := [(77, c77n), (78, c78)]
theorem C46n_ok : TabOK TP C46n := ⟨c77n_ok, c78_ok, trivial⟩
noncomputable def LO46n : Tab := []
noncomputable def i46n : Tm := { sl := [(0, .p 0 0), (1, .kt bNM)], bx := [pD, [.mx 2 [(bNM, 1, 2)]], [.v (.l (.i .u8)), .v (.i .i64)]], bf := [] }
noncomputable def o46n : OT := (.ret { sl := [(0, .v tDSh), (1, .v (.i .i64))], bx := [pD, [.mx 2 [(bNM, 1, 2)]], [.v (.l (.i .u8)), .v (.i .i64)]], bf := [] })
noncomputable def F46n (u1 u2 u3 u4 : Int) (u5 : Bool) (v0 : (List Int)) (v1 : Int) : Option ((DSh × (Int × Unit)) × DS2 × Unit) :=
 ((F77n u1 u2 u3 u4 u5 v0 v1).bind fun y0 => (bif (y0.1.2.1 != 0) then (some ((((0, (0, (0, ()))), (([] : List (List Int)), (0, (0, ())))), y0.1.2.1, ()), y0.2.1, ())) else ((F78 y0.1.1).bind fun y1 => (some ((((y1.1.1.1.1, (y1.1.1.1.2.1, (y1.1.1.1.2.2.1, ()))), (y1.1.1.2.1, (y1.1.1.2.2.1, (y1.1.1.2.2.2.1, ())))), y1.1.2.1, ()), y0.2.1, ())))))
noncomputable def c46n : Con := ⟨i46n, o46n, fun x => F46n x.2.1.1.2.1 x.2.1.1.2.2.1 x.2.1.1.2.2.2.1 x.2.1.1.2.2.2.2.1 x.2.1.1.2.2.2.2.2.1 x.2.1.2.2.1.1 x.2.1.2.2.1.2.1⟩
theorem e46n (x : i46n.E) : vfn TP C46n LO46n Try.f46 b46n i46n o46n x = c46n.F x := by kernel_rfl
theorem c46n_ok : Con.OK TP 46 c46n := (fn_ok C46n_ok (fun _ => rfl) Try.func46 body46n (noL (by kernel_rfl)) i46n o46n).congr fun x => (e46n x).symm
noncomputable def b19d : Code := (.seq (.region 0 (regOf Try.f19 0) false) (.seq (.region 1 (regOf Try.f19 1) false) (.seq (.block 0 (.seq (.region 2 (regOf Try.f19 2) false) (.cond (.tmp 12) (.seq (.region 3 (regOf Try.f19 3) false) .ret) (.seq (.region 4 (regOf Try.f19 4) false) (.cond (.tmp 21) (.seq (.region 5 (regOf Try.f19 5) false) .ret) .skip))))) (.seq (.region 6 (regOf Try.f19 6) false) (.seq (.seq (.region 7 (regOf Try.f19 7) false) (.cond (.tmp 68) (.seq (.region 8 (regOf Try.f19 8) false) .ret) .skip)) (.seq (.region 9 (regOf Try.f19 9) false) .ret))))))
noncomputable def b19n : Code := b19d
theorem body19n : Try.f19.body = some b19n := by kernel_rfl
noncomputable def C19n : Tab := [(29, c29), (46, c46n)]
theorem C19n_ok : TabOK TP C19n := ⟨c29_ok, c46n_ok, trivial⟩
noncomputable def LO19n : Tab := []
noncomputable def i19n : Tm := { sl := [(0, .p 0 0)], bx := [pD, [.mx 2 [(bNM, 1, 2)]], [.v (.l (.i .u8)), .v (.i .i64)]], bf := [] }
noncomputable def o19n : OT := (.ret { sl := [(0, .v tDMf), (1, .v (.i .i64))], bx := [pD, [.mx 2 [(bNM, 1, 2)]], [.v (.l (.i .u8)), .v (.i .i64)]], bf := [] })
noncomputable def F19n (u1 u2 u3 u4 : Int) (u5 : Bool) (v0 : (List Int)) (v1 : Int) : Option ((DMf × (Int × Unit)) × DS2 × Unit) :=
 ((F46n u1 u2 u3 u4 u5 v0 v1).bind fun y0 => (bif (y0.1.2.1 == 2) then (some (((0, (0, (([] : List Int), (0, (ByteArray.empty, ()))))), y0.1.2.1, ()), y0.2.1, ())) else (bif (y0.1.2.1 == 7) then (some (((0, (0, (([] : List Int), (0, (ByteArray.empty, ()))))), y0.1.2.1, ()), y0.2.1, ())) else (bif (y0.1.2.1 != 0) then (some (((0, (0, (([] : List Int), (0, (ByteArray.empty, ()))))), 4, ()), y0.2.1, ())) else (bif (y0.1.1.2.2.2.1 != 0) then (some (((0, (0, (([] : List Int), (0, (ByteArray.empty, ()))))), 4, ()), y0.2.1, ())) else (bif (y0.1.1.1.1 != 109) then (some (((0, (0, (([] : List Int), (0, (ByteArray.empty, ()))))), 4, ()), y0.2.1, ())) else (bif (((y0.1.1.2.1.length : Nat) : Int) != 1) then (some (((0, (0, (([] : List Int), (0, (ByteArray.empty, ()))))), 4, ()), y0.2.1, ())) else (bif (decide (0 ≤ (0 : Int) ∧ (0 : Int) < ((y0.1.1.2.1.length : Nat) : Int))) then ((F29 ((y0.1.1.2.1).getD (0 : Int).toNat [])).bind fun y1 => (bif (y1.1.2.1 != 0) then (some (((0, (0, (([] : List Int), (0, (ByteArray.empty, ()))))), 4, ()), y0.2.1, ())) else (bif (((IntKind.wrap .u64 y1.1.1.1) : Int) != y0.1.1.1.2.1) then (some (((0, (0, (([] : List Int), (0, (ByteArray.empty, ()))))), 4, ()), y0.2.1, ())) else (bif (y1.1.1.2.1 != y0.1.1.1.2.2.1) then (some (((0, (0, (([] : List Int), (0, (ByteArray.empty, ()))))), 4, ()), y0.2.1, ())) else (some ((y1.1.1, 0, ()), y0.2.1, ())))))) else none))))))))
noncomputable def c19n : Con := ⟨i19n, o19n, fun x => F19n x.2.1.1.2.1 x.2.1.1.2.2.1 x.2.1.1.2.2.2.1 x.2.1.1.2.2.2.2.1 x.2.1.1.2.2.2.2.2.1 x.2.1.2.2.1.1 x.2.1.2.2.1.2.1⟩
theorem e19n (x : i19n.E) : vfn TP C19n LO19n Try.f19 b19n i19n o19n x = c19n.F x := by kernel_rfl
theorem c19n_ok : Con.OK TP 19 c19n := (fn_ok C19n_ok (fun _ => rfl) Try.func19 body19n (noL (by kernel_rfl)) i19n o19n).congr fun x => (e19n x).symm
end Go.IM.V