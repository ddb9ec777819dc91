/- What the code of a law comes to, and what that tells: part 1. Lemmas alone; no conditions. -/
import Derived.Test.YtnhjgbjhpnekdaaProg
import Derived.KernelRfl
import Derived.Test.YtnhjgbjhpnekdaaImM5
import Derived.Test.YtnhjgbjhpnekdaaImM2
set_option linter.unusedVariables false
set_option linter.unusedSimpArgs false
set_option linter.constructorNameAsVariable false
namespace Go.IM.V
open Go Go.IM
variable {P : Program} {m m1 : M} {S0 : Nat → Prop} {env env1 : Env} {X Y : Cx}
def iT : Tm := { sl := [] }
def oT : Tm := { sl := [(0, .v .b)] }
def cT : Con := ⟨iT, .ret oT, fun _ => some ((true, ()), (), ())⟩
theorem orc_ok [Orc P] {k : FuncId} (h : ∀ args : Array Value, args.size = 0 → Orc.O P k args = some (.bool true)) : Con.OK P k cT := by
  intro x y hF S0 env m args hT hB hsl hnil
  have hs : args.size = 0 := hnil
  have hy : y = ((true, ()), (), ()) := by have : some ((true, ()), (), ()) = some y := hF; cases this; rfl
  subst hy
  refine ⟨.ret (.bool true), m, env, ⟨0, fun n _ => ?_⟩, ⟨Fr2.refl hT.free, hT, fun j hj => absurd hj (Nat.not_lt_zero _), fun i w => .inl w, fun i w => .inl w, fun j hj => absurd hj (Nat.not_lt_zero _), fun j L hj => absurd hj (Nat.not_lt_zero _), fun i w => w⟩, ⟨.bool true, rfl, ofV_rep (.bool true)⟩⟩
  unfold callF
  rw [h args hs]
def iK (q : ByteArray) : Tm := { sl := [(0, .kt q)] }
theorem orc_okK [Orc P] {k : FuncId} {q : ByteArray} (h : Orc.O P k #[.string q] = some (.bool true)) : Con.OK P k ⟨iK q, .ret oT, fun _ => some ((true, ()), (), ())⟩ := by
  intro x y hF S0 env m args hT hB hsl hnil
  have hs : args.size = 1 := hnil
  have hy : y = ((true, ()), (), ()) := by have : some ((true, ()), (), ()) = some y := hF; cases this; rfl
  subst hy
  have h0 : args.getD 0 undef = .string q := hsl.1.1
  have ha : args = #[.string q] := by
    refine Array.ext (by simpa using hs) fun i hi hj => ?_
    have : i = 0 := by simp at hj; omega
    subst this
    have : args.getD 0 undef = args[0] := by simp [hi]
    rw [← this, h0]; rfl
  subst ha
  refine ⟨.ret (.bool true), m, env, ⟨0, fun n _ => ?_⟩, ⟨Fr2.refl hT.free, hT, fun j hj => absurd hj (Nat.not_lt_zero _), fun i w => .inl w, fun i w => .inl w, fun j hj => absurd hj (Nat.not_lt_zero _), fun j L hj => absurd hj (Nat.not_lt_zero _), fun i w => w⟩, ⟨.bool true, rfl, ofV_rep (.bool true)⟩⟩
  unfold callF
  rw [h]
end Go.IM.V
namespace Go.IM.V
open Go Go.IM Go.Proofs
set_option maxRecDepth 100000 in
theorem run20 : isT (run0 Try.prog 400 20 #[]) = true := by kernel_rfl
set_option maxRecDepth 100000 in
theorem run41_0 : isT (run0 Try.prog 400 41 #[.string (⟨#[102]⟩ : ByteArray)]) = true := by kernel_rfl
noncomputable def G41 (args : Array Value) : Option Value := open Classical in (if args = #[.string (⟨#[102]⟩ : ByteArray)] then some (.bool true) else none)
theorem G41_ok : ∀ args v, G41 args = some v → (∀ x ∈ args.toList, flat 4 x = true) ∧ flat 4 v = true ∧ ∃ n m, run0 Try.prog n 41 args = some (.ret v, m) := by
  intro args v hv
  unfold G41 at hv
  split at hv
  · rename_i e; subst e; cases hv; obtain ⟨m, hm⟩ := isT_some run41_0; exact ⟨fun x hx => by simp at hx; subst hx; rfl, rfl, _, m, hm⟩
  cases hv
noncomputable instance orc20 : Orc Try.prog := Orc.two Try.prog 20 400 run20 41 G41 G41_ok
noncomputable def F20 : Option (OT.ret oT).E := some ((true, ()), (), ())
noncomputable def c20 : Con := ⟨iT, .ret oT, fun _ => F20⟩
theorem c20_ok : Con.OK Try.prog 20 c20 := orc_ok (fun _ h => if_pos ⟨rfl, h⟩)
noncomputable def F41_0 : Option (OT.ret oT).E := some ((true, ()), (), ())
noncomputable def c41_0 : Con := ⟨iK (⟨#[102]⟩ : ByteArray), .ret oT, fun _ => F41_0⟩
theorem c41_0_ok : Con.OK Try.prog 41 c41_0 := orc_okK (by show (if 41 = 20 ∧ _ then _ else if 41 = 41 then G41 _ else _) = _; rw [if_neg (by simp), if_pos rfl]; unfold G41; simp)
noncomputable def b21 : Code := (.seq (.region 0 (regOf Try.f21 0) false) (.seq (.region 1 (regOf Try.f21 1) false) .ret))
theorem body21 : Try.f21.body = some b21 := by kernel_rfl
noncomputable def C21 : Tab := []
theorem C21_ok : TabOK Try.prog C21 := trivial
noncomputable def LO21 : Tab := []
noncomputable def i21 : Tm := { sl := [(0, .v (.i .i64))], bx := [], bf := [] }
noncomputable def o21 : OT := (.ret { sl := [(0, .p 0 0)], bx := [[.mv 1, .v (.i .i64), .v (.i .i64), .v (.i .i64), .v (.i .i64), .v .b], [.mx 0 []]], bf := [] })
noncomputable def F21 (a0 : Int) : Option ((Unit × Unit) × ((Unit × (Int × (Int × (Int × (Int × (Bool × Unit)))))) × ((Unit × Unit) × Unit)) × Unit) :=
  (some (((), ()), (((), a0, (-1), 0, 0, false, ()), ((), ()), ()), ()))
noncomputable def c21 : Con := ⟨i21, o21, fun x => F21 x.1.1⟩
theorem e21 (x : i21.E) : vfn Try.prog C21 LO21 Try.f21 b21 i21 o21 x = F21 x.1.1 := by kernel_rfl
theorem c21_ok : Con.OK Try.prog 21 c21 := (fn_ok C21_ok (fun _ => rfl) Try.func21 body21 (loops_of (l := []) (by kernel_rfl) (show LoopsOK Try.prog Try.f21.ntmps [] LO21 from trivial)) i21 o21).congr fun x => (e21 x).symm
noncomputable def l42a_5 : Code := (.seq (.region 5 (regOf Try.f42 5) false) (.seq (.cond (.tmp 15) .skip (.exit 0)) (.block 1 (.seq (.region 6 (regOf Try.f42 6) false) (.region 7 (regOf Try.f42 7) false)))))
noncomputable def b42a : Code := (.seq (.region 0 (regOf Try.f42 0) false) (.seq (.seq (.region 1 (regOf Try.f42 1) false) (.cond (.tmp 8) (.seq (.region 2 (regOf Try.f42 2) false) .ret) .skip)) (.seq (.region 3 (regOf Try.f42 3) false) (.seq (.seq (.region 4 (regOf Try.f42 4) false) (.block 0 (.loop l42a_5))) (.seq (.region 8 (regOf Try.f42 8) false) .ret)))))
theorem body42a : Try.f42.body = some b42a := by kernel_rfl
noncomputable def C42a : Tab := [(700005, cHot)]
theorem C42a_ok : TabOK Try.prog C42a := ⟨cHot_ok, trivial⟩
noncomputable def LO42a : Tab := []
noncomputable def i42a : Tm := { sl := [(0, .p 0 0)], bx := [[.mv 1, .v (.i .i64), .v (.i .i64), .v (.i .i64), .v (.i .i64), .v .b], [.mx 0 []]], bf := [] }
noncomputable def o42a : OT := (.ret { sl := [(0, .v (.i .i64)), (1, .v (.i .i64))], bx := [[.mv 1, .v (.i .i64), .v (.i .i64), .v (.i .i64), .v (.i .i64), .v .b], [.mx 0 []]], bf := [] })
noncomputable def F42a (b0_1 : Int) (b0_2 : Int) (b0_3 : Int) (b0_4 : Int) (b0_5 : Bool) : Option ((Int × (Int × Unit)) × ((Unit × (Int × (Int × (Int × (Int × (Bool × Unit)))))) × ((Unit × Unit) × Unit)) × Unit) :=
  (some ((b0_1, 0, ()), (((), b0_1, b0_2, b0_3, b0_4, b0_5, ()), ((), ()), ()), ()))
noncomputable def c42a : Con := ⟨i42a, o42a, fun x => F42a x.2.1.1.2.1 x.2.1.1.2.2.1 x.2.1.1.2.2.2.1 x.2.1.1.2.2.2.2.1 x.2.1.1.2.2.2.2.2.1⟩
theorem e42a (x : i42a.E) : vfn Try.prog C42a LO42a Try.f42 b42a i42a o42a x = F42a x.2.1.1.2.1 x.2.1.1.2.2.1 x.2.1.1.2.2.2.1 x.2.1.1.2.2.2.2.1 x.2.1.1.2.2.2.2.2.1 := by kernel_rfl
theorem c42a_ok : Con.OK Try.prog 42 c42a := (fn_ok C42a_ok (fun _ => rfl) Try.func42 body42a (show ∀ b' ∈ loopsOf b42a, ∀ con, lookC LO42a (headReg b') = some con → con.LOK Try.prog Try.f42.ntmps b' from fun _ _ _ h => absurd (show (none : Option Con) = some _ from h) (fun h => by cases h)) i42a o42a).congr fun x => (e42a x).symm
noncomputable def b44a : Code := (.seq (.region 0 (regOf Try.f44 0) false) (.seq (.seq (.region 1 (regOf Try.f44 1) false) (.cond (.tmp 10) (.seq (.region 2 (regOf Try.f44 2) false) .ret) .skip)) (.seq (.region 3 (regOf Try.f44 3) false) (.seq (.seq (.region 4 (regOf Try.f44 4) false) (.cond (.tmp 22) (.seq (.region 5 (regOf Try.f44 5) false) (.seq (.region 6 (regOf Try.f44 6) false) .ret)) .skip)) (.seq (.seq (.region 7 (regOf Try.f44 7) false) (.cond (.tmp 30) (.region 8 (regOf Try.f44 8) false) .skip)) (.seq (.region 9 (regOf Try.f44 9) false) .ret))))))
theorem body44a : Try.f44.body = some b44a := by kernel_rfl
noncomputable def C44a : Tab := []
theorem C44a_ok : TabOK Try.prog C44a := trivial
noncomputable def LO44a : Tab := []
noncomputable def i44a : Tm := { sl := [(0, .p 0 0)], bx := [[.mv 1, .v (.i .i64), .v (.i .i64), .v (.i .i64), .v (.i .i64), .v .b], [.mx 0 []]], bf := [] }
noncomputable def o44a : OT := (.ret { sl := [(0, .v (.i .i64))], bx := [[.mv 1, .v (.i .i64), .v (.i .i64), .v (.i .i64), .v (.i .i64), .v .b], [.mx 0 []]], bf := [] })
noncomputable def F44a (b0_1 : Int) (b0_2 : Int) (b0_3 : Int) (b0_4 : Int) (b0_5 : Bool) : Option ((Int × Unit) × ((Unit × (Int × (Int × (Int × (Int × (Bool × Unit)))))) × ((Unit × Unit) × Unit)) × Unit) :=
  (bif b0_5 then (some ((7, ()), (((), b0_1, b0_2, b0_3, b0_4, b0_5, ()), ((), ()), ()), ())) else (bif ((b0_2 : Int) == 0) then (some ((7, ()), (((), b0_1, b0_2, b0_3, (IntKind.wrap .i64 (b0_4 + 1)), true, ()), ((), ()), ()), ())) else (bif (decide ((b0_2 : Int) > 0)) then (some ((0, ()), (((), b0_1, (IntKind.wrap .i64 (b0_2 - 1)), b0_3, (IntKind.wrap .i64 (b0_4 + 1)), b0_5, ()), ((), ()), ()), ())) else (some ((0, ()), (((), b0_1, b0_2, b0_3, (IntKind.wrap .i64 (b0_4 + 1)), b0_5, ()), ((), ()), ()), ())))))
noncomputable def c44a : Con := ⟨i44a, o44a, fun x => F44a x.2.1.1.2.1 x.2.1.1.2.2.1 x.2.1.1.2.2.2.1 x.2.1.1.2.2.2.2.1 x.2.1.1.2.2.2.2.2.1⟩
theorem e44a (x : i44a.E) : vfn Try.prog C44a LO44a Try.f44 b44a i44a o44a x = F44a x.2.1.1.2.1 x.2.1.1.2.2.1 x.2.1.1.2.2.2.1 x.2.1.1.2.2.2.2.1 x.2.1.1.2.2.2.2.2.1 := by kernel_rfl
theorem c44a_ok : Con.OK Try.prog 44 c44a := (fn_ok C44a_ok (fun _ => rfl) Try.func44 body44a (loops_of (l := []) (by kernel_rfl) (show LoopsOK Try.prog Try.f44.ntmps [] LO44a from trivial)) i44a o44a).congr fun x => (e44a x).symm
noncomputable def b43a : Code := (.seq (.region 0 (regOf Try.f43 0) false) (.seq (.region 1 (regOf Try.f43 1) false) .ret))
theorem body43a : Try.f43.body = some b43a := by kernel_rfl
noncomputable def C43a : Tab := []
theorem C43a_ok : TabOK Try.prog C43a := trivial
noncomputable def LO43a : Tab := []
noncomputable def i43a : Tm := { sl := [(0, .p 0 0)], bx := [[.mv 1, .v (.i .i64), .v (.i .i64), .v (.i .i64), .v (.i .i64), .v .b], [.mx 0 []]], bf := [] }
noncomputable def o43a : OT := (.ret { sl := [(0, .v .b)], bx := [[.mv 1, .v (.i .i64), .v (.i .i64), .v (.i .i64), .v (.i .i64), .v .b], [.mx 0 []]], bf := [] })
noncomputable def F43a (b0_1 : Int) (b0_2 : Int) (b0_3 : Int) (b0_4 : Int) (b0_5 : Bool) : Option ((Bool × Unit) × ((Unit × (Int × (Int × (Int × (Int × (Bool × Unit)))))) × ((Unit × Unit) × Unit)) × Unit) :=
  (some (((!b0_5), ()), (((), b0_1, b0_2, b0_3, b0_4, b0_5, ()), ((), ()), ()), ()))
noncomputable def c43a : Con := ⟨i43a, o43a, fun x => F43a x.2.1.1.2.1 x.2.1.1.2.2.1 x.2.1.1.2.2.2.1 x.2.1.1.2.2.2.2.1 x.2.1.1.2.2.2.2.2.1⟩
theorem e43a (x : i43a.E) : vfn Try.prog C43a LO43a Try.f43 b43a i43a o43a x = F43a x.2.1.1.2.1 x.2.1.1.2.2.1 x.2.1.1.2.2.2.1 x.2.1.1.2.2.2.2.1 x.2.1.1.2.2.2.2.2.1 := by kernel_rfl
theorem c43a_ok : Con.OK Try.prog 43 c43a := (fn_ok C43a_ok (fun _ => rfl) Try.func43 body43a (loops_of (l := []) (by kernel_rfl) (show LoopsOK Try.prog Try.f43.ntmps [] LO43a from trivial)) i43a o43a).congr fun x => (e43a x).symm
noncomputable def l42b_5 : Code := (.seq (.region 5 (regOf Try.f42 5) false) (.seq (.cond (.tmp 15) .skip (.exit 0)) (.block 1 (.seq (.region 6 (regOf Try.f42 6) false) (.region 7 (regOf Try.f42 7) false)))))
noncomputable def b42b : Code := (.seq (.region 0 (regOf Try.f42 0) false) (.seq (.seq (.region 1 (regOf Try.f42 1) false) (.cond (.tmp 8) (.seq (.region 2 (regOf Try.f42 2) false) .ret) .skip)) (.seq (.region 3 (regOf Try.f42 3) false) (.seq (.seq (.region 4 (regOf Try.f42 4) false) (.block 0 (.loop l42b_5))) (.seq (.region 8 (regOf Try.f42 8) false) .ret)))))
theorem body42b : Try.f42.body = some b42b := by kernel_rfl
noncomputable def C42b : Tab := [(700005, cHot)]
theorem C42b_ok : TabOK Try.prog C42b := ⟨cHot_ok, trivial⟩
noncomputable def LO42b : Tab := []
noncomputable def i42b : Tm := { sl := [(0, .p 0 0)], bx := [[.mv 1, .v (.i .i64), .v (.i .i64), .v (.i .i64), .v (.i .i64), .v .b], [.mx 1 [((⟨#[102]⟩ : ByteArray), 0, 2)]], [.o 0, .v (.i .i64)]], bf := [(.i .u8)] }
noncomputable def o42b : OT := (.ret { sl := [(0, .v (.i .i64)), (1, .v (.i .i64))], bx := [[.mv 1, .v (.i .i64), .v (.i .i64), .v (.i .i64), .v (.i .i64), .v .b], [.mx 1 [((⟨#[102]⟩ : ByteArray), 0, 2)]], [.o 0, .v (.i .i64)]], bf := [(.i .u8)] })
noncomputable def F42b (b0_1 : Int) (b0_2 : Int) (b0_3 : Int) (b0_4 : Int) (b0_5 : Bool) (b2_1 : Int) (q0 : (List Int)) : Option ((Int × (Int × Unit)) × ((Unit × (Int × (Int × (Int × (Int × (Bool × Unit)))))) × ((Unit × Unit) × ((Unit × (Int × Unit)) × Unit))) × ((List Int) × Unit)) :=
  (some ((b0_1, (IntKind.wrap .i64 (0 + (((q0).length : Nat) : Int))), ()), (((), b0_1, b0_2, b0_3, b0_4, b0_5, ()), ((), ()), ((), b2_1, ()), ()), (q0, ())))
noncomputable def c42b : Con := ⟨i42b, o42b, fun x => F42b x.2.1.1.2.1 x.2.1.1.2.2.1 x.2.1.1.2.2.2.1 x.2.1.1.2.2.2.2.1 x.2.1.1.2.2.2.2.2.1 x.2.1.2.2.1.2.1 x.2.2.1⟩
theorem e42b (x : i42b.E) : vfn Try.prog C42b LO42b Try.f42 b42b i42b o42b x = F42b x.2.1.1.2.1 x.2.1.1.2.2.1 x.2.1.1.2.2.2.1 x.2.1.1.2.2.2.2.1 x.2.1.1.2.2.2.2.2.1 x.2.1.2.2.1.2.1 x.2.2.1 := by kernel_rfl
theorem c42b_ok : Con.OK Try.prog 42 c42b := (fn_ok C42b_ok (fun _ => rfl) Try.func42 body42b (show ∀ b' ∈ loopsOf b42b, ∀ con, lookC LO42b (headReg b') = some con → con.LOK Try.prog Try.f42.ntmps b' from fun _ _ _ h => absurd (show (none : Option Con) = some _ from h) (fun h => by cases h)) i42b o42b).congr fun x => (e42b x).symm
noncomputable def b44b : Code := (.seq (.region 0 (regOf Try.f44 0) false) (.seq (.seq (.region 1 (regOf Try.f44 1) false) (.cond (.tmp 10) (.seq (.region 2 (regOf Try.f44 2) false) .ret) .skip)) (.seq (.region 3 (regOf Try.f44 3) false) (.seq (.seq (.region 4 (regOf Try.f44 4) false) (.cond (.tmp 22) (.seq (.region 5 (regOf Try.f44 5) false) (.seq (.region 6 (regOf Try.f44 6) false) .ret)) .skip)) (.seq (.seq (.region 7 (regOf Try.f44 7) false) (.cond (.tmp 30) (.region 8 (regOf Try.f44 8) false) .skip)) (.seq (.region 9 (regOf Try.f44 9) false) .ret))))))
theorem body44b : Try.f44.body = some b44b := by kernel_rfl
noncomputable def C44b : Tab := []
theorem C44b_ok : TabOK Try.prog C44b := trivial
noncomputable def LO44b : Tab := []
noncomputable def i44b : Tm := { sl := [(0, .p 0 0)], bx := [[.mv 1, .v (.i .i64), .v (.i .i64), .v (.i .i64), .v (.i .i64), .v .b], [.mx 1 [((⟨#[102]⟩ : ByteArray), 0, 2)]], [.o 0, .v (.i .i64)]], bf := [(.i .u8)] }
noncomputable def o44b : OT := (.ret { sl := [(0, .v (.i .i64))], bx := [[.mv 1, .v (.i .i64), .v (.i .i64), .v (.i .i64), .v (.i .i64), .v .b], [.mx 1 [((⟨#[102]⟩ : ByteArray), 0, 2)]], [.o 0, .v (.i .i64)]], bf := [(.i .u8)] })
noncomputable def F44b (b0_1 : Int) (b0_2 : Int) (b0_3 : Int) (b0_4 : Int) (b0_5 : Bool) (b2_1 : Int) (q0 : (List Int)) : Option ((Int × Unit) × ((Unit × (Int × (Int × (Int × (Int × (Bool × Unit)))))) × ((Unit × Unit) × ((Unit × (Int × Unit)) × Unit))) × ((List Int) × Unit)) :=
  (bif b0_5 then (some ((7, ()), (((), b0_1, b0_2, b0_3, b0_4, b0_5, ()), ((), ()), ((), b2_1, ()), ()), (q0, ()))) else (bif ((b0_2 : Int) == 0) then (some ((7, ()), (((), b0_1, b0_2, b0_3, (IntKind.wrap .i64 (b0_4 + 1)), true, ()), ((), ()), ((), b2_1, ()), ()), (q0, ()))) else (bif (decide ((b0_2 : Int) > 0)) then (some ((0, ()), (((), b0_1, (IntKind.wrap .i64 (b0_2 - 1)), b0_3, (IntKind.wrap .i64 (b0_4 + 1)), b0_5, ()), ((), ()), ((), b2_1, ()), ()), (q0, ()))) else (some ((0, ()), (((), b0_1, b0_2, b0_3, (IntKind.wrap .i64 (b0_4 + 1)), b0_5, ()), ((), ()), ((), b2_1, ()), ()), (q0, ()))))))
noncomputable def c44b : Con := ⟨i44b, o44b, fun x => F44b x.2.1.1.2.1 x.2.1.1.2.2.1 x.2.1.1.2.2.2.1 x.2.1.1.2.2.2.2.1 x.2.1.1.2.2.2.2.2.1 x.2.1.2.2.1.2.1 x.2.2.1⟩
theorem e44b (x : i44b.E) : vfn Try.prog C44b LO44b Try.f44 b44b i44b o44b x = F44b x.2.1.1.2.1 x.2.1.1.2.2.1 x.2.1.1.2.2.2.1 x.2.1.1.2.2.2.2.1 x.2.1.1.2.2.2.2.2.1 x.2.1.2.2.1.2.1 x.2.2.1 := by kernel_rfl
theorem c44b_ok : Con.OK Try.prog 44 c44b := (fn_ok C44b_ok (fun _ => rfl) Try.func44 body44b (loops_of (l := []) (by kernel_rfl) (show LoopsOK Try.prog Try.f44.ntmps [] LO44b from trivial)) i44b o44b).congr fun x => (e44b x).symm
noncomputable def b43b : Code := (.seq (.region 0 (regOf Try.f43 0) false) (.seq (.region 1 (regOf Try.f43 1) false) .ret))
theorem body43b : Try.f43.body = some b43b := by kernel_rfl
noncomputable def C43b : Tab := []
theorem C43b_ok : TabOK Try.prog C43b := trivial
noncomputable def LO43b : Tab := []
noncomputable def i43b : Tm := { sl := [(0, .p 0 0)], bx := [[.mv 1, .v (.i .i64), .v (.i .i64), .v (.i .i64), .v (.i .i64), .v .b], [.mx 1 [((⟨#[102]⟩ : ByteArray), 0, 2)]], [.o 0, .v (.i .i64)]], bf := [(.i .u8)] }
noncomputable def o43b : OT := (.ret { sl := [(0, .v .b)], bx := [[.mv 1, .v (.i .i64), .v (.i .i64), .v (.i .i64), .v (.i .i64), .v .b], [.mx 1 [((⟨#[102]⟩ : ByteArray), 0, 2)]], [.o 0, .v (.i .i64)]], bf := [(.i .u8)] })
noncomputable def F43b (b0_1 : Int) (b0_2 : Int) (b0_3 : Int) (b0_4 : Int) (b0_5 : Bool) (b2_1 : Int) (q0 : (List Int)) : Option ((Bool × Unit) × ((Unit × (Int × (Int × (Int × (Int × (Bool × Unit)))))) × ((Unit × Unit) × ((Unit × (Int × Unit)) × Unit))) × ((List Int) × Unit)) :=
  (some (((!b0_5), ()), (((), b0_1, b0_2, b0_3, b0_4, b0_5, ()), ((), ()), ((), b2_1, ()), ()), (q0, ())))
noncomputable def c43b : Con := ⟨i43b, o43b, fun x => F43b x.2.1.1.2.1 x.2.1.1.2.2.1 x.2.1.1.2.2.2.1 x.2.1.1.2.2.2.2.1 x.2.1.1.2.2.2.2.2.1 x.2.1.2.2.1.2.1 x.2.2.1⟩
theorem e43b (x : i43b.E) : vfn Try.prog C43b LO43b Try.f43 b43b i43b o43b x = F43b x.2.1.1.2.1 x.2.1.1.2.2.1 x.2.1.1.2.2.2.1 x.2.1.1.2.2.2.2.1 x.2.1.1.2.2.2.2.2.1 x.2.1.2.2.1.2.1 x.2.2.1 := by kernel_rfl
theorem c43b_ok : Con.OK Try.prog 43 c43b := (fn_ok C43b_ok (fun _ => rfl) Try.func43 body43b (loops_of (l := []) (by kernel_rfl) (show LoopsOK Try.prog Try.f43.ntmps [] LO43b from trivial)) i43b o43b).congr fun x => (e43b x).symm
noncomputable def b43c : Code := (.seq (.region 0 (regOf Try.f43 0) false) (.seq (.region 1 (regOf Try.f43 1) false) .ret))
theorem body43c : Try.f43.body = some b43c := by kernel_rfl
noncomputable def C43c : Tab := []
theorem C43c_ok : TabOK Try.prog C43c := trivial
noncomputable def LO43c : Tab := []
noncomputable def i43c : Tm := { sl := [(0, .p 0 0)], bx := [[.mv 1, .v (.i .i64), .v (.i .i64), .v (.i .i64), .v (.i .i64), .v .b], [.mx 1 [((⟨#[102]⟩ : ByteArray), 0, 2)]], [.v (.l (.i .u8)), .v (.i .i64)]], bf := [] }
noncomputable def o43c : OT := (.ret { sl := [(0, .v .b)], bx := [[.mv 1, .v (.i .i64), .v (.i .i64), .v (.i .i64), .v (.i .i64), .v .b], [.mx 1 [((⟨#[102]⟩ : ByteArray), 0, 2)]], [.v (.l (.i .u8)), .v (.i .i64)]], bf := [] })
noncomputable def F43c (b0_1 : Int) (b0_2 : Int) (b0_3 : Int) (b0_4 : Int) (b0_5 : Bool) (b2_0 : (List Int)) (b2_1 : Int) : Option ((Bool × Unit) × ((Unit × (Int × (Int × (Int × (Int × (Bool × Unit)))))) × ((Unit × Unit) × (((List Int) × (Int × Unit)) × Unit))) × Unit) :=
  (some (((!b0_5), ()), (((), b0_1, b0_2, b0_3, b0_4, b0_5, ()), ((), ()), (b2_0, b2_1, ()), ()), ()))
noncomputable def c43c : Con := ⟨i43c, o43c, fun x => F43c x.2.1.1.2.1 x.2.1.1.2.2.1 x.2.1.1.2.2.2.1 x.2.1.1.2.2.2.2.1 x.2.1.1.2.2.2.2.2.1 x.2.1.2.2.1.1 x.2.1.2.2.1.2.1⟩
theorem e43c (x : i43c.E) : vfn Try.prog C43c LO43c Try.f43 b43c i43c o43c x = F43c x.2.1.1.2.1 x.2.1.1.2.2.1 x.2.1.1.2.2.2.1 x.2.1.1.2.2.2.2.1 x.2.1.1.2.2.2.2.2.1 x.2.1.2.2.1.1 x.2.1.2.2.1.2.1 := by kernel_rfl
theorem c43c_ok : Con.OK Try.prog 43 c43c := (fn_ok C43c_ok (fun _ => rfl) Try.func43 body43c (loops_of (l := []) (by kernel_rfl) (show LoopsOK Try.prog Try.f43.ntmps [] LO43c from trivial)) i43c o43c).congr fun x => (e43c x).symm
noncomputable def b45a : Code := (.seq (.region 0 (regOf Try.f45 0) false) (.seq (.seq (.region 1 (regOf Try.f45 1) false) (.cond (.tmp 18) (.seq (.region 2 (regOf Try.f45 2) false) (.region 3 (regOf Try.f45 3) false)) .skip)) (.region 4 (regOf Try.f45 4) false)))
theorem body45a : Try.f45.body = some b45a := by kernel_rfl
noncomputable def C45a : Tab := []
theorem C45a_ok : TabOK Try.prog C45a := trivial
noncomputable def LO45a : Tab := []
noncomputable def i45a : Tm := { sl := [(0, .p 0 0), (1, .kt (⟨#[102]⟩ : ByteArray)), (2, .v (.l (.i .u8)))], bx := [[.mv 1, .v (.i .i64), .v (.i .i64), .v (.i .i64), .v (.i .i64), .v .b], [.mx 0 []]], bf := [] }
noncomputable def o45a : OT := (.ret { sl := [], bx := [[.mv 1, .v (.i .i64), .v (.i .i64), .v (.i .i64), .v (.i .i64), .v .b], [.mx 1 [((⟨#[102]⟩ : ByteArray), 0, 2)]], [.o 0, .v (.i .i64)]], bf := [(.i .u8)] })
noncomputable def F45a (a2 : (List Int)) (b0_1 : Int) (b0_2 : Int) (b0_3 : Int) (b0_4 : Int) (b0_5 : Bool) : Option (Unit × ((Unit × (Int × (Int × (Int × (Int × (Bool × Unit)))))) × ((Unit × Unit) × ((Unit × (Int × Unit)) × Unit))) × ((List Int) × Unit)) :=
  (bif (decide ((a2).length < lim)) then (some ((), (((), b0_1, b0_2, b0_3, b0_4, b0_5, ()), ((), ()), ((), 0, ()), ()), (a2, ()))) else none)
noncomputable def c45a : Con := ⟨i45a, o45a, fun x => F45a x.1.2.2.1 x.2.1.1.2.1 x.2.1.1.2.2.1 x.2.1.1.2.2.2.1 x.2.1.1.2.2.2.2.1 x.2.1.1.2.2.2.2.2.1⟩
theorem e45a (x : i45a.E) : vfn Try.prog C45a LO45a Try.f45 b45a i45a o45a x = F45a x.1.2.2.1 x.2.1.1.2.1 x.2.1.1.2.2.1 x.2.1.1.2.2.2.1 x.2.1.1.2.2.2.2.1 x.2.1.1.2.2.2.2.2.1 := by kernel_rfl
theorem c45a_ok : Con.OK Try.prog 45 c45a := (fn_ok C45a_ok (fun _ => rfl) Try.func45 body45a (loops_of (l := []) (by kernel_rfl) (show LoopsOK Try.prog Try.f45.ntmps [] LO45a from trivial)) i45a o45a).congr fun x => (e45a x).symm
noncomputable def b45b : Code := (.seq (.region 0 (regOf Try.f45 0) false) (.seq (.seq (.region 1 (regOf Try.f45 1) false) (.cond (.tmp 18) (.seq (.region 2 (regOf Try.f45 2) false) (.region 3 (regOf Try.f45 3) false)) .skip)) (.region 4 (regOf Try.f45 4) false)))
theorem body45b : Try.f45.body = some b45b := by kernel_rfl
noncomputable def C45b : Tab := []
theorem C45b_ok : TabOK Try.prog C45b := trivial
noncomputable def LO45b : Tab := []
noncomputable def i45b : Tm := { sl := [(0, .p 0 0), (1, .kt (⟨#[102]⟩ : ByteArray)), (2, .v (.l (.i .u8)))], bx := [[.mv 1, .v (.i .i64), .v (.i .i64), .v (.i .i64), .v (.i .i64), .v .b], [.mx 1 [((⟨#[102]⟩ : ByteArray), 0, 2)]], [.o 0, .v (.i .i64)]], bf := [(.i .u8)] }
noncomputable def o45b : OT := (.ret { sl := [], bx := [[.mv 1, .v (.i .i64), .v (.i .i64), .v (.i .i64), .v (.i .i64), .v .b], [.mx 1 [((⟨#[102]⟩ : ByteArray), 0, 2)]], [.o 0, .v (.i .i64)]], bf := [(.i .u8)] })
noncomputable def F45b (a2 : (List Int)) (b0_1 : Int) (b0_2 : Int) (b0_3 : Int) (b0_4 : Int) (b0_5 : Bool) (b2_1 : Int) (q0 : (List Int)) : Option (Unit × ((Unit × (Int × (Int × (Int × (Int × (Bool × Unit)))))) × ((Unit × Unit) × ((Unit × (Int × Unit)) × Unit))) × ((List Int) × Unit)) :=
  (bif (decide ((q0).length + (a2).length < lim)) then (some ((), (((), b0_1, b0_2, b0_3, b0_4, b0_5, ()), ((), ()), ((), b2_1, ()), ()), ((q0 ++ a2), ()))) else none)
noncomputable def c45b : Con := ⟨i45b, o45b, fun x => F45b x.1.2.2.1 x.2.1.1.2.1 x.2.1.1.2.2.1 x.2.1.1.2.2.2.1 x.2.1.1.2.2.2.2.1 x.2.1.1.2.2.2.2.2.1 x.2.1.2.2.1.2.1 x.2.2.1⟩
theorem e45b (x : i45b.E) : vfn Try.prog C45b LO45b Try.f45 b45b i45b o45b x = F45b x.1.2.2.1 x.2.1.1.2.1 x.2.1.1.2.2.1 x.2.1.1.2.2.2.1 x.2.1.1.2.2.2.2.1 x.2.1.1.2.2.2.2.2.1 x.2.1.2.2.1.2.1 x.2.2.1 := by kernel_rfl
theorem c45b_ok : Con.OK Try.prog 45 c45b := (fn_ok C45b_ok (fun _ => rfl) Try.func45 body45b (loops_of (l := []) (by kernel_rfl) (show LoopsOK Try.prog Try.f45.ntmps [] LO45b from trivial)) i45b o45b).congr fun x => (e45b x).symm
noncomputable def b22a : Code := (.seq (.region 0 (regOf Try.f22 0) false) (.seq (.seq (.region 1 (regOf Try.f22 1) false) (.cond (.tmp 13) (.seq (.region 2 (regOf Try.f22 2) false) .ret) .skip)) (.seq (.region 3 (regOf Try.f22 3) false) (.seq (.region 4 (regOf Try.f22 4) false) (.seq (.seq (.region 5 (regOf Try.f22 5) false) (.seq (.region 6 (regOf Try.f22 6) false) (.cond (.tmp 24) (.seq (.seq (.region 7 (regOf Try.f22 7) false) (.cond (.tmp 45) (.region 8 (regOf Try.f22 8) false) .skip)) (.seq (.region 9 (regOf Try.f22 9) false) .ret)) .skip))) (.seq (.seq (.region 10 (regOf Try.f22 10) false) (.cond (.tmp 64) (.seq (.region 11 (regOf Try.f22 11) false) .ret) .skip)) (.seq (.region 12 (regOf Try.f22 12) false) (.seq (.region 13 (regOf Try.f22 13) false) .ret))))))))
theorem body22a : Try.f22.body = some b22a := by kernel_rfl
noncomputable def C22a : Tab := [(41, c41_0), (42, c42a), (43, c43a), (44, c44a), (45, c45a)]
theorem C22a_ok : TabOK Try.prog C22a := ⟨c41_0_ok, c42a_ok, c43a_ok, c44a_ok, c45a_ok, trivial⟩
noncomputable def LO22a : Tab := []
noncomputable def i22a : Tm := { sl := [(0, .p 0 0), (1, .kt (⟨#[102]⟩ : ByteArray)), (2, .v (.l (.i .u8)))], bx := [[.mv 1, .v (.i .i64), .v (.i .i64), .v (.i .i64), .v (.i .i64), .v .b], [.mx 0 []]], bf := [] }
noncomputable def o22a : OT := (.ret { sl := [(0, .v (.i .i64))], bx := [[.mv 1, .v (.i .i64), .v (.i .i64), .v (.i .i64), .v (.i .i64), .v .b], [.mx 1 [((⟨#[102]⟩ : ByteArray), 0, 2)]], [.o 0, .v (.i .i64)]], bf := [(.i .u8)] })
noncomputable def F22a (a2 : (List Int)) (b0_1 : Int) (b0_2 : Int) (b0_3 : Int) (b0_4 : Int) (b0_5 : Bool) : Option ((Int × Unit) × ((Unit × (Int × (Int × (Int × (Int × (Bool × Unit)))))) × ((Unit × Unit) × ((Unit × (Int × Unit)) × Unit))) × ((List Int) × Unit)) :=
  ((F41_0).bind fun y1 => (bif (!y1.1.1) then none else ((F42a b0_1 b0_2 b0_3 b0_4 b0_5).bind fun y2 => ((F43a y2.2.1.1.2.1 y2.2.1.1.2.2.1 y2.2.1.1.2.2.2.1 y2.2.1.1.2.2.2.2.1 y2.2.1.1.2.2.2.2.2.1).bind fun y3 => ((F44a y3.2.1.1.2.1 y3.2.1.1.2.2.1 y3.2.1.1.2.2.2.1 y3.2.1.1.2.2.2.2.1 y3.2.1.1.2.2.2.2.2.1).bind fun y4 => (bif ((y4.1.1 : Int) != 0) then (bif y3.1.1 then (bif (decide ((y4.2.1.1.2.2.2.1 : Int) > 0)) then (bif (decide (((IntKind.wrap .i64 (y2.1.2.1 + (if ((((a2).length : Nat) : Int) : Int) < y4.2.1.1.2.2.2.1 then (((a2).length : Nat) : Int) else y4.2.1.1.2.2.2.1))) : Int) ≤ y2.1.1)) then (bif (decide (0 ≤ ((if ((((a2).length : Nat) : Int) : Int) < y4.2.1.1.2.2.2.1 then (((a2).length : Nat) : Int) else y4.2.1.1.2.2.2.1) : Int) ∧ ((if ((((a2).length : Nat) : Int) : Int) < y4.2.1.1.2.2.2.1 then (((a2).length : Nat) : Int) else y4.2.1.1.2.2.2.1) : Int) ≤ (((a2).length : Nat) : Int))) then ((F45a ((a2).take ((if ((((a2).length : Nat) : Int) : Int) < y4.2.1.1.2.2.2.1 then (((a2).length : Nat) : Int) else y4.2.1.1.2.2.2.1) : Int).toNat) y4.2.1.1.2.1 y4.2.1.1.2.2.1 y4.2.1.1.2.2.2.1 y4.2.1.1.2.2.2.2.1 y4.2.1.1.2.2.2.2.2.1).bind fun y5 => (some ((y4.1.1, ()), (((), y5.2.1.1.2.1, y5.2.1.1.2.2.1, y5.2.1.1.2.2.2.1, y5.2.1.1.2.2.2.2.1, y5.2.1.1.2.2.2.2.2.1, ()), ((), ()), ((), y5.2.1.2.2.1.2.1, ()), ()), (y5.2.2.1, ())))) else none) else none) else none) else none) else (bif (decide (((((a2).length : Nat) : Int) : Int) > (IntKind.wrap .i64 (y2.1.1 - y2.1.2.1)))) then none else ((F45a a2 y4.2.1.1.2.1 y4.2.1.1.2.2.1 y4.2.1.1.2.2.2.1 y4.2.1.1.2.2.2.2.1 y4.2.1.1.2.2.2.2.2.1).bind fun y6 => (some ((0, ()), (((), y6.2.1.1.2.1, y6.2.1.1.2.2.1, y6.2.1.1.2.2.2.1, y6.2.1.1.2.2.2.2.1, y6.2.1.1.2.2.2.2.2.1, ()), ((), ()), ((), y6.2.1.2.2.1.2.1, ()), ()), (y6.2.2.1, ())))))))))))
noncomputable def c22a : Con := ⟨i22a, o22a, fun x => F22a x.1.2.2.1 x.2.1.1.2.1 x.2.1.1.2.2.1 x.2.1.1.2.2.2.1 x.2.1.1.2.2.2.2.1 x.2.1.1.2.2.2.2.2.1⟩
theorem e22a (x : i22a.E) : vfn Try.prog C22a LO22a Try.f22 b22a i22a o22a x = F22a x.1.2.2.1 x.2.1.1.2.1 x.2.1.1.2.2.1 x.2.1.1.2.2.2.1 x.2.1.1.2.2.2.2.1 x.2.1.1.2.2.2.2.2.1 := by kernel_rfl
theorem c22a_ok : Con.OK Try.prog 22 c22a := (fn_ok C22a_ok (fun _ => rfl) Try.func22 body22a (loops_of (l := []) (by kernel_rfl) (show LoopsOK Try.prog Try.f22.ntmps [] LO22a from trivial)) i22a o22a).congr fun x => (e22a x).symm
noncomputable def b22b : Code := (.seq (.region 0 (regOf Try.f22 0) false) (.seq (.seq (.region 1 (regOf Try.f22 1) false) (.cond (.tmp 13) (.seq (.region 2 (regOf Try.f22 2) false) .ret) .skip)) (.seq (.region 3 (regOf Try.f22 3) false) (.seq (.region 4 (regOf Try.f22 4) false) (.seq (.seq (.region 5 (regOf Try.f22 5) false) (.seq (.region 6 (regOf Try.f22 6) false) (.cond (.tmp 24) (.seq (.seq (.region 7 (regOf Try.f22 7) false) (.cond (.tmp 45) (.region 8 (regOf Try.f22 8) false) .skip)) (.seq (.region 9 (regOf Try.f22 9) false) .ret)) .skip))) (.seq (.seq (.region 10 (regOf Try.f22 10) false) (.cond (.tmp 64) (.seq (.region 11 (regOf Try.f22 11) false) .ret) .skip)) (.seq (.region 12 (regOf Try.f22 12) false) (.seq (.region 13 (regOf Try.f22 13) false) .ret))))))))
theorem body22b : Try.f22.body = some b22b := by kernel_rfl
noncomputable def C22b : Tab := [(41, c41_0), (42, c42b), (43, c43b), (44, c44b), (45, c45b)]
theorem C22b_ok : TabOK Try.prog C22b := ⟨c41_0_ok, c42b_ok, c43b_ok, c44b_ok, c45b_ok, trivial⟩
noncomputable def LO22b : Tab := []
noncomputable def i22b : Tm := { sl := [(0, .p 0 0), (1, .kt (⟨#[102]⟩ : ByteArray)), (2, .v (.l (.i .u8)))], bx := [[.mv 1, .v (.i .i64), .v (.i .i64), .v (.i .i64), .v (.i .i64), .v .b], [.mx 1 [((⟨#[102]⟩ : ByteArray), 0, 2)]], [.o 0, .v (.i .i64)]], bf := [(.i .u8)] }
noncomputable def o22b : OT := (.ret { sl := [(0, .v (.i .i64))], bx := [[.mv 1, .v (.i .i64), .v (.i .i64), .v (.i .i64), .v (.i .i64), .v .b], [.mx 1 [((⟨#[102]⟩ : ByteArray), 0, 2)]], [.o 0, .v (.i .i64)]], bf := [(.i .u8)] })
noncomputable def F22b (a2 : (List Int)) (b0_1 : Int) (b0_2 : Int) (b0_3 : Int) (b0_4 : Int) (b0_5 : Bool) (b2_1 : Int) (q0 : (List Int)) : Option ((Int × Unit) × ((Unit × (Int × (Int × (Int × (Int × (Bool × Unit)))))) × ((Unit × Unit) × ((Unit × (Int × Unit)) × Unit))) × ((List Int) × Unit)) :=
  ((F41_0).bind fun y7 => (bif (!y7.1.1) then (some ((1, ()), (((), b0_1, b0_2, b0_3, b0_4, b0_5, ()), ((), ()), ((), b2_1, ()), ()), (q0, ()))) else ((F42b b0_1 b0_2 b0_3 b0_4 b0_5 b2_1 q0).bind fun y8 => ((F43b y8.2.1.1.2.1 y8.2.1.1.2.2.1 y8.2.1.1.2.2.2.1 y8.2.1.1.2.2.2.2.1 y8.2.1.1.2.2.2.2.2.1 y8.2.1.2.2.1.2.1 y8.2.2.1).bind fun y9 => ((F44b y9.2.1.1.2.1 y9.2.1.1.2.2.1 y9.2.1.1.2.2.2.1 y9.2.1.1.2.2.2.2.1 y9.2.1.1.2.2.2.2.2.1 y9.2.1.2.2.1.2.1 y9.2.2.1).bind fun y10 => (bif ((y10.1.1 : Int) != 0) then (bif y9.1.1 then (bif (decide ((y10.2.1.1.2.2.2.1 : Int) > 0)) then (bif (decide (((IntKind.wrap .i64 (y8.1.2.1 + (if ((((a2).length : Nat) : Int) : Int) < y10.2.1.1.2.2.2.1 then (((a2).length : Nat) : Int) else y10.2.1.1.2.2.2.1))) : Int) ≤ y8.1.1)) then (bif (decide (0 ≤ ((if ((((a2).length : Nat) : Int) : Int) < y10.2.1.1.2.2.2.1 then (((a2).length : Nat) : Int) else y10.2.1.1.2.2.2.1) : Int) ∧ ((if ((((a2).length : Nat) : Int) : Int) < y10.2.1.1.2.2.2.1 then (((a2).length : Nat) : Int) else y10.2.1.1.2.2.2.1) : Int) ≤ (((a2).length : Nat) : Int))) then ((F45b ((a2).take ((if ((((a2).length : Nat) : Int) : Int) < y10.2.1.1.2.2.2.1 then (((a2).length : Nat) : Int) else y10.2.1.1.2.2.2.1) : Int).toNat) y10.2.1.1.2.1 y10.2.1.1.2.2.1 y10.2.1.1.2.2.2.1 y10.2.1.1.2.2.2.2.1 y10.2.1.1.2.2.2.2.2.1 y10.2.1.2.2.1.2.1 y10.2.2.1).bind fun y11 => (some ((y10.1.1, ()), (((), y11.2.1.1.2.1, y11.2.1.1.2.2.1, y11.2.1.1.2.2.2.1, y11.2.1.1.2.2.2.2.1, y11.2.1.1.2.2.2.2.2.1, ()), ((), ()), ((), y11.2.1.2.2.1.2.1, ()), ()), (y11.2.2.1, ())))) else none) else (some ((y10.1.1, ()), (((), y10.2.1.1.2.1, y10.2.1.1.2.2.1, y10.2.1.1.2.2.2.1, y10.2.1.1.2.2.2.2.1, y10.2.1.1.2.2.2.2.2.1, ()), ((), ()), ((), y10.2.1.2.2.1.2.1, ()), ()), (y10.2.2.1, ())))) else (some ((y10.1.1, ()), (((), y10.2.1.1.2.1, y10.2.1.1.2.2.1, y10.2.1.1.2.2.2.1, y10.2.1.1.2.2.2.2.1, y10.2.1.1.2.2.2.2.2.1, ()), ((), ()), ((), y10.2.1.2.2.1.2.1, ()), ()), (y10.2.2.1, ())))) else (some ((y10.1.1, ()), (((), y10.2.1.1.2.1, y10.2.1.1.2.2.1, y10.2.1.1.2.2.2.1, y10.2.1.1.2.2.2.2.1, y10.2.1.1.2.2.2.2.2.1, ()), ((), ()), ((), y10.2.1.2.2.1.2.1, ()), ()), (y10.2.2.1, ())))) else (bif (decide (((((a2).length : Nat) : Int) : Int) > (IntKind.wrap .i64 (y8.1.1 - y8.1.2.1)))) then (some ((3, ()), (((), y10.2.1.1.2.1, y10.2.1.1.2.2.1, y10.2.1.1.2.2.2.1, y10.2.1.1.2.2.2.2.1, y10.2.1.1.2.2.2.2.2.1, ()), ((), ()), ((), y10.2.1.2.2.1.2.1, ()), ()), (y10.2.2.1, ()))) else ((F45b a2 y10.2.1.1.2.1 y10.2.1.1.2.2.1 y10.2.1.1.2.2.2.1 y10.2.1.1.2.2.2.2.1 y10.2.1.1.2.2.2.2.2.1 y10.2.1.2.2.1.2.1 y10.2.2.1).bind fun y12 => (some ((0, ()), (((), y12.2.1.1.2.1, y12.2.1.1.2.2.1, y12.2.1.1.2.2.2.1, y12.2.1.1.2.2.2.2.1, y12.2.1.1.2.2.2.2.2.1, ()), ((), ()), ((), y12.2.1.2.2.1.2.1, ()), ()), (y12.2.2.1, ())))))))))))
noncomputable def c22b : Con := ⟨i22b, o22b, fun x => F22b x.1.2.2.1 x.2.1.1.2.1 x.2.1.1.2.2.1 x.2.1.1.2.2.2.1 x.2.1.1.2.2.2.2.1 x.2.1.1.2.2.2.2.2.1 x.2.1.2.2.1.2.1 x.2.2.1⟩
theorem e22b (x : i22b.E) : vfn Try.prog C22b LO22b Try.f22 b22b i22b o22b x = F22b x.1.2.2.1 x.2.1.1.2.1 x.2.1.1.2.2.1 x.2.1.1.2.2.2.1 x.2.1.1.2.2.2.2.1 x.2.1.1.2.2.2.2.2.1 x.2.1.2.2.1.2.1 x.2.2.1 := by kernel_rfl
theorem c22b_ok : Con.OK Try.prog 22 c22b := (fn_ok C22b_ok (fun _ => rfl) Try.func22 body22b (loops_of (l := []) (by kernel_rfl) (show LoopsOK Try.prog Try.f22.ntmps [] LO22b from trivial)) i22b o22b).congr fun x => (e22b x).symm
noncomputable def b23b : Code := (.seq (.region 0 (regOf Try.f23 0) false) (.seq (.seq (.region 1 (regOf Try.f23 1) false) (.seq (.region 2 (regOf Try.f23 2) false) (.cond (.tmp 11) (.seq (.region 3 (regOf Try.f23 3) false) .ret) .skip))) (.seq (.region 4 (regOf Try.f23 4) false) (.seq (.seq (.region 5 (regOf Try.f23 5) false) (.cond (.tmp 23) (.seq (.region 6 (regOf Try.f23 6) false) .ret) .skip)) (.seq (.region 7 (regOf Try.f23 7) false) (.seq (.region 8 (regOf Try.f23 8) false) .ret))))))
theorem body23b : Try.f23.body = some b23b := by kernel_rfl
noncomputable def C23b : Tab := [(44, c44b)]
theorem C23b_ok : TabOK Try.prog C23b := ⟨c44b_ok, trivial⟩
noncomputable def LO23b : Tab := []
noncomputable def i23b : Tm := { sl := [(0, .p 0 0), (1, .kt (⟨#[102]⟩ : ByteArray))], bx := [[.mv 1, .v (.i .i64), .v (.i .i64), .v (.i .i64), .v (.i .i64), .v .b], [.mx 1 [((⟨#[102]⟩ : ByteArray), 0, 2)]], [.o 0, .v (.i .i64)]], bf := [(.i .u8)] }
noncomputable def o23b : OT := (.ret { sl := [(0, .v (.i .i64))], bx := [[.mv 1, .v (.i .i64), .v (.i .i64), .v (.i .i64), .v (.i .i64), .v .b], [.mx 1 [((⟨#[102]⟩ : ByteArray), 0, 2)]], [.o 0, .v (.i .i64)]], bf := [(.i .u8)] })
noncomputable def F23b (b0_1 : Int) (b0_2 : Int) (b0_3 : Int) (b0_4 : Int) (b0_5 : Bool) (b2_1 : Int) (q0 : (List Int)) : Option ((Int × Unit) × ((Unit × (Int × (Int × (Int × (Int × (Bool × Unit)))))) × ((Unit × Unit) × ((Unit × (Int × Unit)) × Unit))) × ((List Int) × Unit)) :=
  ((F44b b0_1 b0_2 b0_3 b0_4 b0_5 b2_1 q0).bind fun y13 => (bif ((y13.1.1 : Int) != 0) then (some ((y13.1.1, ()), (((), y13.2.1.1.2.1, y13.2.1.1.2.2.1, y13.2.1.1.2.2.2.1, y13.2.1.1.2.2.2.2.1, y13.2.1.1.2.2.2.2.2.1, ()), ((), ()), ((), y13.2.1.2.2.1.2.1, ()), ()), (y13.2.2.1, ()))) else (some ((0, ()), (((), y13.2.1.1.2.1, y13.2.1.1.2.2.1, y13.2.1.1.2.2.2.1, y13.2.1.1.2.2.2.2.1, y13.2.1.1.2.2.2.2.2.1, ()), ((), ()), ((), (((y13.2.2.1).length : Nat) : Int), ()), ()), (y13.2.2.1, ())))))
noncomputable def c23b : Con := ⟨i23b, o23b, fun x => F23b x.2.1.1.2.1 x.2.1.1.2.2.1 x.2.1.1.2.2.2.1 x.2.1.1.2.2.2.2.1 x.2.1.1.2.2.2.2.2.1 x.2.1.2.2.1.2.1 x.2.2.1⟩
theorem e23b (x : i23b.E) : vfn Try.prog C23b LO23b Try.f23 b23b i23b o23b x = F23b x.2.1.1.2.1 x.2.1.1.2.2.1 x.2.1.1.2.2.2.1 x.2.1.1.2.2.2.2.1 x.2.1.1.2.2.2.2.2.1 x.2.1.2.2.1.2.1 x.2.2.1 := by kernel_rfl
theorem c23b_ok : Con.OK Try.prog 23 c23b := (fn_ok C23b_ok (fun _ => rfl) Try.func23 body23b (loops_of (l := []) (by kernel_rfl) (show LoopsOK Try.prog Try.f23.ntmps [] LO23b from trivial)) i23b o23b).congr fun x => (e23b x).symm
noncomputable def l24b_2 : Code := (.seq (.region 2 (regOf Try.f24 2) false) (.seq (.cond (.tmp 15) .skip (.exit 0)) (.block 1 (.seq (.region 3 (regOf Try.f24 3) false) (.seq (.region 4 (regOf Try.f24 4) true) (.region 5 (regOf Try.f24 5) false))))))
noncomputable def b24b : Code := (.seq (.seq (.region 0 (regOf Try.f24 0) false) (.cond (.tmp 8) .ret .skip)) (.seq (.seq (.region 1 (regOf Try.f24 1) false) (.block 0 (.loop l24b_2))) (.region 6 (regOf Try.f24 6) false)))
theorem body24b : Try.f24.body = some b24b := by kernel_rfl
noncomputable def C24b : Tab := [(700002, cHot)]
theorem C24b_ok : TabOK Try.prog C24b := ⟨cHot_ok, trivial⟩
noncomputable def LO24b : Tab := []
noncomputable def i24b : Tm := { sl := [(0, .p 0 0), (1, .v (.i .i64))], bx := [[.mv 1, .v (.i .i64), .v (.i .i64), .v (.i .i64), .v (.i .i64), .v .b], [.mx 1 [((⟨#[102]⟩ : ByteArray), 0, 2)]], [.o 0, .v (.i .i64)]], bf := [(.i .u8)] }
noncomputable def o24b : OT := (.ret { sl := [], bx := [[.mv 1, .v (.i .i64), .v (.i .i64), .v (.i .i64), .v (.i .i64), .v .b], [.mx 1 [((⟨#[102]⟩ : ByteArray), 0, 2)]], [.v (.l (.i .u8)), .v (.i .i64)]], bf := [] })
noncomputable def F24b (a1 : Int) (b0_1 : Int) (b0_2 : Int) (b0_3 : Int) (b0_4 : Int) (b0_5 : Bool) (b2_1 : Int) (q0 : (List Int)) : Option (Unit × ((Unit × (Int × (Int × (Int × (Int × (Bool × Unit)))))) × ((Unit × Unit) × (((List Int) × (Int × Unit)) × Unit))) × Unit) :=
  (bif ((decide (0 ≤ ((if ((IntKind.wrap .i64 (b2_1 + (if (0 : Int) > (if ((((q0).length : Nat) : Int) : Int) < a1 then (((q0).length : Nat) : Int) else a1) then 0 else (if ((((q0).length : Nat) : Int) : Int) < a1 then (((q0).length : Nat) : Int) else a1)))) : Int) < (((q0).length : Nat) : Int) then (IntKind.wrap .i64 (b2_1 + (if (0 : Int) > (if ((((q0).length : Nat) : Int) : Int) < a1 then (((q0).length : Nat) : Int) else a1) then 0 else (if ((((q0).length : Nat) : Int) : Int) < a1 then (((q0).length : Nat) : Int) else a1)))) else (((q0).length : Nat) : Int)) : Int) ∧ ((if ((IntKind.wrap .i64 (b2_1 + (if (0 : Int) > (if ((((q0).length : Nat) : Int) : Int) < a1 then (((q0).length : Nat) : Int) else a1) then 0 else (if ((((q0).length : Nat) : Int) : Int) < a1 then (((q0).length : Nat) : Int) else a1)))) : Int) < (((q0).length : Nat) : Int) then (IntKind.wrap .i64 (b2_1 + (if (0 : Int) > (if ((((q0).length : Nat) : Int) : Int) < a1 then (((q0).length : Nat) : Int) else a1) then 0 else (if ((((q0).length : Nat) : Int) : Int) < a1 then (((q0).length : Nat) : Int) else a1)))) else (((q0).length : Nat) : Int)) : Int) ≤ (((q0).length : Nat) : Int))) && (decide (((if ((IntKind.wrap .i64 (b2_1 + (if (0 : Int) > (if ((((q0).length : Nat) : Int) : Int) < a1 then (((q0).length : Nat) : Int) else a1) then 0 else (if ((((q0).length : Nat) : Int) : Int) < a1 then (((q0).length : Nat) : Int) else a1)))) : Int) < (((q0).length : Nat) : Int) then (IntKind.wrap .i64 (b2_1 + (if (0 : Int) > (if ((((q0).length : Nat) : Int) : Int) < a1 then (((q0).length : Nat) : Int) else a1) then 0 else (if ((((q0).length : Nat) : Int) : Int) < a1 then (((q0).length : Nat) : Int) else a1)))) else (((q0).length : Nat) : Int)) : Int) = (if ((IntKind.wrap .i64 (b2_1 + (if (0 : Int) > (if ((((q0).length : Nat) : Int) : Int) < a1 then (((q0).length : Nat) : Int) else a1) then 0 else (if ((((q0).length : Nat) : Int) : Int) < a1 then (((q0).length : Nat) : Int) else a1)))) : Int) < (((q0).length : Nat) : Int) then (IntKind.wrap .i64 (b2_1 + (if (0 : Int) > (if ((((q0).length : Nat) : Int) : Int) < a1 then (((q0).length : Nat) : Int) else a1) then 0 else (if ((((q0).length : Nat) : Int) : Int) < a1 then (((q0).length : Nat) : Int) else a1)))) else (((q0).length : Nat) : Int))))) then (some ((), (((), b0_1, (-1), 0, b0_4, false, ()), ((), ()), (((q0).take ((if ((IntKind.wrap .i64 (b2_1 + (if (0 : Int) > (if ((((q0).length : Nat) : Int) : Int) < a1 then (((q0).length : Nat) : Int) else a1) then 0 else (if ((((q0).length : Nat) : Int) : Int) < a1 then (((q0).length : Nat) : Int) else a1)))) : Int) < (((q0).length : Nat) : Int) then (IntKind.wrap .i64 (b2_1 + (if (0 : Int) > (if ((((q0).length : Nat) : Int) : Int) < a1 then (((q0).length : Nat) : Int) else a1) then 0 else (if ((((q0).length : Nat) : Int) : Int) < a1 then (((q0).length : Nat) : Int) else a1)))) else (((q0).length : Nat) : Int)) : Int).toNat), (if ((IntKind.wrap .i64 (b2_1 + (if (0 : Int) > (if ((((q0).length : Nat) : Int) : Int) < a1 then (((q0).length : Nat) : Int) else a1) then 0 else (if ((((q0).length : Nat) : Int) : Int) < a1 then (((q0).length : Nat) : Int) else a1)))) : Int) < (((q0).length : Nat) : Int) then (IntKind.wrap .i64 (b2_1 + (if (0 : Int) > (if ((((q0).length : Nat) : Int) : Int) < a1 then (((q0).length : Nat) : Int) else a1) then 0 else (if ((((q0).length : Nat) : Int) : Int) < a1 then (((q0).length : Nat) : Int) else a1)))) else (((q0).length : Nat) : Int)), ()), ()), ())) else none)
noncomputable def c24b : Con := ⟨i24b, o24b, fun x => F24b x.1.2.1 x.2.1.1.2.1 x.2.1.1.2.2.1 x.2.1.1.2.2.2.1 x.2.1.1.2.2.2.2.1 x.2.1.1.2.2.2.2.2.1 x.2.1.2.2.1.2.1 x.2.2.1⟩
theorem e24b (x : i24b.E) : vfn Try.prog C24b LO24b Try.f24 b24b i24b o24b x = F24b x.1.2.1 x.2.1.1.2.1 x.2.1.1.2.2.1 x.2.1.1.2.2.2.1 x.2.1.1.2.2.2.2.1 x.2.1.1.2.2.2.2.2.1 x.2.1.2.2.1.2.1 x.2.2.1 := by kernel_rfl
theorem c24b_ok : Con.OK Try.prog 24 c24b := (fn_ok C24b_ok (fun _ => rfl) Try.func24 body24b (show ∀ b' ∈ loopsOf b24b, ∀ con, lookC LO24b (headReg b') = some con → con.LOK Try.prog Try.f24.ntmps b' from fun _ _ _ h => absurd (show (none : Option Con) = some _ from h) (fun h => by cases h)) i24b o24b).congr fun x => (e24b x).symm
noncomputable def l24c_2 : Code := (.seq (.region 2 (regOf Try.f24 2) false) (.seq (.cond (.tmp 15) .skip (.exit 0)) (.block 1 (.seq (.region 3 (regOf Try.f24 3) false) (.seq (.region 4 (regOf Try.f24 4) true) (.region 5 (regOf Try.f24 5) false))))))
noncomputable def b24c : Code := (.seq (.seq (.region 0 (regOf Try.f24 0) false) (.cond (.tmp 8) .ret .skip)) (.seq (.seq (.region 1 (regOf Try.f24 1) false) (.block 0 (.loop l24c_2))) (.region 6 (regOf Try.f24 6) false)))
theorem body24c : Try.f24.body = some b24c := by kernel_rfl
noncomputable def C24c : Tab := [(700002, cHot)]
theorem C24c_ok : TabOK Try.prog C24c := ⟨cHot_ok, trivial⟩
noncomputable def LO24c : Tab := []
noncomputable def i24c : Tm := { sl := [(0, .p 0 0), (1, .v (.i .i64))], bx := [[.mv 1, .v (.i .i64), .v (.i .i64), .v (.i .i64), .v (.i .i64), .v .b], [.mx 1 [((⟨#[102]⟩ : ByteArray), 0, 2)]], [.v (.l (.i .u8)), .v (.i .i64)]], bf := [] }
noncomputable def o24c : OT := (.ret { sl := [], bx := [[.mv 1, .v (.i .i64), .v (.i .i64), .v (.i .i64), .v (.i .i64), .v .b], [.mx 1 [((⟨#[102]⟩ : ByteArray), 0, 2)]], [.v (.l (.i .u8)), .v (.i .i64)]], bf := [] })
noncomputable def F24c (a1 : Int) (b0_1 : Int) (b0_2 : Int) (b0_3 : Int) (b0_4 : Int) (b0_5 : Bool) (b2_0 : (List Int)) (b2_1 : Int) : Option (Unit × ((Unit × (Int × (Int × (Int × (Int × (Bool × Unit)))))) × ((Unit × Unit) × (((List Int) × (Int × Unit)) × Unit))) × Unit) :=
  (bif ((decide (0 ≤ ((if ((IntKind.wrap .i64 (b2_1 + (if (0 : Int) > (if ((((b2_0).length : Nat) : Int) : Int) < a1 then (((b2_0).length : Nat) : Int) else a1) then 0 else (if ((((b2_0).length : Nat) : Int) : Int) < a1 then (((b2_0).length : Nat) : Int) else a1)))) : Int) < (((b2_0).length : Nat) : Int) then (IntKind.wrap .i64 (b2_1 + (if (0 : Int) > (if ((((b2_0).length : Nat) : Int) : Int) < a1 then (((b2_0).length : Nat) : Int) else a1) then 0 else (if ((((b2_0).length : Nat) : Int) : Int) < a1 then (((b2_0).length : Nat) : Int) else a1)))) else (((b2_0).length : Nat) : Int)) : Int) ∧ ((if ((IntKind.wrap .i64 (b2_1 + (if (0 : Int) > (if ((((b2_0).length : Nat) : Int) : Int) < a1 then (((b2_0).length : Nat) : Int) else a1) then 0 else (if ((((b2_0).length : Nat) : Int) : Int) < a1 then (((b2_0).length : Nat) : Int) else a1)))) : Int) < (((b2_0).length : Nat) : Int) then (IntKind.wrap .i64 (b2_1 + (if (0 : Int) > (if ((((b2_0).length : Nat) : Int) : Int) < a1 then (((b2_0).length : Nat) : Int) else a1) then 0 else (if ((((b2_0).length : Nat) : Int) : Int) < a1 then (((b2_0).length : Nat) : Int) else a1)))) else (((b2_0).length : Nat) : Int)) : Int) ≤ (((b2_0).length : Nat) : Int))) && (decide (((if ((IntKind.wrap .i64 (b2_1 + (if (0 : Int) > (if ((((b2_0).length : Nat) : Int) : Int) < a1 then (((b2_0).length : Nat) : Int) else a1) then 0 else (if ((((b2_0).length : Nat) : Int) : Int) < a1 then (((b2_0).length : Nat) : Int) else a1)))) : Int) < (((b2_0).length : Nat) : Int) then (IntKind.wrap .i64 (b2_1 + (if (0 : Int) > (if ((((b2_0).length : Nat) : Int) : Int) < a1 then (((b2_0).length : Nat) : Int) else a1) then 0 else (if ((((b2_0).length : Nat) : Int) : Int) < a1 then (((b2_0).length : Nat) : Int) else a1)))) else (((b2_0).length : Nat) : Int)) : Int) = (if ((IntKind.wrap .i64 (b2_1 + (if (0 : Int) > (if ((((b2_0).length : Nat) : Int) : Int) < a1 then (((b2_0).length : Nat) : Int) else a1) then 0 else (if ((((b2_0).length : Nat) : Int) : Int) < a1 then (((b2_0).length : Nat) : Int) else a1)))) : Int) < (((b2_0).length : Nat) : Int) then (IntKind.wrap .i64 (b2_1 + (if (0 : Int) > (if ((((b2_0).length : Nat) : Int) : Int) < a1 then (((b2_0).length : Nat) : Int) else a1) then 0 else (if ((((b2_0).length : Nat) : Int) : Int) < a1 then (((b2_0).length : Nat) : Int) else a1)))) else (((b2_0).length : Nat) : Int))))) then (some ((), (((), b0_1, (-1), 0, b0_4, false, ()), ((), ()), (((b2_0).take ((if ((IntKind.wrap .i64 (b2_1 + (if (0 : Int) > (if ((((b2_0).length : Nat) : Int) : Int) < a1 then (((b2_0).length : Nat) : Int) else a1) then 0 else (if ((((b2_0).length : Nat) : Int) : Int) < a1 then (((b2_0).length : Nat) : Int) else a1)))) : Int) < (((b2_0).length : Nat) : Int) then (IntKind.wrap .i64 (b2_1 + (if (0 : Int) > (if ((((b2_0).length : Nat) : Int) : Int) < a1 then (((b2_0).length : Nat) : Int) else a1) then 0 else (if ((((b2_0).length : Nat) : Int) : Int) < a1 then (((b2_0).length : Nat) : Int) else a1)))) else (((b2_0).length : Nat) : Int)) : Int).toNat), (if ((IntKind.wrap .i64 (b2_1 + (if (0 : Int) > (if ((((b2_0).length : Nat) : Int) : Int) < a1 then (((b2_0).length : Nat) : Int) else a1) then 0 else (if ((((b2_0).length : Nat) : Int) : Int) < a1 then (((b2_0).length : Nat) : Int) else a1)))) : Int) < (((b2_0).length : Nat) : Int) then (IntKind.wrap .i64 (b2_1 + (if (0 : Int) > (if ((((b2_0).length : Nat) : Int) : Int) < a1 then (((b2_0).length : Nat) : Int) else a1) then 0 else (if ((((b2_0).length : Nat) : Int) : Int) < a1 then (((b2_0).length : Nat) : Int) else a1)))) else (((b2_0).length : Nat) : Int)), ()), ()), ())) else none)
noncomputable def c24c : Con := ⟨i24c, o24c, fun x => F24c x.1.2.1 x.2.1.1.2.1 x.2.1.1.2.2.1 x.2.1.1.2.2.2.1 x.2.1.1.2.2.2.2.1 x.2.1.1.2.2.2.2.2.1 x.2.1.2.2.1.1 x.2.1.2.2.1.2.1⟩
theorem e24c (x : i24c.E) : vfn Try.prog C24c LO24c Try.f24 b24c i24c o24c x = F24c x.1.2.1 x.2.1.1.2.1 x.2.1.1.2.2.1 x.2.1.1.2.2.2.1 x.2.1.1.2.2.2.2.1 x.2.1.1.2.2.2.2.2.1 x.2.1.2.2.1.1 x.2.1.2.2.1.2.1 := by kernel_rfl
theorem c24c_ok : Con.OK Try.prog 24 c24c := (fn_ok C24c_ok (fun _ => rfl) Try.func24 body24c (show ∀ b' ∈ loopsOf b24c, ∀ con, lookC LO24c (headReg b') = some con → con.LOK Try.prog Try.f24.ntmps b' from fun _ _ _ h => absurd (show (none : Option Con) = some _ from h) (fun h => by cases h)) i24c o24c).congr fun x => (e24c x).symm
noncomputable def b46 : Code := (.seq (.region 0 (regOf Try.f46 0) false) (.seq (.seq (.region 1 (regOf Try.f46 1) false) (.cond (.tmp 4) (.seq (.region 2 (regOf Try.f46 2) false) .ret) .skip)) (.seq (.region 3 (regOf Try.f46 3) false) .ret)))
theorem body46 : Try.f46.body = some b46 := by kernel_rfl
noncomputable def C46 : Tab := []
theorem C46_ok : TabOK Try.prog C46 := trivial
noncomputable def LO46 : Tab := []
noncomputable def i46 : Tm := { sl := [(0, .v (.l (.i .u8)))], bx := [], bf := [] }
noncomputable def o46 : OT := (.ret { sl := [(0, .v (.l (.i .u8)))], bx := [], bf := [] })
noncomputable def F46 (a0 : (List Int)) : Option (((List Int) × Unit) × Unit × Unit) :=
  (nilBr (a0).length (some ((([] : List Int), ()), (), ())) (bif (decide ((([] : List Int)).length + (a0).length < lim)) then (some (((([] : List Int) ++ a0), ()), (), ())) else none))
noncomputable def c46 : Con := ⟨i46, o46, fun x => F46 x.1.1⟩
theorem e46 (x : i46.E) : vfn Try.prog C46 LO46 Try.f46 b46 i46 o46 x = F46 x.1.1 := by kernel_rfl
theorem c46_ok : Con.OK Try.prog 46 c46 := (fn_ok C46_ok (fun _ => rfl) Try.func46 body46 (loops_of (l := []) (by kernel_rfl) (show LoopsOK Try.prog Try.f46.ntmps [] LO46 from trivial)) i46 o46).congr fun x => (e46 x).symm
noncomputable def b25c : Code := (.seq (.region 0 (regOf Try.f25 0) false) (.seq (.seq (.region 1 (regOf Try.f25 1) false) (.cond (.tmp 10) (.seq (.region 2 (regOf Try.f25 2) false) .ret) .skip)) (.seq (.region 3 (regOf Try.f25 3) false) (.seq (.seq (.region 4 (regOf Try.f25 4) false) (.cond (.tmp 21) (.seq (.region 5 (regOf Try.f25 5) false) .ret) .skip)) (.seq (.region 6 (regOf Try.f25 6) false) .ret)))))
theorem body25c : Try.f25.body = some b25c := by kernel_rfl
noncomputable def C25c : Tab := [(43, c43c), (46, c46)]
theorem C25c_ok : TabOK Try.prog C25c := ⟨c43c_ok, c46_ok, trivial⟩
noncomputable def LO25c : Tab := []
noncomputable def i25c : Tm := { sl := [(0, .p 0 0), (1, .kt (⟨#[102]⟩ : ByteArray))], bx := [[.mv 1, .v (.i .i64), .v (.i .i64), .v (.i .i64), .v (.i .i64), .v .b], [.mx 1 [((⟨#[102]⟩ : ByteArray), 0, 2)]], [.v (.l (.i .u8)), .v (.i .i64)]], bf := [] }
noncomputable def o25c : OT := (.ret { sl := [(0, .v (.l (.i .u8))), (1, .v (.i .i64))], bx := [[.mv 1, .v (.i .i64), .v (.i .i64), .v (.i .i64), .v (.i .i64), .v .b], [.mx 1 [((⟨#[102]⟩ : ByteArray), 0, 2)]], [.v (.l (.i .u8)), .v (.i .i64)]], bf := [] })
noncomputable def F25c (b0_1 : Int) (b0_2 : Int) (b0_3 : Int) (b0_4 : Int) (b0_5 : Bool) (b2_0 : (List Int)) (b2_1 : Int) : Option (((List Int) × (Int × Unit)) × ((Unit × (Int × (Int × (Int × (Int × (Bool × Unit)))))) × ((Unit × Unit) × (((List Int) × (Int × Unit)) × Unit))) × Unit) :=
  ((F43c b0_1 b0_2 b0_3 b0_4 b0_5 b2_0 b2_1).bind fun y14 => (bif (!y14.1.1) then (some ((([] : List Int), 7, ()), (((), y14.2.1.1.2.1, y14.2.1.1.2.2.1, y14.2.1.1.2.2.2.1, y14.2.1.1.2.2.2.2.1, y14.2.1.1.2.2.2.2.2.1, ()), ((), ()), (y14.2.1.2.2.1.1, y14.2.1.2.2.1.2.1, ()), ()), ())) else ((F46 y14.2.1.2.2.1.1).bind fun y15 => (some ((y15.1.1, 0, ()), (((), y14.2.1.1.2.1, y14.2.1.1.2.2.1, y14.2.1.1.2.2.2.1, y14.2.1.1.2.2.2.2.1, y14.2.1.1.2.2.2.2.2.1, ()), ((), ()), (y14.2.1.2.2.1.1, y14.2.1.2.2.1.2.1, ()), ()), ())))))
noncomputable def c25c : Con := ⟨i25c, o25c, fun x => F25c x.2.1.1.2.1 x.2.1.1.2.2.1 x.2.1.1.2.2.2.1 x.2.1.1.2.2.2.2.1 x.2.1.1.2.2.2.2.2.1 x.2.1.2.2.1.1 x.2.1.2.2.1.2.1⟩
theorem e25c (x : i25c.E) : vfn Try.prog C25c LO25c Try.f25 b25c i25c o25c x = F25c x.2.1.1.2.1 x.2.1.1.2.2.1 x.2.1.1.2.2.2.1 x.2.1.1.2.2.2.2.1 x.2.1.1.2.2.2.2.2.1 x.2.1.2.2.1.1 x.2.1.2.2.1.2.1 := by kernel_rfl
theorem c25c_ok : Con.OK Try.prog 25 c25c := (fn_ok C25c_ok (fun _ => rfl) Try.func25 body25c (loops_of (l := []) (by kernel_rfl) (show LoopsOK Try.prog Try.f25.ntmps [] LO25c from trivial)) i25c o25c).congr fun x => (e25c x).symm
noncomputable def b26c : Code := (.seq (.region 0 (regOf Try.f26 0) false) (.seq (.seq (.region 1 (regOf Try.f26 1) false) (.cond (.tmp 15) (.seq (.region 2 (regOf Try.f26 2) false) .ret) .skip)) (.seq (.region 3 (regOf Try.f26 3) false) .ret)))
theorem body26c : Try.f26.body = some b26c := by kernel_rfl
noncomputable def C26c : Tab := []
theorem C26c_ok : TabOK Try.prog C26c := trivial
noncomputable def LO26c : Tab := []
noncomputable def i26c : Tm := { sl := [(0, .p 0 0), (1, .kt (⟨#[102]⟩ : ByteArray))], bx := [[.mv 1, .v (.i .i64), .v (.i .i64), .v (.i .i64), .v (.i .i64), .v .b], [.mx 1 [((⟨#[102]⟩ : ByteArray), 0, 2)]], [.v (.l (.i .u8)), .v (.i .i64)]], bf := [] }
noncomputable def o26c : OT := (.ret { sl := [(0, .v (.i .i64))], bx := [[.mv 1, .v (.i .i64), .v (.i .i64), .v (.i .i64), .v (.i .i64), .v .b], [.mx 1 [((⟨#[102]⟩ : ByteArray), 0, 2)]], [.v (.l (.i .u8)), .v (.i .i64)]], bf := [] })
noncomputable def F26c (b0_1 : Int) (b0_2 : Int) (b0_3 : Int) (b0_4 : Int) (b0_5 : Bool) (b2_0 : (List Int)) (b2_1 : Int) : Option ((Int × Unit) × ((Unit × (Int × (Int × (Int × (Int × (Bool × Unit)))))) × ((Unit × Unit) × (((List Int) × (Int × Unit)) × Unit))) × Unit) :=
  (some ((b2_1, ()), (((), b0_1, b0_2, b0_3, b0_4, b0_5, ()), ((), ()), (b2_0, b2_1, ()), ()), ()))
noncomputable def c26c : Con := ⟨i26c, o26c, fun x => F26c x.2.1.1.2.1 x.2.1.1.2.2.1 x.2.1.1.2.2.2.1 x.2.1.1.2.2.2.2.1 x.2.1.1.2.2.2.2.2.1 x.2.1.2.2.1.1 x.2.1.2.2.1.2.1⟩
theorem e26c (x : i26c.E) : vfn Try.prog C26c LO26c Try.f26 b26c i26c o26c x = F26c x.2.1.1.2.1 x.2.1.1.2.2.1 x.2.1.1.2.2.2.1 x.2.1.1.2.2.2.2.1 x.2.1.1.2.2.2.2.2.1 x.2.1.2.2.1.1 x.2.1.2.2.1.2.1 := by kernel_rfl
theorem c26c_ok : Con.OK Try.prog 26 c26c := (fn_ok C26c_ok (fun _ => rfl) Try.func26 body26c (loops_of (l := []) (by kernel_rfl) (show LoopsOK Try.prog Try.f26.ntmps [] LO26c from trivial)) i26c o26c).congr fun x => (e26c x).symm
noncomputable def b5 : Code := (.seq (.region 0 (regOf Try.f5 0) false) (.seq (.seq (.region 1 (regOf Try.f5 1) false) (.cond (.tmp 27) (.seq (.region 2 (regOf Try.f5 2) false) .ret) .skip)) (.seq (.region 3 (regOf Try.f5 3) false) (.seq (.region 4 (regOf Try.f5 4) false) (.seq (.region 5 (regOf Try.f5 5) false) (.seq (.region 6 (regOf Try.f5 6) false) (.seq (.region 7 (regOf Try.f5 7) false) (.seq (.region 8 (regOf Try.f5 8) false) (.seq (.seq (.region 9 (regOf Try.f5 9) false) (.cond (.tmp 45) (.region 10 (regOf Try.f5 10) false) .skip)) (.seq (.seq (.region 11 (regOf Try.f5 11) false) (.cond (.tmp 48) (.region 12 (regOf Try.f5 12) false) .skip)) (.seq (.region 13 (regOf Try.f5 13) false) (.seq (.region 14 (regOf Try.f5 14) false) (.seq (.region 15 (regOf Try.f5 15) false) (.seq (.region 16 (regOf Try.f5 16) false) (.seq (.region 17 (regOf Try.f5 17) true) .ret)))))))))))))))
theorem body5 : Try.f5.body = some b5 := by kernel_rfl
noncomputable def C5 : Tab := [(20, c20), (21, c21), (22, c22a), (22, c22b), (23, c23b), (24, c24b), (24, c24c), (25, c25c), (26, c26c)]
theorem C5_ok : TabOK Try.prog C5 := ⟨c20_ok, c21_ok, c22a_ok, c22b_ok, c23b_ok, c24b_ok, c24c_ok, c25c_ok, c26c_ok, trivial⟩
noncomputable def LO5 : Tab := []
noncomputable def i5 : Tm := { sl := [(0, .v (.l (.i .u8))), (1, .v (.l (.i .u8))), (2, .v (.i .i64)), (3, .v (.i .i64))], bx := [], bf := [] }
noncomputable def o5 : OT := (.ret { sl := [(0, .v .b)], bx := [], bf := [] })
noncomputable def F5 (a0 : (List Int)) (a1 : (List Int)) (a2 : Int) (a3 : Int) : Option ((Bool × Unit) × Unit × Unit) :=
  ((F20).bind fun y16 => (bif (!y16.1.1) then ((F20).bind fun y17 => (some ((y17.1.1, ()), (), ()))) else (bif (decide (((((a0).length : Nat) : Int) : Int) > 200)) then ((F20).bind fun y18 => (some ((y18.1.1, ()), (), ()))) else (bif (decide (((((a1).length : Nat) : Int) : Int) > 200)) then ((F20).bind fun y19 => (some ((y19.1.1, ()), (), ()))) else ((F21 1000).bind fun y20 => ((F22a a0 y20.2.1.1.2.1 y20.2.1.1.2.2.1 y20.2.1.1.2.2.2.1 y20.2.1.1.2.2.2.2.1 y20.2.1.1.2.2.2.2.2.1).bind fun y21 => ((F23b y21.2.1.1.2.1 y21.2.1.1.2.2.1 y21.2.1.1.2.2.2.1 y21.2.1.1.2.2.2.2.1 y21.2.1.1.2.2.2.2.2.1 y21.2.1.2.2.1.2.1 y21.2.2.1).bind fun y22 => ((F22b a1 y22.2.1.1.2.1 y22.2.1.1.2.2.1 y22.2.1.1.2.2.2.1 y22.2.1.1.2.2.2.2.1 y22.2.1.1.2.2.2.2.2.1 y22.2.1.2.2.1.2.1 y22.2.2.1).bind fun y23 => ((F24b a2 y23.2.1.1.2.1 y23.2.1.1.2.2.1 y23.2.1.1.2.2.2.1 y23.2.1.1.2.2.2.2.1 y23.2.1.1.2.2.2.2.2.1 y23.2.1.2.2.1.2.1 y23.2.2.1).bind fun y24 => (bif (decide ((a2 : Int) < (((a1).length : Nat) : Int))) then (bif (decide ((a2 : Int) < 0)) then ((F25c y24.2.1.1.2.1 y24.2.1.1.2.2.1 y24.2.1.1.2.2.2.1 y24.2.1.1.2.2.2.2.1 y24.2.1.1.2.2.2.2.2.1 y24.2.1.2.2.1.1 y24.2.1.2.2.1.2.1).bind fun y25 => ((F26c y25.2.1.1.2.1 y25.2.1.1.2.2.1 y25.2.1.1.2.2.2.1 y25.2.1.1.2.2.2.2.1 y25.2.1.1.2.2.2.2.2.1 y25.2.1.2.2.1.1 y25.2.1.2.2.1.2.1).bind fun y26 => ((F24c a3 y26.2.1.1.2.1 y26.2.1.1.2.2.1 y26.2.1.1.2.2.2.1 y26.2.1.1.2.2.2.2.1 y26.2.1.1.2.2.2.2.2.1 y26.2.1.2.2.1.1 y26.2.1.2.2.1.2.1).bind fun y27 => ((F25c y27.2.1.1.2.1 y27.2.1.1.2.2.1 y27.2.1.1.2.2.2.1 y27.2.1.1.2.2.2.2.1 y27.2.1.1.2.2.2.2.2.1 y27.2.1.2.2.1.1 y27.2.1.2.2.1.2.1).bind fun y28 => (bif (decide (0 ≤ (0 : Int) ∧ (0 : Int) ≤ (((a1).length : Nat) : Int))) then (bif (decide (((strL a0)).size + ((strL ((a1).take (0 : Int).toNat))).size ≤ 9223372036854775807)) then (bif (((strL y25.1.1) : ByteArray).toList == (((strL a0) ++ (strL ((a1).take (0 : Int).toNat))) : ByteArray).toList) then (bif ((y26.1.1 : Int) == (((y25.1.1).length : Nat) : Int)) then (some (((((strL y28.1.1) : ByteArray).toList == ((strL y25.1.1) : ByteArray).toList), ()), (), ())) else (some ((false, ()), (), ()))) else (some ((false, ()), (), ()))) else none) else none))))) else ((F25c y24.2.1.1.2.1 y24.2.1.1.2.2.1 y24.2.1.1.2.2.2.1 y24.2.1.1.2.2.2.2.1 y24.2.1.1.2.2.2.2.2.1 y24.2.1.2.2.1.1 y24.2.1.2.2.1.2.1).bind fun y29 => ((F26c y29.2.1.1.2.1 y29.2.1.1.2.2.1 y29.2.1.1.2.2.2.1 y29.2.1.1.2.2.2.2.1 y29.2.1.1.2.2.2.2.2.1 y29.2.1.2.2.1.1 y29.2.1.2.2.1.2.1).bind fun y30 => ((F24c a3 y30.2.1.1.2.1 y30.2.1.1.2.2.1 y30.2.1.1.2.2.2.1 y30.2.1.1.2.2.2.2.1 y30.2.1.1.2.2.2.2.2.1 y30.2.1.2.2.1.1 y30.2.1.2.2.1.2.1).bind fun y31 => ((F25c y31.2.1.1.2.1 y31.2.1.1.2.2.1 y31.2.1.1.2.2.2.1 y31.2.1.1.2.2.2.2.1 y31.2.1.1.2.2.2.2.2.1 y31.2.1.2.2.1.1 y31.2.1.2.2.1.2.1).bind fun y32 => (bif (decide (0 ≤ (a2 : Int) ∧ (a2 : Int) ≤ (((a1).length : Nat) : Int))) then (bif (decide (((strL a0)).size + ((strL ((a1).take (a2 : Int).toNat))).size ≤ 9223372036854775807)) then (bif (((strL y29.1.1) : ByteArray).toList == (((strL a0) ++ (strL ((a1).take (a2 : Int).toNat))) : ByteArray).toList) then (bif ((y30.1.1 : Int) == (((y29.1.1).length : Nat) : Int)) then (some (((((strL y32.1.1) : ByteArray).toList == ((strL y29.1.1) : ByteArray).toList), ()), (), ())) else (some ((false, ()), (), ()))) else (some ((false, ()), (), ()))) else none) else none)))))) else (bif (decide (((((a1).length : Nat) : Int) : Int) < 0)) then ((F25c y24.2.1.1.2.1 y24.2.1.1.2.2.1 y24.2.1.1.2.2.2.1 y24.2.1.1.2.2.2.2.1 y24.2.1.1.2.2.2.2.2.1 y24.2.1.2.2.1.1 y24.2.1.2.2.1.2.1).bind fun y33 => ((F26c y33.2.1.1.2.1 y33.2.1.1.2.2.1 y33.2.1.1.2.2.2.1 y33.2.1.1.2.2.2.2.1 y33.2.1.1.2.2.2.2.2.1 y33.2.1.2.2.1.1 y33.2.1.2.2.1.2.1).bind fun y34 => ((F24c a3 y34.2.1.1.2.1 y34.2.1.1.2.2.1 y34.2.1.1.2.2.2.1 y34.2.1.1.2.2.2.2.1 y34.2.1.1.2.2.2.2.2.1 y34.2.1.2.2.1.1 y34.2.1.2.2.1.2.1).bind fun y35 => ((F25c y35.2.1.1.2.1 y35.2.1.1.2.2.1 y35.2.1.1.2.2.2.1 y35.2.1.1.2.2.2.2.1 y35.2.1.1.2.2.2.2.2.1 y35.2.1.2.2.1.1 y35.2.1.2.2.1.2.1).bind fun y36 => (bif (decide (0 ≤ (0 : Int) ∧ (0 : Int) ≤ (((a1).length : Nat) : Int))) then (bif (decide (((strL a0)).size + ((strL ((a1).take (0 : Int).toNat))).size ≤ 9223372036854775807)) then (bif (((strL y33.1.1) : ByteArray).toList == (((strL a0) ++ (strL ((a1).take (0 : Int).toNat))) : ByteArray).toList) then (bif ((y34.1.1 : Int) == (((y33.1.1).length : Nat) : Int)) then (some (((((strL y36.1.1) : ByteArray).toList == ((strL y33.1.1) : ByteArray).toList), ()), (), ())) else (some ((false, ()), (), ()))) else (some ((false, ()), (), ()))) else none) else none))))) else ((F25c y24.2.1.1.2.1 y24.2.1.1.2.2.1 y24.2.1.1.2.2.2.1 y24.2.1.1.2.2.2.2.1 y24.2.1.1.2.2.2.2.2.1 y24.2.1.2.2.1.1 y24.2.1.2.2.1.2.1).bind fun y37 => ((F26c y37.2.1.1.2.1 y37.2.1.1.2.2.1 y37.2.1.1.2.2.2.1 y37.2.1.1.2.2.2.2.1 y37.2.1.1.2.2.2.2.2.1 y37.2.1.2.2.1.1 y37.2.1.2.2.1.2.1).bind fun y38 => ((F24c a3 y38.2.1.1.2.1 y38.2.1.1.2.2.1 y38.2.1.1.2.2.2.1 y38.2.1.1.2.2.2.2.1 y38.2.1.1.2.2.2.2.2.1 y38.2.1.2.2.1.1 y38.2.1.2.2.1.2.1).bind fun y39 => ((F25c y39.2.1.1.2.1 y39.2.1.1.2.2.1 y39.2.1.1.2.2.2.1 y39.2.1.1.2.2.2.2.1 y39.2.1.1.2.2.2.2.2.1 y39.2.1.2.2.1.1 y39.2.1.2.2.1.2.1).bind fun y40 => (bif (decide (0 ≤ ((((a1).length : Nat) : Int) : Int) ∧ ((((a1).length : Nat) : Int) : Int) ≤ (((a1).length : Nat) : Int))) then (bif (decide (((strL a0)).size + ((strL ((a1).take ((((a1).length : Nat) : Int) : Int).toNat))).size ≤ 9223372036854775807)) then (bif (((strL y37.1.1) : ByteArray).toList == (((strL a0) ++ (strL ((a1).take ((((a1).length : Nat) : Int) : Int).toNat))) : ByteArray).toList) then (bif ((y38.1.1 : Int) == (((y37.1.1).length : Nat) : Int)) then (some (((((strL y40.1.1) : ByteArray).toList == ((strL y37.1.1) : ByteArray).toList), ()), (), ())) else (some ((false, ()), (), ()))) else (some ((false, ()), (), ()))) else none) else none))))))))))))))))
noncomputable def c5 : Con := ⟨i5, o5, fun x => F5 x.1.1 x.1.2.1 x.1.2.2.1 x.1.2.2.2.1⟩
theorem e5 (x : i5.E) : vfn Try.prog C5 LO5 Try.f5 b5 i5 o5 x = F5 x.1.1 x.1.2.1 x.1.2.2.1 x.1.2.2.2.1 := by kernel_rfl
theorem c5_ok : Con.OK Try.prog 5 c5 := (fn_ok C5_ok (fun _ => rfl) Try.func5 body5 (loops_of (l := []) (by kernel_rfl) (show LoopsOK Try.prog Try.f5.ntmps [] LO5 from trivial)) i5 o5).congr fun x => (e5 x).symm
end Go.IM.V
namespace Go.IM.V
open Go Go.IM
end Go.IM.V
namespace Go.IM.V
open Go Go.IM Go.Proofs
theorem strL_app (a b : List Int) : strL (a ++ b) = strL a ++ strL b := by
  unfold strL
  apply ByteArray.ext
  simp
theorem strL_size (a : List Int) : (strL a).size = a.length := by unfold strL; show (Array.size _) = _; simp
theorem new_eq : F21 1000 = some (((), ()), (((), 1000, (-1), 0, 0, false, ()), ((), ()), ()), ()) := rfl
theorem app1 {a : List Int} (h : a.length ≤ 200) : F22a a 1000 (-1) 0 0 false = some ((0, ()), (((), 1000, (-1), 0, 1, false, ()), ((), ()), ((), 0, ()), ()), (a, ())) := by
  have e1 : F44a 1000 (-1) 0 0 false = some ((0, ()), (((), 1000, (-1), 0, 1, false, ()), ((), ()), ()), ()) := by
    unfold F44a
    rw [show ((-1 : Int) == 0) = false from rfl, show decide ((-1 : Int) > 0) = false from rfl, show IntKind.wrap .i64 (0 + 1) = 1 from by decide +kernel]; rfl
  have e2 : F42a 1000 (-1) 0 0 false = some ((1000, 0, ()), (((), 1000, (-1), 0, 0, false, ()), ((), ()), ()), ()) := rfl
  have e3 : F43a 1000 (-1) 0 0 false = some ((true, ()), (((), 1000, (-1), 0, 0, false, ()), ((), ()), ()), ()) := rfl
  have e4 : F45a a 1000 (-1) 0 1 false = some ((), (((), 1000, (-1), 0, 1, false, ()), ((), ()), ((), 0, ()), ()), (a, ())) := by
    unfold F45a; rw [decide_eq_true (by unfold lim; omega)]; rfl
  unfold F22a F41_0
  simp only [Option.bind_some, Bool.not_true, cond_false, e1, e2, e3, bne_self_eq_false]
  rw [show IntKind.wrap .i64 (1000 - 0) = 1000 from by decide +kernel, decide_eq_false (by omega)]
  simp only [cond_false, e4, Option.bind_some]
theorem sync1 {a : List Int} : F23b 1000 (-1) 0 1 false 0 a = some ((0, ()), (((), 1000, (-1), 0, 2, false, ()), ((), ()), ((), ((a.length : Nat) : Int), ()), ()), (a, ())) := by
  have e1 : F44b 1000 (-1) 0 1 false 0 a = some ((0, ()), (((), 1000, (-1), 0, 2, false, ()), ((), ()), ((), 0, ()), ()), (a, ())) := by
    unfold F44b
    rw [show ((-1 : Int) == 0) = false from rfl, show decide ((-1 : Int) > 0) = false from rfl, show IntKind.wrap .i64 (1 + 1) = 2 from by decide +kernel]; rfl
  unfold F23b
  rw [e1]
  rfl
theorem app2 {a b : List Int} {s : Int} (h : a.length ≤ 200) (hb : b.length ≤ 200) : F22b b 1000 (-1) 0 2 false s a = some ((0, ()), (((), 1000, (-1), 0, 3, false, ()), ((), ()), ((), s, ()), ()), (a ++ b, ())) := by
  have e1 : F44b 1000 (-1) 0 2 false s a = some ((0, ()), (((), 1000, (-1), 0, 3, false, ()), ((), ()), ((), s, ()), ()), (a, ())) := by
    unfold F44b
    rw [show ((-1 : Int) == 0) = false from rfl, show decide ((-1 : Int) > 0) = false from rfl, show IntKind.wrap .i64 (2 + 1) = 3 from by decide +kernel]; rfl
  have e2 : F42b 1000 (-1) 0 2 false s a = some ((1000, ((a.length : Nat) : Int), ()), (((), 1000, (-1), 0, 2, false, ()), ((), ()), ((), s, ()), ()), (a, ())) := by
    unfold F42b
    rw [w64 (by omega) (by omega), Int.zero_add]
  have e3 : F43b 1000 (-1) 0 2 false s a = some ((true, ()), (((), 1000, (-1), 0, 2, false, ()), ((), ()), ((), s, ()), ()), (a, ())) := rfl
  have e4 : F45b b 1000 (-1) 0 3 false s a = some ((), (((), 1000, (-1), 0, 3, false, ()), ((), ()), ((), s, ()), ()), (a ++ b, ())) := by
    unfold F45b; rw [decide_eq_true (by unfold lim; omega)]; rfl
  unfold F22b F41_0
  simp only [Option.bind_some, Bool.not_true, cond_false, e1, e2, e3, bne_self_eq_false]
  rw [w64 (n := 1000 - ((a.length : Nat) : Int)) (by omega) (by omega), decide_eq_false (by omega)]
  simp only [cond_false, e4, Option.bind_some]
def nK (keep s : Int) (L : Nat) : Int := min (s + max (min keep L) 0) L
theorem crash1 {keep r fu to ac s : Int} {off : Bool} {q : List Int} (hs : 0 ≤ s) (hs1 : s ≤ q.length) (hq : q.length ≤ 400) :
    F24b keep r fu to ac off s q = some ((), (((), r, (-1), 0, ac, false, ()), ((), ()), (q.take (nK keep s q.length).toNat, nK keep s q.length, ()), ()), ()) := by
  have hm : (if (0 : Int) > (if ((((q).length : Nat) : Int) : Int) < keep then (((q).length : Nat) : Int) else keep) then 0 else (if ((((q).length : Nat) : Int) : Int) < keep then (((q).length : Nat) : Int) else keep)) = max (min keep q.length) 0 := by
    by_cases h1 : ((q.length : Nat) : Int) < keep
    · rw [if_pos h1, if_neg (by omega)]; omega
    · rw [if_neg h1]; split <;> omega
  unfold F24b
  rw [hm, w64 (n := s + max (min keep q.length) 0) (by omega) (by omega)]
  have hn : (if (s + max (min keep q.length) 0 : Int) < (((q).length : Nat) : Int) then s + max (min keep q.length) 0 else (((q).length : Nat) : Int)) = nK keep s q.length := by
    unfold nK; split <;> omega
  rw [hn, decide_eq_true (show 0 ≤ nK keep s q.length ∧ nK keep s q.length ≤ ((q.length : Nat) : Int) by unfold nK; omega), decide_eq_true (rfl : nK keep s q.length = nK keep s q.length)]
  rfl
theorem crash2 {keep r fu to ac s : Int} {off : Bool} {q : List Int} (hs : s = q.length) (hq : q.length ≤ 400) :
    F24c keep r fu to ac off q s = some ((), (((), r, (-1), 0, ac, false, ()), ((), ()), (q, ((q.length : Nat) : Int), ()), ()), ()) := by
  subst hs
  have hm : (if (0 : Int) > (if ((((q).length : Nat) : Int) : Int) < keep then (((q).length : Nat) : Int) else keep) then 0 else (if ((((q).length : Nat) : Int) : Int) < keep then (((q).length : Nat) : Int) else keep)) = max (min keep q.length) 0 := by
    by_cases h1 : ((q.length : Nat) : Int) < keep
    · rw [if_pos h1, if_neg (by omega)]; omega
    · rw [if_neg h1]; split <;> omega
  unfold F24c
  rw [hm, w64 (n := ((q.length : Nat) : Int) + max (min keep q.length) 0) (by omega) (by omega)]
  have hn : (if (((q.length : Nat) : Int) + max (min keep q.length) 0 : Int) < (((q).length : Nat) : Int) then ((q.length : Nat) : Int) + max (min keep q.length) 0 else (((q).length : Nat) : Int)) = ((q.length : Nat) : Int) := by
    split <;> omega
  rw [hn, decide_eq_true (show 0 ≤ ((q.length : Nat) : Int) ∧ ((q.length : Nat) : Int) ≤ ((q.length : Nat) : Int) by omega), decide_eq_true (rfl : ((q.length : Nat) : Int) = ((q.length : Nat) : Int))]
  simp
theorem clone_eq {q : List Int} (hq : q.length ≤ 400) : F46 q = some ((q, ()), (), ()) := by
  unfold F46
  refine nilBr_of ?_ (fun h => ?_)
  · rw [decide_eq_true (by unfold lim; simp; omega)]; rfl
  · rw [List.eq_nil_of_length_eq_zero h]
theorem read_eq {r fu to ac s : Int} {q : List Int} (hq : q.length ≤ 400) : F25c r fu to ac false q s = some ((q, 0, ()), (((), r, fu, to, ac, false, ()), ((), ()), (q, s, ()), ()), ()) := by
  unfold F25c F43c
  simp only [Option.bind_some, Bool.not_false, Bool.not_true, cond_false, clone_eq hq]
theorem diskFalls_pure (p q : List Int) (keep again : Int) : F5 p q keep again = some ((true, ()), (), ()) := by
  unfold F5 F20
  simp only [Option.bind_some, Bool.not_true, cond_false]
  by_cases hp : ((p.length : Nat) : Int) > 200
  · rw [decide_eq_true hp]; rfl
  rw [decide_eq_false hp]
  by_cases hq : ((q.length : Nat) : Int) > 200
  · rw [decide_eq_true hq]; rfl
  rw [decide_eq_false hq]
  have hp' : p.length ≤ 200 := by omega
  have hq' : q.length ≤ 200 := by omega
  have hl : (p ++ q).length = p.length + q.length := by simp
  have hlen : ((p ++ q).take (nK keep p.length (p ++ q).length).toNat).length = (nK keep p.length (p ++ q).length).toNat := by rw [List.length_take]; unfold nK; omega
  have hlt : ((p ++ q).take (nK keep p.length (p ++ q).length).toNat).length ≤ 400 := by rw [hlen]; unfold nK; omega
  have hc : F24b keep 1000 (-1) 0 3 false (p.length : Nat) (p ++ q) = _ := crash1 (by omega) (by omega) (by omega)
  have hs : nK keep p.length (p ++ q).length = (((p ++ q).take (nK keep p.length (p ++ q).length).toNat).length : Nat) := by rw [hlen]; unfold nK; omega
  simp only [cond_false, new_eq, Option.bind_some, app1 hp', sync1, app2 hp' hq', hc, read_eq hlt, crash2 hs hlt, F26c]
  have key : ∀ n : Int, 0 ≤ n → n ≤ q.length → nK keep p.length (p ++ q).length = p.length + n → strL ((p ++ q).take (nK keep p.length (p ++ q).length).toNat) = strL p ++ strL (q.take n.toNat) := by
    intro n h0 h1 h2
    rw [h2, ← strL_app]
    congr 1
    rw [show ((p.length : Int) + n).toNat = p.length + n.toNat by omega, List.take_length_add_append]
  have fin : ∀ n : Int, 0 ≤ n → n ≤ q.length → nK keep p.length (p ++ q).length = p.length + n →
      (bif (decide (0 ≤ (n : Int) ∧ (n : Int) ≤ (((q).length : Nat) : Int))) then (bif (decide (((strL p)).size + ((strL ((q).take (n : Int).toNat))).size ≤ 9223372036854775807)) then (bif (((strL ((p ++ q).take (nK keep p.length (p ++ q).length).toNat)) : ByteArray).toList == (((strL p) ++ (strL ((q).take (n : Int).toNat))) : ByteArray).toList) then (bif ((nK keep p.length (p ++ q).length : Int) == (((((p ++ q).take (nK keep p.length (p ++ q).length).toNat)).length : Nat) : Int)) then (some (((((strL ((p ++ q).take (nK keep p.length (p ++ q).length).toNat)) : ByteArray).toList == ((strL ((p ++ q).take (nK keep p.length (p ++ q).length).toNat)) : ByteArray).toList), ()), (), ())) else (some ((false, ()), (), ()))) else (some ((false, ()), (), ()))) else none) else none) = some ((true, ()), (), ()) := by
    intro n h0 h1 h2
    rw [decide_eq_true (show 0 ≤ n ∧ n ≤ ((q.length : Nat) : Int) from ⟨h0, h1⟩), decide_eq_true (by rw [strL_size, strL_size, List.length_take]; omega), key n h0 h1 h2, beq_self_eq_true, ← hs, beq_self_eq_true]
    rfl
  by_cases h1 : keep < q.length
  · by_cases h2 : keep < 0
    · rw [decide_eq_true h1, decide_eq_true h2]
      exact fin 0 (by omega) (by omega) (by unfold nK; omega)
    · rw [decide_eq_true h1, decide_eq_false h2]
      exact fin keep (by omega) (by omega) (by unfold nK; omega)
  · rw [decide_eq_false h1, decide_eq_false (by omega)]
    exact fin (q.length : Nat) (by omega) (by omega) (by unfold nK; omega)
end Go.IM.V