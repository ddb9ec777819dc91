/- What the code of a law comes to, and what that tells: part 1. Lemmas alone; no conditions. -/
import Derived.Test.YtoaapepelbbmhaaProg
import Derived.KernelRfl
import Derived.Test.YtoaapepelbbmhaaImM5
import Derived.Test.YtoaapepelbbmhaaImM2
set_option linter.unusedVariables false
set_option linter.unusedSimpArgs false
set_option linter.constructorNameAsVariable false
namespace Go.IM.V
open Go Go.IM
variable {P : Program} {m m1 : M} {S0 : Nat → Prop} {env env1 : Env} {X Y : Cx}
def iT : Tm := { sl := [] }
def oT : Tm := { sl := [(0, .v .b)] }
def cT : Con := ⟨iT, .ret oT, fun _ => some ((true, ()), (), ())⟩
theorem orc_ok [Orc P] {k : FuncId} (h : ∀ args : Array Value, args.size = 0 → Orc.O P k args = some (.bool true)) : Con.OK P k cT := by
 intro x y hF S0 env m args hT hB hsl hnil
 have hs : args.size = 0 := hnil
 have hy : y = ((true, ()), (), ()) := by have : some ((true, ()), (), ()) = some y := hF; cases this; rfl
 subst hy
 refine ⟨.ret (.bool true), m, env, ⟨0, fun n _ => ?_⟩, ⟨Fr2.refl hT.free, hT, fun j hj => absurd hj (Nat.not_lt_zero _), fun i w => .inl w, fun i w => .inl w, fun j hj => absurd hj (Nat.not_lt_zero _), fun j L hj => absurd hj (Nat.not_lt_zero _), fun i w => w⟩, ⟨.bool true, rfl, ofV_rep (.bool true)⟩⟩
 unfold callF
 rw [h args hs]
theorem noL [Orc P] {N : Nat} {c : Code} {LO : Tab} (h : loopsOf c = []) : ∀ b ∈ loopsOf c, ∀ con, lookC LO (headReg b) = some con → con.LOK P N b := loops_of (l := []) h trivial
end Go.IM.V
namespace Go.IM.V
open Go Go.IM Go.Proofs
set_option maxRecDepth 100000 in
theorem run7 : isT (run0 Try.prog 400 7 #[]) = true := by kernel_rfl
instance orc7 : Orc Try.prog := Orc.one Try.prog 7 400 run7
noncomputable def F7 : Option (OT.ret oT).E := some ((true, ()), (), ())
noncomputable def c7 : Con := ⟨iT, .ret oT, fun _ => F7⟩
theorem c7_ok : Con.OK Try.prog 7 c7 := orc_ok (fun _ h => if_pos ⟨rfl, h⟩)
end Go.IM.V
namespace Go.IM.V
open Go Go.IM
variable {P : Program}
theorem Con.LOK.fuel [Orc P] {N : Nat} {b : Code} {ins : Tm} {out : OT} {T : ins.E → Option (ins.E ⊕ out.E)} (h : Con.LOK P N b ⟨ins, out, loopF T⟩) {G : ins.E → Option (ins.E ⊕ out.E)} (n : Nat) (hG : T = G) : Con.LOK P N b ⟨ins, out, fun x => iter G n x⟩ := by
 subst hG
 exact fun x y hy => h x y (loopF_of hy)
end Go.IM.V
namespace Go.IM.V
open Go Go.IM Go.Proofs
abbrev DEv : Type := (Int × (Int × (Int × (Int × (ByteArray × ((List Int) × (Nat × (Int × Unit))))))))
abbrev tDEv : Ty := (.p (.i .i64) (.p (.i .u64) (.p (.i .u64) (.p (.i .u8) (.p .s (.p (.l (.i .u8)) (.p (.f .f64) (.p (.i .i64) .u))))))))
noncomputable def b71 : Code := (.seq (.region 0 (regOf Try.f71 0) false) (.seq (.region 1 (regOf Try.f71 1) false) .ret))
theorem body71 : Try.f71.body = some b71 := by kernel_rfl
noncomputable def C71 : Tab := []
theorem C71_ok : TabOK Try.prog C71 := trivial
noncomputable def LO71 : Tab := []
noncomputable def i71 : Tm := { sl := [(0, .v (.i .u64))], bx := [], bf := [] }
noncomputable def o71 : OT := (.ret { sl := [(0, .v .b)], bx := [], bf := [] })
noncomputable def F71 (a0 : Int) : Option ((Bool × Unit) × Unit × Unit) :=
 (some ((((a0 : Int) != a0), ()), (), ()))
noncomputable def c71 : Con := ⟨i71, o71, fun x => F71 x.1.1⟩
theorem e71 (x : i71.E) : vfn Try.prog C71 LO71 Try.f71 b71 i71 o71 x = c71.F x := by kernel_rfl
theorem c71_ok : Con.OK Try.prog 71 c71 := (fn_ok C71_ok (fun _ => rfl) Try.func71 body71 (noL (by kernel_rfl)) i71 o71).congr fun x => (e71 x).symm
noncomputable def b72 : Code := (.seq (.region 0 (regOf Try.f72 0) false) (.seq (.region 1 (regOf Try.f72 1) false) .ret))
theorem body72 : Try.f72.body = some b72 := by kernel_rfl
noncomputable def C72 : Tab := []
theorem C72_ok : TabOK Try.prog C72 := trivial
noncomputable def LO72 : Tab := []
noncomputable def i72 : Tm := { sl := [(0, .v (.i .i64))], bx := [], bf := [] }
noncomputable def o72 : OT := (.ret { sl := [(0, .v .b)], bx := [], bf := [] })
noncomputable def F72 (a0 : Int) : Option ((Bool × Unit) × Unit × Unit) :=
 (some ((((a0 : Int) != a0), ()), (), ()))
noncomputable def c72 : Con := ⟨i72, o72, fun x => F72 x.1.1⟩
theorem e72 (x : i72.E) : vfn Try.prog C72 LO72 Try.f72 b72 i72 o72 x = c72.F x := by kernel_rfl
theorem c72_ok : Con.OK Try.prog 72 c72 := (fn_ok C72_ok (fun _ => rfl) Try.func72 body72 (noL (by kernel_rfl)) i72 o72).congr fun x => (e72 x).symm
noncomputable def b52 : Code := (.seq (.region 0 (regOf Try.f52 0) false) (.seq (.region 1 (regOf Try.f52 1) false) (.seq (.region 2 (regOf Try.f52 2) false) (.seq (.seq (.region 3 (regOf Try.f52 3) false) (.cond (.tmp 11) (.seq (.seq (.region 4 (regOf Try.f52 4) false) (.cond (.tmp 12) (.seq (.region 5 (regOf Try.f52 5) false) .ret) .skip)) (.seq (.region 6 (regOf Try.f52 6) false) .ret)) .skip)) (.seq (.seq (.region 7 (regOf Try.f52 7) false) (.cond (.tmp 13) (.seq (.region 8 (regOf Try.f52 8) false) .ret) .skip)) (.seq (.seq (.region 9 (regOf Try.f52 9) false) (.cond (.tmp 16) (.seq (.region 10 (regOf Try.f52 10) false) .ret) .skip)) (.seq (.seq (.region 11 (regOf Try.f52 11) false) (.cond (.tmp 19) (.seq (.region 12 (regOf Try.f52 12) false) .ret) .skip)) (.seq (.region 13 (regOf Try.f52 13) false) .ret))))))))
theorem body52 : Try.f52.body = some b52 := by kernel_rfl
noncomputable def C52 : Tab := [(71, c71)]
theorem C52_ok : TabOK Try.prog C52 := ⟨c71_ok, trivial⟩
noncomputable def LO52 : Tab := []
noncomputable def i52 : Tm := { sl := [(0, .v (.i .u64)), (1, .v (.i .u64))], bx := [], bf := [] }
noncomputable def o52 : OT := (.ret { sl := [(0, .v (.i .i64))], bx := [], bf := [] })
noncomputable def F52 (a0 : Int) (a1 : Int) : Option ((Int × Unit) × Unit × Unit) :=
 ((F71 a0).bind fun y0 => ((F71 a1).bind fun y1 => (bif y0.1.1 then (bif y1.1.1 then (some ((0, ()), (), ())) else (some (((-1), ()), (), ()))) else (bif y1.1.1 then (some ((1, ()), (), ())) else (bif (decide ((a0 : Int) < a1)) then (some (((-1), ()), (), ())) else (bif (decide ((a0 : Int) > a1)) then (some ((1, ()), (), ())) else (some ((0, ()), (), ()))))))))
noncomputable def c52 : Con := ⟨i52, o52, fun x => F52 x.1.1 x.1.2.1⟩
theorem e52 (x : i52.E) : vfn Try.prog C52 LO52 Try.f52 b52 i52 o52 x = c52.F x := by kernel_rfl
theorem c52_ok : Con.OK Try.prog 52 c52 := (fn_ok C52_ok (fun _ => rfl) Try.func52 body52 (noL (by kernel_rfl)) i52 o52).congr fun x => (e52 x).symm
noncomputable def b53 : Code := (.seq (.region 0 (regOf Try.f53 0) false) (.seq (.region 1 (regOf Try.f53 1) false) (.seq (.region 2 (regOf Try.f53 2) false) (.seq (.seq (.region 3 (regOf Try.f53 3) false) (.cond (.tmp 11) (.seq (.seq (.region 4 (regOf Try.f53 4) false) (.cond (.tmp 12) (.seq (.region 5 (regOf Try.f53 5) false) .ret) .skip)) (.seq (.region 6 (regOf Try.f53 6) false) .ret)) .skip)) (.seq (.seq (.region 7 (regOf Try.f53 7) false) (.cond (.tmp 13) (.seq (.region 8 (regOf Try.f53 8) false) .ret) .skip)) (.seq (.seq (.region 9 (regOf Try.f53 9) false) (.cond (.tmp 16) (.seq (.region 10 (regOf Try.f53 10) false) .ret) .skip)) (.seq (.seq (.region 11 (regOf Try.f53 11) false) (.cond (.tmp 19) (.seq (.region 12 (regOf Try.f53 12) false) .ret) .skip)) (.seq (.region 13 (regOf Try.f53 13) false) .ret))))))))
theorem body53 : Try.f53.body = some b53 := by kernel_rfl
noncomputable def C53 : Tab := [(72, c72)]
theorem C53_ok : TabOK Try.prog C53 := ⟨c72_ok, trivial⟩
noncomputable def LO53 : Tab := []
noncomputable def i53 : Tm := { sl := [(0, .v (.i .i64)), (1, .v (.i .i64))], bx := [], bf := [] }
noncomputable def o53 : OT := (.ret { sl := [(0, .v (.i .i64))], bx := [], bf := [] })
noncomputable def F53 (a0 : Int) (a1 : Int) : Option ((Int × Unit) × Unit × Unit) :=
 ((F72 a0).bind fun y0 => ((F72 a1).bind fun y1 => (bif y0.1.1 then (bif y1.1.1 then (some ((0, ()), (), ())) else (some (((-1), ()), (), ()))) else (bif y1.1.1 then (some ((1, ()), (), ())) else (bif (decide ((a0 : Int) < a1)) then (some (((-1), ()), (), ())) else (bif (decide ((a0 : Int) > a1)) then (some ((1, ()), (), ())) else (some ((0, ()), (), ()))))))))
noncomputable def c53 : Con := ⟨i53, o53, fun x => F53 x.1.1 x.1.2.1⟩
theorem e53 (x : i53.E) : vfn Try.prog C53 LO53 Try.f53 b53 i53 o53 x = c53.F x := by kernel_rfl
theorem c53_ok : Con.OK Try.prog 53 c53 := (fn_ok C53_ok (fun _ => rfl) Try.func53 body53 (noL (by kernel_rfl)) i53 o53).congr fun x => (e53 x).symm
noncomputable def l51_3 : Code := (.seq (.region 3 (regOf Try.f51 3) false) (.seq (.cond (.tmp 9) .skip (.exit 0)) (.seq (.block 1 (.seq (.region 4 (regOf Try.f51 4) false) (.seq (.region 5 (regOf Try.f51 5) false) (.cond (.tmp 14) (.seq (.region 6 (regOf Try.f51 6) false) .ret) .skip)))) (.region 7 (regOf Try.f51 7) false))))
noncomputable def b51 : Code := (.seq (.region 0 (regOf Try.f51 0) false) (.seq (.region 1 (regOf Try.f51 1) false) (.seq (.seq (.region 2 (regOf Try.f51 2) false) (.block 0 (.loop l51_3))) (.seq (.region 8 (regOf Try.f51 8) false) .ret))))
theorem body51 : Try.f51.body = some b51 := by kernel_rfl
noncomputable def C51_3 : Tab := []
theorem C51_3_ok : TabOK Try.prog C51_3 := trivial
noncomputable def LO51_3 : Tab := []
noncomputable def i51_3 : Tm := { sl := [(3, .v (.i .i64)), (6, .v (.l (.i .i64))), (7, .v (.i .i64)), (8, .v (.i .i64))], bx := [], bf := [] }
noncomputable def o51_3 : OT := (.two (.ret { sl := [(2, .v (.i .i64))], bx := [], bf := [] }) (.exit 0 { sl := [], bx := [], bf := [] }))
noncomputable def T51_3 (a3 : Int) (a6 : (List Int)) (a7 : Int) (a8 : Int) : Option (((Int × ((List Int) × (Int × (Int × Unit)))) × Unit × Unit) ⊕ (((Int × Unit) × Unit × Unit) ⊕ (Unit × Unit × Unit))) :=
 (bif (decide ((a8 : Int) < a7)) then (bif (decide (0 ≤ (a8 : Int) ∧ (a8 : Int) < (((a6).length : Nat) : Int))) then (bif ((((a6).getD (a8 : Int).toNat (0 : Int)) : Int) != a3) then (some (.inr (.inl ((((a6).getD (a8 : Int).toNat (0 : Int)), ()), (), ())))) else (some (.inl ((a3, a6, a7, (IntKind.wrap .i64 (a8 + 1)), ()), (), ())))) else none) else (some (.inr (.inr ((), (), ())))))
noncomputable def L51_3 (a3 : Int) (a6 : (List Int)) (a7 : Int) (a8 : Int) : Option (((Int × Unit) × Unit × Unit) ⊕ (Unit × Unit × Unit)) := iter (fun x : ((Int × ((List Int) × (Int × (Int × Unit)))) × Unit × Unit) => T51_3 x.1.1 x.1.2.1 x.1.2.2.1 x.1.2.2.2.1) 300 ((a3, a6, a7, a8, ()), (), ())
noncomputable def k51_3 : Con := ⟨i51_3, o51_3, fun x => L51_3 x.1.1 x.1.2.1 x.1.2.2.1 x.1.2.2.2.1⟩
theorem e51_3 (x : i51_3.E) : vround Try.prog C51_3 LO51_3 Try.f51.ntmps l51_3 i51_3 o51_3 x = T51_3 x.1.1 x.1.2.1 x.1.2.2.1 x.1.2.2.2.1 := by kernel_rfl
theorem k51_3_ok : Con.LOK Try.prog Try.f51.ntmps l51_3 k51_3 := Con.LOK.fuel (loop_ok C51_3_ok (noL (by kernel_rfl)) i51_3 o51_3) 300 (funext e51_3)
noncomputable def C51 : Tab := []
theorem C51_ok : TabOK Try.prog C51 := trivial
noncomputable def LO51 : Tab := [(3, k51_3)]
noncomputable def i51 : Tm := { sl := [(0, .v (.l (.i .i64)))], bx := [], bf := [] }
noncomputable def o51 : OT := (.ret { sl := [(0, .v (.i .i64))], bx := [], bf := [] })
noncomputable def F51 (a0 : (List Int)) : Option ((Int × Unit) × Unit × Unit) :=
 ((L51_3 0 a0 (((a0).length : Nat) : Int) 0).bind fun y0 => (Sum.elim (fun y1 => (some ((y1.1.1, ()), (), ()))) (fun y1 => (some ((0, ()), (), ()))) y0))
noncomputable def c51 : Con := ⟨i51, o51, fun x => F51 x.1.1⟩
theorem e51 (x : i51.E) : vfn Try.prog C51 LO51 Try.f51 b51 i51 o51 x = c51.F x := by kernel_rfl
theorem c51_ok : Con.OK Try.prog 51 c51 := (fn_ok C51_ok (fun _ => rfl) Try.func51 body51 (loops_of (l := [l51_3]) (by kernel_rfl) (show LoopsOK Try.prog Try.f51.ntmps [l51_3] LO51 from ⟨k51_3_ok, trivial⟩)) i51 o51).congr fun x => (e51 x).symm
noncomputable def b35 : Code := (.seq (.region 0 (regOf Try.f35 0) false) (.seq (.region 1 (regOf Try.f35 1) false) .ret))
theorem body35 : Try.f35.body = some b35 := by kernel_rfl
noncomputable def C35 : Tab := []
theorem C35_ok : TabOK Try.prog C35 := trivial
noncomputable def LO35 : Tab := []
noncomputable def i35 : Tm := { sl := [(0, .v tDEv)], bx := [], bf := [] }
noncomputable def o35 : OT := (.ret { sl := [(0, .v (.p (.i .u64) (.p (.i .i64) .u)))], bx := [], bf := [] })
noncomputable def F35 (a0 : DEv) : Option (((Int × (Int × Unit)) × Unit) × Unit × Unit) :=
 (some (((a0.2.2.1, (a0.1, ())), ()), (), ()))
noncomputable def c35 : Con := ⟨i35, o35, fun x => F35 x.1.1⟩
theorem e35 (x : i35.E) : vfn Try.prog C35 LO35 Try.f35 b35 i35 o35 x = c35.F x := by kernel_rfl
theorem c35_ok : Con.OK Try.prog 35 c35 := (fn_ok C35_ok (fun _ => rfl) Try.func35 body35 (noL (by kernel_rfl)) i35 o35).congr fun x => (e35 x).symm
noncomputable def b34 : Code := (.seq (.region 0 (regOf Try.f34 0) false) (.seq (.region 1 (regOf Try.f34 1) true) .ret))
theorem body34 : Try.f34.body = some b34 := by kernel_rfl
noncomputable def C34 : Tab := [(51, c51), (52, c52), (53, c53)]
theorem C34_ok : TabOK Try.prog C34 := ⟨c51_ok, c52_ok, c53_ok, trivial⟩
noncomputable def LO34 : Tab := []
noncomputable def i34 : Tm := { sl := [(0, .v (.p (.i .u64) (.p (.i .i64) .u))), (1, .v (.p (.i .u64) (.p (.i .i64) .u)))], bx := [], bf := [] }
noncomputable def o34 : OT := (.ret { sl := [(0, .v (.i .i64))], bx := [], bf := [] })
noncomputable def F34 (a0 : (Int × (Int × Unit))) (a1 : (Int × (Int × Unit))) : Option ((Int × Unit) × Unit × Unit) :=
 ((F52 a0.1 a1.1).bind fun y0 => ((F53 a0.2.1 a1.2.1).bind fun y1 => ((F51 [y0.1.1, y1.1.1]).bind fun y2 => (some ((y2.1.1, ()), (), ())))))
noncomputable def c34 : Con := ⟨i34, o34, fun x => F34 x.1.1 x.1.2.1⟩
theorem e34 (x : i34.E) : vfn Try.prog C34 LO34 Try.f34 b34 i34 o34 x = c34.F x := by kernel_rfl
theorem c34_ok : Con.OK Try.prog 34 c34 := (fn_ok C34_ok (fun _ => rfl) Try.func34 body34 (noL (by kernel_rfl)) i34 o34).congr fun x => (e34 x).symm
noncomputable def b36 : Code := (.seq (.region 0 (regOf Try.f36 0) false) (.seq (.region 1 (regOf Try.f36 1) false) .ret))
theorem body36 : Try.f36.body = some b36 := by kernel_rfl
noncomputable def C36 : Tab := []
theorem C36_ok : TabOK Try.prog C36 := trivial
noncomputable def LO36 : Tab := []
noncomputable def i36 : Tm := { sl := [(0, .v (.i .i64))], bx := [], bf := [] }
noncomputable def o36 : OT := (.ret { sl := [(0, .v .b)], bx := [], bf := [] })
noncomputable def F36 (a0 : Int) : Option ((Bool × Unit) × Unit × Unit) :=
 (bif (decide ((a0 : Int) ≥ 0)) then (some (((decide ((a0 : Int) < 64)), ()), (), ())) else (some ((false, ()), (), ())))
noncomputable def c36 : Con := ⟨i36, o36, fun x => F36 x.1.1⟩
theorem e36 (x : i36.E) : vfn Try.prog C36 LO36 Try.f36 b36 i36 o36 x = c36.F x := by kernel_rfl
theorem c36_ok : Con.OK Try.prog 36 c36 := (fn_ok C36_ok (fun _ => rfl) Try.func36 body36 (noL (by kernel_rfl)) i36 o36).congr fun x => (e36 x).symm
noncomputable def b12 : Code := (.seq (.region 0 (regOf Try.f12 0) false) (.seq (.region 1 (regOf Try.f12 1) false) (.seq (.block 0 (.seq (.region 2 (regOf Try.f12 2) false) (.cond (.tmp 12) (.seq (.region 3 (regOf Try.f12 3) false) .ret) (.seq (.region 4 (regOf Try.f12 4) false) (.cond (.tmp 48) (.seq (.region 5 (regOf Try.f12 5) false) .ret) (.seq (.region 6 (regOf Try.f12 6) false) (.cond (.tmp 73) (.seq (.region 7 (regOf Try.f12 7) false) .ret) .skip))))))) (.seq (.region 8 (regOf Try.f12 8) false) .ret))))
theorem body12 : Try.f12.body = some b12 := by kernel_rfl
noncomputable def C12 : Tab := [(36, c36)]
theorem C12_ok : TabOK Try.prog C12 := ⟨c36_ok, trivial⟩
noncomputable def LO12 : Tab := []
noncomputable def i12 : Tm := { sl := [(0, .v tDEv)], bx := [], bf := [] }
noncomputable def o12 : OT := (.ret { sl := [(0, .v (.i .i64))], bx := [], bf := [] })
noncomputable def F12 (a0 : DEv) : Option ((Int × Unit) × Unit × Unit) :=
 (bif (decide ((a0.2.2.2.1 : Int) ≥ 1)) then ((F36 a0.1).bind fun y0 => (bif (!y0.1.1) then (some ((1, ()), (), ())) else (bif ((a0.2.1 : Int) == 0) then (some ((1, ()), (), ())) else (bif ((a0.2.2.1 : Int) == 0) then (some ((1, ()), (), ())) else (bif (decide ((a0.2.2.2.1 : Int) < 1)) then (some ((1, ()), (), ())) else (bif (decide ((a0.2.2.2.1 : Int) > 6)) then (some ((1, ()), (), ())) else (bif ((a0.2.2.2.1 : Int) == 5) then ((F36 a0.2.2.2.2.2.2.2.1).bind fun y1 => (bif (!y1.1.1) then (some ((1, ()), (), ())) else (bif (decide ((a0.2.2.2.1 : Int) ≤ 4)) then (bif ((((a0.2.2.2.2.1.size : Nat) : Int) : Int) == 0) then (some ((6, ()), (), ())) else (bif (decide ((((a0.2.2.2.2.1.size : Nat) : Int) : Int) > 64)) then (some ((6, ()), (), ())) else (bif ((a0.2.2.2.1 : Int) == 1) then (bif (decide (((((a0.2.2.2.2.2.1).length : Nat) : Int) : Int) > 1048576)) then (some ((6, ()), (), ())) else (bif (decide ((a0.2.1 : Int) > 9223372036854775807)) then (some ((8, ()), (), ())) else (bif (decide ((a0.2.2.1 : Int) > 9223372036854775807)) then (some ((8, ()), (), ())) else (some ((0, ()), (), ()))))) else (bif (decide ((a0.2.1 : Int) > 9223372036854775807)) then (some ((8, ()), (), ())) else (bif (decide ((a0.2.2.1 : Int) > 9223372036854775807)) then (some ((8, ()), (), ())) else (some ((0, ()), (), ()))))))) else (bif ((a0.2.2.2.1 : Int) == 1) then (bif (decide (((((a0.2.2.2.2.2.1).length : Nat) : Int) : Int) > 1048576)) then (some ((6, ()), (), ())) else (bif (decide ((a0.2.1 : Int) > 9223372036854775807)) then (some ((8, ()), (), ())) else (bif (decide ((a0.2.2.1 : Int) > 9223372036854775807)) then (some ((8, ()), (), ())) else (some ((0, ()), (), ()))))) else (bif (decide ((a0.2.1 : Int) > 9223372036854775807)) then (some ((8, ()), (), ())) else (bif (decide ((a0.2.2.1 : Int) > 9223372036854775807)) then (some ((8, ()), (), ())) else (some ((0, ()), (), ())))))))) else (bif (decide ((a0.2.2.2.1 : Int) ≤ 4)) then (bif ((((a0.2.2.2.2.1.size : Nat) : Int) : Int) == 0) then (some ((6, ()), (), ())) else (bif (decide ((((a0.2.2.2.2.1.size : Nat) : Int) : Int) > 64)) then (some ((6, ()), (), ())) else (bif ((a0.2.2.2.1 : Int) == 1) then (bif (decide (((((a0.2.2.2.2.2.1).length : Nat) : Int) : Int) > 1048576)) then (some ((6, ()), (), ())) else (bif (decide ((a0.2.1 : Int) > 9223372036854775807)) then (some ((8, ()), (), ())) else (bif (decide ((a0.2.2.1 : Int) > 9223372036854775807)) then (some ((8, ()), (), ())) else (some ((0, ()), (), ()))))) else (bif (decide ((a0.2.1 : Int) > 9223372036854775807)) then (some ((8, ()), (), ())) else (bif (decide ((a0.2.2.1 : Int) > 9223372036854775807)) then (some ((8, ()), (), ())) else (some ((0, ()), (), ()))))))) else (bif ((a0.2.2.2.1 : Int) == 1) then (bif (decide (((((a0.2.2.2.2.2.1).length : Nat) : Int) : Int) > 1048576)) then (some ((6, ()), (), ())) else (bif (decide ((a0.2.1 : Int) > 9223372036854775807)) then (some ((8, ()), (), ())) else (bif (decide ((a0.2.2.1 : Int) > 9223372036854775807)) then (some ((8, ()), (), ())) else (some ((0, ()), (), ()))))) else (bif (decide ((a0.2.1 : Int) > 9223372036854775807)) then (some ((8, ()), (), ())) else (bif (decide ((a0.2.2.1 : Int) > 9223372036854775807)) then (some ((8, ()), (), ())) else (some ((0, ()), (), ()))))))))))))) else ((F36 a0.1).bind fun y2 => (bif (!y2.1.1) then (some ((1, ()), (), ())) else (bif ((a0.2.1 : Int) == 0) then (some ((1, ()), (), ())) else (bif ((a0.2.2.1 : Int) == 0) then (some ((1, ()), (), ())) else (bif (decide ((a0.2.2.2.1 : Int) < 1)) then (some ((1, ()), (), ())) else (bif (decide ((a0.2.2.2.1 : Int) > 6)) then (some ((1, ()), (), ())) else (bif ((a0.2.2.2.1 : Int) == 5) then ((F36 a0.2.2.2.2.2.2.2.1).bind fun y3 => (bif (!y3.1.1) then (some ((1, ()), (), ())) else (bif ((a0.2.2.2.1 : Int) == 1) then (bif (decide (((((a0.2.2.2.2.2.1).length : Nat) : Int) : Int) > 1048576)) then (some ((6, ()), (), ())) else (bif (decide ((a0.2.1 : Int) > 9223372036854775807)) then (some ((8, ()), (), ())) else (bif (decide ((a0.2.2.1 : Int) > 9223372036854775807)) then (some ((8, ()), (), ())) else (some ((0, ()), (), ()))))) else (bif (decide ((a0.2.1 : Int) > 9223372036854775807)) then (some ((8, ()), (), ())) else (bif (decide ((a0.2.2.1 : Int) > 9223372036854775807)) then (some ((8, ()), (), ())) else (some ((0, ()), (), ()))))))) else (bif ((a0.2.2.2.1 : Int) == 1) then (bif (decide (((((a0.2.2.2.2.2.1).length : Nat) : Int) : Int) > 1048576)) then (some ((6, ()), (), ())) else (bif (decide ((a0.2.1 : Int) > 9223372036854775807)) then (some ((8, ()), (), ())) else (bif (decide ((a0.2.2.1 : Int) > 9223372036854775807)) then (some ((8, ()), (), ())) else (some ((0, ()), (), ()))))) else (bif (decide ((a0.2.1 : Int) > 9223372036854775807)) then (some ((8, ()), (), ())) else (bif (decide ((a0.2.2.1 : Int) > 9223372036854775807)) then (some ((8, ()), (), ())) else (some ((0, ()), (), ())))))))))))))
noncomputable def c12 : Con := ⟨i12, o12, fun x => F12 x.1.1⟩
theorem e12 (x : i12.E) : vfn Try.prog C12 LO12 Try.f12 b12 i12 o12 x = c12.F x := by kernel_rfl
theorem c12_ok : Con.OK Try.prog 12 c12 := (fn_ok C12_ok (fun _ => rfl) Try.func12 body12 (noL (by kernel_rfl)) i12 o12).congr fun x => (e12 x).symm
noncomputable def b31 : Code := (.seq (.region 0 (regOf Try.f31 0) false) (.seq (.seq (.region 1 (regOf Try.f31 1) false) (.cond (.tmp 12) (.seq (.region 2 (regOf Try.f31 2) false) .ret) .skip)) (.seq (.region 3 (regOf Try.f31 3) false) .ret)))
theorem body31 : Try.f31.body = some b31 := by kernel_rfl
noncomputable def C31 : Tab := []
theorem C31_ok : TabOK Try.prog C31 := trivial
noncomputable def LO31 : Tab := []
noncomputable def i31 : Tm := { sl := [(0, .v (.l (.i .u64))), (1, .v (.i .i64))], bx := [], bf := [] }
noncomputable def o31 : OT := (.ret { sl := [(0, .v (.i .u64))], bx := [], bf := [] })
noncomputable def F31 (a0 : (List Int)) (a1 : Int) : Option ((Int × Unit) × Unit × Unit) :=
 (bif (decide ((a1 : Int) < 0)) then (some ((0, ()), (), ())) else (bif (decide ((a1 : Int) ≥ (((a0).length : Nat) : Int))) then (some ((0, ()), (), ())) else (bif (decide (0 ≤ (a1 : Int) ∧ (a1 : Int) < (((a0).length : Nat) : Int))) then (some ((((a0).getD (a1 : Int).toNat (0 : Int)), ()), (), ())) else none)))
noncomputable def c31 : Con := ⟨i31, o31, fun x => F31 x.1.1 x.1.2.1⟩
theorem e31 (x : i31.E) : vfn Try.prog C31 LO31 Try.f31 b31 i31 o31 x = c31.F x := by kernel_rfl
theorem c31_ok : Con.OK Try.prog 31 c31 := (fn_ok C31_ok (fun _ => rfl) Try.func31 body31 (noL (by kernel_rfl)) i31 o31).congr fun x => (e31 x).symm
noncomputable def l28_2 : Code := (.seq (.region 2 (regOf Try.f28 2) false) (.seq (.cond (.tmp 10) .skip (.exit 0)) (.seq (.block 1 (.seq (.region 3 (regOf Try.f28 3) false) (.seq (.region 4 (regOf Try.f28 4) false) (.cond (.tmp 18) (.seq (.region 5 (regOf Try.f28 5) false) .ret) .skip)))) (.region 6 (regOf Try.f28 6) false))))
noncomputable def b28 : Code := (.seq (.region 0 (regOf Try.f28 0) false) (.seq (.seq (.region 1 (regOf Try.f28 1) false) (.block 0 (.loop l28_2))) (.seq (.region 7 (regOf Try.f28 7) false) .ret)))
theorem body28 : Try.f28.body = some b28 := by kernel_rfl
noncomputable def C28_2 : Tab := [(31, c31)]
theorem C28_2_ok : TabOK Try.prog C28_2 := ⟨c31_ok, trivial⟩
noncomputable def LO28_2 : Tab := []
noncomputable def i28_2 : Tm := { sl := [(1, .v (.l (.i .u64))), (7, .v (.l (.i .u64))), (8, .v (.i .i64)), (9, .v (.i .i64))], bx := [], bf := [] }
noncomputable def o28_2 : OT := (.two (.ret { sl := [(4, .v .b)], bx := [], bf := [] }) (.exit 0 { sl := [], bx := [], bf := [] }))
noncomputable def T28_2 (a1 : (List Int)) (a7 : (List Int)) (a8 : Int) (a9 : Int) : Option ((((List Int) × ((List Int) × (Int × (Int × Unit)))) × Unit × Unit) ⊕ (((Bool × Unit) × Unit × Unit) ⊕ (Unit × Unit × Unit))) :=
 (bif (decide ((a9 : Int) < a8)) then (bif (decide (0 ≤ (a9 : Int) ∧ (a9 : Int) < (((a7).length : Nat) : Int))) then ((F31 a1 a9).bind fun y0 => (bif (decide ((((a7).getD (a9 : Int).toNat (0 : Int)) : Int) > y0.1.1)) then (some (.inr (.inl ((false, ()), (), ())))) else (some (.inl ((a1, a7, a8, (IntKind.wrap .i64 (a9 + 1)), ()), (), ()))))) else none) else (some (.inr (.inr ((), (), ())))))
noncomputable def L28_2 (a1 : (List Int)) (a7 : (List Int)) (a8 : Int) (a9 : Int) : Option (((Bool × Unit) × Unit × Unit) ⊕ (Unit × Unit × Unit)) := iter (fun x : (((List Int) × ((List Int) × (Int × (Int × Unit)))) × Unit × Unit) => T28_2 x.1.1 x.1.2.1 x.1.2.2.1 x.1.2.2.2.1) 300 ((a1, a7, a8, a9, ()), (), ())
noncomputable def k28_2 : Con := ⟨i28_2, o28_2, fun x => L28_2 x.1.1 x.1.2.1 x.1.2.2.1 x.1.2.2.2.1⟩
theorem e28_2 (x : i28_2.E) : vround Try.prog C28_2 LO28_2 Try.f28.ntmps l28_2 i28_2 o28_2 x = T28_2 x.1.1 x.1.2.1 x.1.2.2.1 x.1.2.2.2.1 := by kernel_rfl
theorem k28_2_ok : Con.LOK Try.prog Try.f28.ntmps l28_2 k28_2 := Con.LOK.fuel (loop_ok C28_2_ok (noL (by kernel_rfl)) i28_2 o28_2) 300 (funext e28_2)
noncomputable def C28 : Tab := [(31, c31)]
theorem C28_ok : TabOK Try.prog C28 := ⟨c31_ok, trivial⟩
noncomputable def LO28 : Tab := [(2, k28_2)]
noncomputable def i28 : Tm := { sl := [(0, .v (.l (.i .u64))), (1, .v (.l (.i .u64)))], bx := [], bf := [] }
noncomputable def o28 : OT := (.ret { sl := [(0, .v .b)], bx := [], bf := [] })
noncomputable def F28 (a0 : (List Int)) (a1 : (List Int)) : Option ((Bool × Unit) × Unit × Unit) :=
 ((L28_2 a1 a0 (((a0).length : Nat) : Int) 0).bind fun y0 => (Sum.elim (fun y1 => (some ((y1.1.1, ()), (), ()))) (fun y1 => (some ((true, ()), (), ()))) y0))
noncomputable def c28 : Con := ⟨i28, o28, fun x => F28 x.1.1 x.1.2.1⟩
theorem e28 (x : i28.E) : vfn Try.prog C28 LO28 Try.f28 b28 i28 o28 x = c28.F x := by kernel_rfl
theorem c28_ok : Con.OK Try.prog 28 c28 := (fn_ok C28_ok (fun _ => rfl) Try.func28 body28 (loops_of (l := [l28_2]) (by kernel_rfl) (show LoopsOK Try.prog Try.f28.ntmps [l28_2] LO28 from ⟨k28_2_ok, trivial⟩)) i28 o28).congr fun x => (e28 x).symm
noncomputable def b39 : Code := (.seq (.region 0 (regOf Try.f39 0) false) (.seq (.seq (.region 1 (regOf Try.f39 1) false) (.cond (.tmp 12) (.seq (.region 2 (regOf Try.f39 2) false) .ret) .skip)) (.seq (.region 3 (regOf Try.f39 3) false) .ret)))
theorem body39 : Try.f39.body = some b39 := by kernel_rfl
noncomputable def C39 : Tab := []
theorem C39_ok : TabOK Try.prog C39 := trivial
noncomputable def LO39 : Tab := []
noncomputable def i39 : Tm := { sl := [(0, .v (.l (.i .u64))), (1, .v (.i .i64))], bx := [], bf := [] }
noncomputable def o39 : OT := (.ret { sl := [(0, .v (.i .u64))], bx := [], bf := [] })
noncomputable def F39 (a0 : (List Int)) (a1 : Int) : Option ((Int × Unit) × Unit × Unit) :=
 (bif (decide ((a1 : Int) < 0)) then (some ((0, ()), (), ())) else (bif (decide ((a1 : Int) ≥ (((a0).length : Nat) : Int))) then (some ((0, ()), (), ())) else (bif (decide (0 ≤ (a1 : Int) ∧ (a1 : Int) < (((a0).length : Nat) : Int))) then (some ((((a0).getD (a1 : Int).toNat (0 : Int)), ()), (), ())) else none)))
noncomputable def c39 : Con := ⟨i39, o39, fun x => F39 x.1.1 x.1.2.1⟩
theorem e39 (x : i39.E) : vfn Try.prog C39 LO39 Try.f39 b39 i39 o39 x = c39.F x := by kernel_rfl
theorem c39_ok : Con.OK Try.prog 39 c39 := (fn_ok C39_ok (fun _ => rfl) Try.func39 body39 (noL (by kernel_rfl)) i39 o39).congr fun x => (e39 x).symm
noncomputable def l15_2 : Code := (.seq (.seq (.region 2 (regOf Try.f15 2) false) (.cond (.tmp 15) .skip (.exit 0))) (.seq (.block 1 (.seq (.region 4 (regOf Try.f15 4) false) (.cond (.tmp 24) (.seq (.region 5 (regOf Try.f15 5) false) .ret) .skip))) (.region 3 (regOf Try.f15 3) false)))
noncomputable def b15 : Code := (.seq (.region 0 (regOf Try.f15 0) false) (.seq (.seq (.region 1 (regOf Try.f15 1) false) (.block 0 (.loop l15_2))) (.seq (.region 6 (regOf Try.f15 6) false) .ret)))
theorem body15 : Try.f15.body = some b15 := by kernel_rfl
noncomputable def C15_2 : Tab := [(39, c39)]
theorem C15_2_ok : TabOK Try.prog C15_2 := ⟨c39_ok, trivial⟩
noncomputable def LO15_2 : Tab := []
noncomputable def i15_2 : Tm := { sl := [(0, .v (.l (.i .u64))), (1, .v (.l (.i .u64))), (5, .v (.i .i64))], bx := [], bf := [] }
noncomputable def o15_2 : OT := (.two (.ret { sl := [(4, .v .b)], bx := [], bf := [] }) (.exit 0 { sl := [], bx := [], bf := [] }))
noncomputable def T15_2 (a0 : (List Int)) (a1 : (List Int)) (a5 : Int) : Option ((((List Int) × ((List Int) × (Int × Unit))) × Unit × Unit) ⊕ (((Bool × Unit) × Unit × Unit) ⊕ (Unit × Unit × Unit))) :=
 (bif (decide ((a5 : Int) < (((a0).length : Nat) : Int))) then ((F39 a0 a5).bind fun y0 => ((F39 a1 a5).bind fun y1 => (bif ((y0.1.1 : Int) != y1.1.1) then (some (.inr (.inl ((false, ()), (), ())))) else (some (.inl ((a0, a1, (IntKind.wrap .i64 (a5 + 1)), ()), (), ())))))) else (bif (decide ((a5 : Int) < (((a1).length : Nat) : Int))) then ((F39 a0 a5).bind fun y2 => ((F39 a1 a5).bind fun y3 => (bif ((y2.1.1 : Int) != y3.1.1) then (some (.inr (.inl ((false, ()), (), ())))) else (some (.inl ((a0, a1, (IntKind.wrap .i64 (a5 + 1)), ()), (), ())))))) else (some (.inr (.inr ((), (), ()))))))
noncomputable def L15_2 (a0 : (List Int)) (a1 : (List Int)) (a5 : Int) : Option (((Bool × Unit) × Unit × Unit) ⊕ (Unit × Unit × Unit)) := iter (fun x : (((List Int) × ((List Int) × (Int × Unit))) × Unit × Unit) => T15_2 x.1.1 x.1.2.1 x.1.2.2.1) 300 ((a0, a1, a5, ()), (), ())
noncomputable def k15_2 : Con := ⟨i15_2, o15_2, fun x => L15_2 x.1.1 x.1.2.1 x.1.2.2.1⟩
theorem e15_2 (x : i15_2.E) : vround Try.prog C15_2 LO15_2 Try.f15.ntmps l15_2 i15_2 o15_2 x = T15_2 x.1.1 x.1.2.1 x.1.2.2.1 := by kernel_rfl
theorem k15_2_ok : Con.LOK Try.prog Try.f15.ntmps l15_2 k15_2 := Con.LOK.fuel (loop_ok C15_2_ok (noL (by kernel_rfl)) i15_2 o15_2) 300 (funext e15_2)
noncomputable def C15 : Tab := [(39, c39)]
theorem C15_ok : TabOK Try.prog C15 := ⟨c39_ok, trivial⟩
noncomputable def LO15 : Tab := [(2, k15_2)]
noncomputable def i15 : Tm := { sl := [(0, .v (.l (.i .u64))), (1, .v (.l (.i .u64)))], bx := [], bf := [] }
noncomputable def o15 : OT := (.ret { sl := [(0, .v .b)], bx := [], bf := [] })
noncomputable def F15 (a0 : (List Int)) (a1 : (List Int)) : Option ((Bool × Unit) × Unit × Unit) :=
 ((L15_2 a0 a1 0).bind fun y0 => (Sum.elim (fun y1 => (some ((y1.1.1, ()), (), ()))) (fun y1 => (some ((true, ()), (), ()))) y0))
noncomputable def c15 : Con := ⟨i15, o15, fun x => F15 x.1.1 x.1.2.1⟩
theorem e15 (x : i15.E) : vfn Try.prog C15 LO15 Try.f15 b15 i15 o15 x = c15.F x := by kernel_rfl
theorem c15_ok : Con.OK Try.prog 15 c15 := (fn_ok C15_ok (fun _ => rfl) Try.func15 body15 (loops_of (l := [l15_2]) (by kernel_rfl) (show LoopsOK Try.prog Try.f15.ntmps [l15_2] LO15 from ⟨k15_2_ok, trivial⟩)) i15 o15).congr fun x => (e15 x).symm
noncomputable def b85 : Code := (.seq (.region 0 (regOf Try.f85 0) false) (.seq (.region 1 (regOf Try.f85 1) false) .ret))
theorem body85 : Try.f85.body = some b85 := by kernel_rfl
noncomputable def C85 : Tab := []
theorem C85_ok : TabOK Try.prog C85 := trivial
noncomputable def LO85 : Tab := []
noncomputable def i85 : Tm := { sl := [(0, .v (.f .f64))], bx := [], bf := [] }
noncomputable def o85 : OT := (.ret { sl := [(0, .v .b)], bx := [], bf := [] })
noncomputable def F85 (a0 : Nat) : Option ((Bool × Unit) × Unit × Unit) :=
 (some ((((FloatKind.f64).format.order (a0) (a0) != some Ordering.eq), ()), (), ()))
noncomputable def c85 : Con := ⟨i85, o85, fun x => F85 x.1.1⟩
theorem e85 (x : i85.E) : vfn Try.prog C85 LO85 Try.f85 b85 i85 o85 x = c85.F x := by kernel_rfl
theorem c85_ok : Con.OK Try.prog 85 c85 := (fn_ok C85_ok (fun _ => rfl) Try.func85 body85 (noL (by kernel_rfl)) i85 o85).congr fun x => (e85 x).symm
noncomputable def b76 : Code := (.seq (.region 0 (regOf Try.f76 0) false) (.seq (.seq (.region 1 (regOf Try.f76 1) false) (.cond (.tmp 4) (.seq (.region 2 (regOf Try.f76 2) false) .ret) .skip)) (.seq (.region 3 (regOf Try.f76 3) false) .ret)))
theorem body76 : Try.f76.body = some b76 := by kernel_rfl
noncomputable def C76 : Tab := [(85, c85)]
theorem C76_ok : TabOK Try.prog C76 := ⟨c85_ok, trivial⟩
noncomputable def LO76 : Tab := []
noncomputable def i76 : Tm := { sl := [(0, .v (.f .f64))], bx := [], bf := [] }
noncomputable def o76 : OT := (.ret { sl := [(0, .v (.i .u64))], bx := [], bf := [] })
noncomputable def F76 (a0 : Nat) : Option ((Int × Unit) × Unit × Unit) :=
 ((F85 a0).bind fun y0 => (bif y0.1.1 then (some ((9221120237041090561, ()), (), ())) else (some (((((a0) : Nat) : Int), ()), (), ()))))
noncomputable def c76 : Con := ⟨i76, o76, fun x => F76 x.1.1⟩
theorem e76 (x : i76.E) : vfn Try.prog C76 LO76 Try.f76 b76 i76 o76 x = c76.F x := by kernel_rfl
theorem c76_ok : Con.OK Try.prog 76 c76 := (fn_ok C76_ok (fun _ => rfl) Try.func76 body76 (noL (by kernel_rfl)) i76 o76).congr fun x => (e76 x).symm
noncomputable def b78 : Code := (.seq (.region 0 (regOf Try.f78 0) false) (.seq (.region 1 (regOf Try.f78 1) false) .ret))
theorem body78 : Try.f78.body = some b78 := by kernel_rfl
noncomputable def C78 : Tab := [(76, c76)]
theorem C78_ok : TabOK Try.prog C78 := ⟨c76_ok, trivial⟩
noncomputable def LO78 : Tab := []
noncomputable def i78 : Tm := { sl := [(0, .v (.f .f64))], bx := [], bf := [] }
noncomputable def o78 : OT := (.ret { sl := [(0, .v (.f .f64))], bx := [], bf := [] })
noncomputable def F78 (a0 : Nat) : Option ((Nat × Unit) × Unit × Unit) :=
 ((F76 a0).bind fun y0 => (some (((y0.1.1 : Int).toNat, ()), (), ())))
noncomputable def c78 : Con := ⟨i78, o78, fun x => F78 x.1.1⟩
theorem e78 (x : i78.E) : vfn Try.prog C78 LO78 Try.f78 b78 i78 o78 x = c78.F x := by kernel_rfl
theorem c78_ok : Con.OK Try.prog 78 c78 := (fn_ok C78_ok (fun _ => rfl) Try.func78 body78 (noL (by kernel_rfl)) i78 o78).congr fun x => (e78 x).symm
noncomputable def b57 : Code := (.seq (.region 0 (regOf Try.f57 0) false) (.seq (.region 1 (regOf Try.f57 1) false) (.seq (.seq (.region 2 (regOf Try.f57 2) false) (.cond (.tmp 20) (.region 3 (regOf Try.f57 3) false) .skip)) (.seq (.seq (.region 4 (regOf Try.f57 4) false) (.block 0 (.seq (.region 5 (regOf Try.f57 5) false) (.cond (.tmp 26) (.region 6 (regOf Try.f57 6) false) (.seq (.seq (.region 7 (regOf Try.f57 7) false) (.cond (.tmp 32) .skip (.region 8 (regOf Try.f57 8) false))) (.cond (.tmp 32) (.region 9 (regOf Try.f57 9) false) (.seq (.region 10 (regOf Try.f57 10) false) (.cond (.tmp 39) (.region 11 (regOf Try.f57 11) false) .skip)))))))) (.seq (.region 12 (regOf Try.f57 12) false) .ret)))))
theorem body57 : Try.f57.body = some b57 := by kernel_rfl
noncomputable def C57 : Tab := [(78, c78)]
theorem C57_ok : TabOK Try.prog C57 := ⟨c78_ok, trivial⟩
noncomputable def LO57 : Tab := []
noncomputable def i57 : Tm := { sl := [(0, .v tDEv)], bx := [], bf := [] }
noncomputable def o57 : OT := (.ret { sl := [(0, .v tDEv)], bx := [], bf := [] })
noncomputable def F57 (a0 : DEv) : Option ((DEv × Unit) × Unit × Unit) :=
 (bif (decide ((a0.2.2.2.1 : Int) ≥ 1)) then (bif (decide ((a0.2.2.2.1 : Int) ≤ 4)) then (bif ((a0.2.2.2.1 : Int) == 1) then (bif (decide ((a0.2.2.2.2.2.1).length < lim)) then (some (((a0.1, (a0.2.1, (a0.2.2.1, (a0.2.2.2.1, (a0.2.2.2.2.1, (a0.2.2.2.2.2.1, (0, (0, ())))))))), ()), (), ())) else none) else (bif ((a0.2.2.2.1 : Int) == 2) then ((F78 a0.2.2.2.2.2.2.1).bind fun y0 => (some (((a0.1, (a0.2.1, (a0.2.2.1, (a0.2.2.2.1, (a0.2.2.2.2.1, (([] : List Int), (y0.1.1, (0, ())))))))), ()), (), ()))) else (bif ((a0.2.2.2.1 : Int) == 3) then ((F78 a0.2.2.2.2.2.2.1).bind fun y1 => (some (((a0.1, (a0.2.1, (a0.2.2.1, (a0.2.2.2.1, (a0.2.2.2.2.1, (([] : List Int), (y1.1.1, (0, ())))))))), ()), (), ()))) else (bif ((a0.2.2.2.1 : Int) == 5) then (some (((a0.1, (a0.2.1, (a0.2.2.1, (a0.2.2.2.1, (a0.2.2.2.2.1, (([] : List Int), (0, (a0.2.2.2.2.2.2.2.1, ())))))))), ()), (), ())) else (some (((a0.1, (a0.2.1, (a0.2.2.1, (a0.2.2.2.1, (a0.2.2.2.2.1, (([] : List Int), (0, (0, ())))))))), ()), (), ())))))) else (bif ((a0.2.2.2.1 : Int) == 1) then (bif (decide ((a0.2.2.2.2.2.1).length < lim)) then (some (((a0.1, (a0.2.1, (a0.2.2.1, (a0.2.2.2.1, (ByteArray.empty, (a0.2.2.2.2.2.1, (0, (0, ())))))))), ()), (), ())) else none) else (bif ((a0.2.2.2.1 : Int) == 2) then ((F78 a0.2.2.2.2.2.2.1).bind fun y2 => (some (((a0.1, (a0.2.1, (a0.2.2.1, (a0.2.2.2.1, (ByteArray.empty, (([] : List Int), (y2.1.1, (0, ())))))))), ()), (), ()))) else (bif ((a0.2.2.2.1 : Int) == 3) then ((F78 a0.2.2.2.2.2.2.1).bind fun y3 => (some (((a0.1, (a0.2.1, (a0.2.2.1, (a0.2.2.2.1, (ByteArray.empty, (([] : List Int), (y3.1.1, (0, ())))))))), ()), (), ()))) else (bif ((a0.2.2.2.1 : Int) == 5) then (some (((a0.1, (a0.2.1, (a0.2.2.1, (a0.2.2.2.1, (ByteArray.empty, (([] : List Int), (0, (a0.2.2.2.2.2.2.2.1, ())))))))), ()), (), ())) else (some (((a0.1, (a0.2.1, (a0.2.2.1, (a0.2.2.2.1, (ByteArray.empty, (([] : List Int), (0, (0, ())))))))), ()), (), ()))))))) else (bif ((a0.2.2.2.1 : Int) == 1) then (bif (decide ((a0.2.2.2.2.2.1).length < lim)) then (some (((a0.1, (a0.2.1, (a0.2.2.1, (a0.2.2.2.1, (ByteArray.empty, (a0.2.2.2.2.2.1, (0, (0, ())))))))), ()), (), ())) else none) else (bif ((a0.2.2.2.1 : Int) == 2) then ((F78 a0.2.2.2.2.2.2.1).bind fun y4 => (some (((a0.1, (a0.2.1, (a0.2.2.1, (a0.2.2.2.1, (ByteArray.empty, (([] : List Int), (y4.1.1, (0, ())))))))), ()), (), ()))) else (bif ((a0.2.2.2.1 : Int) == 3) then ((F78 a0.2.2.2.2.2.2.1).bind fun y5 => (some (((a0.1, (a0.2.1, (a0.2.2.1, (a0.2.2.2.1, (ByteArray.empty, (([] : List Int), (y5.1.1, (0, ())))))))), ()), (), ()))) else (bif ((a0.2.2.2.1 : Int) == 5) then (some (((a0.1, (a0.2.1, (a0.2.2.1, (a0.2.2.2.1, (ByteArray.empty, (([] : List Int), (0, (a0.2.2.2.2.2.2.2.1, ())))))))), ()), (), ())) else (some (((a0.1, (a0.2.1, (a0.2.2.1, (a0.2.2.2.1, (ByteArray.empty, (([] : List Int), (0, (0, ())))))))), ()), (), ())))))))
noncomputable def c57 : Con := ⟨i57, o57, fun x => F57 x.1.1⟩
theorem e57 (x : i57.E) : vfn Try.prog C57 LO57 Try.f57 b57 i57 o57 x = c57.F x := by kernel_rfl
theorem c57_ok : Con.OK Try.prog 57 c57 := (fn_ok C57_ok (fun _ => rfl) Try.func57 body57 (noL (by kernel_rfl)) i57 o57).congr fun x => (e57 x).symm
noncomputable def b77 : Code := (.seq (.region 0 (regOf Try.f77 0) false) (.seq (.seq (.region 1 (regOf Try.f77 1) false) (.cond (.tmp 4) (.seq (.region 2 (regOf Try.f77 2) false) .ret) .skip)) (.seq (.region 3 (regOf Try.f77 3) false) .ret)))
theorem body77 : Try.f77.body = some b77 := by kernel_rfl
noncomputable def C77 : Tab := []
theorem C77_ok : TabOK Try.prog C77 := trivial
noncomputable def LO77 : Tab := []
noncomputable def i77 : Tm := { sl := [(0, .v (.l (.i .u8)))], bx := [], bf := [] }
noncomputable def o77 : OT := (.ret { sl := [(0, .v (.l (.i .u8)))], bx := [], bf := [] })
noncomputable def F77 (a0 : (List Int)) : Option (((List Int) × Unit) × Unit × Unit) :=
 (nilBr (a0).length (some ((([] : List Int), ()), (), ())) (bif (decide ((([] : List Int)).length + (a0).length < lim)) then (some (((([] : List Int) ++ a0), ()), (), ())) else none))
noncomputable def c77 : Con := ⟨i77, o77, fun x => F77 x.1.1⟩
theorem e77 (x : i77.E) : vfn Try.prog C77 LO77 Try.f77 b77 i77 o77 x = c77.F x := by kernel_rfl
theorem c77_ok : Con.OK Try.prog 77 c77 := (fn_ok C77_ok (fun _ => rfl) Try.func77 body77 (noL (by kernel_rfl)) i77 o77).congr fun x => (e77 x).symm
noncomputable def l73_1 : Code := (.seq (.seq (.region 1 (regOf Try.f73 1) false) (.cond (.tmp 6) .skip (.exit 0))) (.seq (.block 1 (.region 3 (regOf Try.f73 3) false)) (.region 2 (regOf Try.f73 2) false)))
noncomputable def b73 : Code := (.seq (.region 0 (regOf Try.f73 0) false) (.seq (.block 0 (.loop l73_1)) (.seq (.region 4 (regOf Try.f73 4) false) .ret)))
theorem body73 : Try.f73.body = some b73 := by kernel_rfl
noncomputable def C73_1 : Tab := []
theorem C73_1_ok : TabOK Try.prog C73_1 := trivial
noncomputable def LO73_1 : Tab := []
noncomputable def i73_1 : Tm := { sl := [(0, .o 0), (1, .v (.i .u64))], bx := [], bf := [(.i .u8)] }
noncomputable def o73_1 : OT := (.exit 0 { sl := [(0, .o 0), (1, .v (.i .u64))], bx := [], bf := [(.i .u8)] })
noncomputable def T73_1 (a1 : Int) (q0 : (List Int)) : Option (((Unit × (Int × Unit)) × Unit × ((List Int) × Unit)) ⊕ ((Unit × (Int × Unit)) × Unit × ((List Int) × Unit))) :=
 (bif (decide ((a1 : Int) ≥ 128)) then (bif (decide ((q0).length + ([(iOr .u8 (IntKind.wrap .u8 a1) 128)]).length < lim)) then (some (.inl (((), (iShr .u64 a1 7), ()), (), ((q0 ++ [(iOr .u8 (IntKind.wrap .u8 a1) 128)]), ())))) else none) else (some (.inr (((), a1, ()), (), (q0, ())))))
noncomputable def L73_1 (a1 : Int) (q0 : (List Int)) : Option ((Unit × (Int × Unit)) × Unit × ((List Int) × Unit)) := iter (fun x : ((Unit × (Int × Unit)) × Unit × ((List Int) × Unit)) => T73_1 x.1.2.1 x.2.2.1) 300 (((), a1, ()), (), (q0, ()))
noncomputable def k73_1 : Con := ⟨i73_1, o73_1, fun x => L73_1 x.1.2.1 x.2.2.1⟩
theorem e73_1 (x : i73_1.E) : vround Try.prog C73_1 LO73_1 Try.f73.ntmps l73_1 i73_1 o73_1 x = T73_1 x.1.2.1 x.2.2.1 := by kernel_rfl
theorem k73_1_ok : Con.LOK Try.prog Try.f73.ntmps l73_1 k73_1 := Con.LOK.fuel (loop_ok C73_1_ok (noL (by kernel_rfl)) i73_1 o73_1) 300 (funext e73_1)
noncomputable def C73 : Tab := []
theorem C73_ok : TabOK Try.prog C73 := trivial
noncomputable def LO73 : Tab := [(1, k73_1)]
noncomputable def i73 : Tm := { sl := [(0, .o 0), (1, .v (.i .u64))], bx := [], bf := [(.i .u8)] }
noncomputable def o73 : OT := (.ret { sl := [(0, .o 0)], bx := [], bf := [(.i .u8)] })
noncomputable def F73 (a1 : Int) (q0 : (List Int)) : Option ((Unit × Unit) × Unit × ((List Int) × Unit)) :=
 ((L73_1 a1 q0).bind fun y0 => (bif (decide ((y0.2.2.1).length + ([(IntKind.wrap .u8 y0.1.2.1)]).length < lim)) then (some (((), ()), (), ((y0.2.2.1 ++ [(IntKind.wrap .u8 y0.1.2.1)]), ()))) else none))
noncomputable def c73 : Con := ⟨i73, o73, fun x => F73 x.1.2.1 x.2.2.1⟩
theorem e73 (x : i73.E) : vfn Try.prog C73 LO73 Try.f73 b73 i73 o73 x = c73.F x := by kernel_rfl
theorem c73_ok : Con.OK Try.prog 73 c73 := (fn_ok C73_ok (fun _ => rfl) Try.func73 body73 (loops_of (l := [l73_1]) (by kernel_rfl) (show LoopsOK Try.prog Try.f73.ntmps [l73_1] LO73 from ⟨k73_1_ok, trivial⟩)) i73 o73).congr fun x => (e73 x).symm
noncomputable def b74 : Code := (.seq (.region 0 (regOf Try.f74 0) false) (.seq (.region 1 (regOf Try.f74 1) false) .ret))
theorem body74 : Try.f74.body = some b74 := by kernel_rfl
noncomputable def C74 : Tab := [(73, c73)]
theorem C74_ok : TabOK Try.prog C74 := ⟨c73_ok, trivial⟩
noncomputable def LO74 : Tab := []
noncomputable def i74 : Tm := { sl := [(0, .o 0), (1, .v (.l (.i .u8)))], bx := [], bf := [(.i .u8)] }
noncomputable def o74 : OT := (.ret { sl := [(0, .o 0)], bx := [], bf := [(.i .u8)] })
noncomputable def F74 (a1 : (List Int)) (q0 : (List Int)) : Option ((Unit × Unit) × Unit × ((List Int) × Unit)) :=
 ((F73 (IntKind.wrap .u64 (((a1).length : Nat) : Int)) q0).bind fun y0 => (bif (decide ((y0.2.2.1).length + (a1).length < lim)) then (some (((), ()), (), ((y0.2.2.1 ++ a1), ()))) else none))
noncomputable def c74 : Con := ⟨i74, o74, fun x => F74 x.1.2.1 x.2.2.1⟩
theorem e74 (x : i74.E) : vfn Try.prog C74 LO74 Try.f74 b74 i74 o74 x = c74.F x := by kernel_rfl
theorem c74_ok : Con.OK Try.prog 74 c74 := (fn_ok C74_ok (fun _ => rfl) Try.func74 body74 (noL (by kernel_rfl)) i74 o74).congr fun x => (e74 x).symm
noncomputable def l75_2 : Code := (.seq (.seq (.region 2 (regOf Try.f75 2) false) (.cond (.tmp 7) .skip (.exit 0))) (.seq (.block 1 (.region 4 (regOf Try.f75 4) false)) (.region 3 (regOf Try.f75 3) false)))
noncomputable def b75 : Code := (.seq (.region 0 (regOf Try.f75 0) false) (.seq (.seq (.region 1 (regOf Try.f75 1) false) (.block 0 (.loop l75_2))) (.seq (.region 5 (regOf Try.f75 5) false) .ret)))
theorem body75 : Try.f75.body = some b75 := by kernel_rfl
noncomputable def C75_2 : Tab := []
theorem C75_2_ok : TabOK Try.prog C75_2 := trivial
noncomputable def LO75_2 : Tab := []
noncomputable def i75_2 : Tm := { sl := [(0, .o 0), (1, .v (.i .u64)), (5, .v (.i .i64))], bx := [], bf := [(.i .u8)] }
noncomputable def o75_2 : OT := (.exit 0 { sl := [(0, .o 0)], bx := [], bf := [(.i .u8)] })
noncomputable def T75_2 (a1 : Int) (a5 : Int) (q0 : (List Int)) : Option (((Unit × (Int × (Int × Unit))) × Unit × ((List Int) × Unit)) ⊕ ((Unit × Unit) × Unit × ((List Int) × Unit))) :=
 (bif (decide ((a5 : Int) ≥ 0)) then (bif (decide ((0 : Int) ≤ (IntKind.wrap .i64 (8 * a5)))) then (bif (decide ((q0).length + ([(IntKind.wrap .u8 (iShr .u64 a1 (IntKind.wrap .i64 (8 * a5))))]).length < lim)) then (some (.inl (((), a1, (IntKind.wrap .i64 (a5 - 1)), ()), (), ((q0 ++ [(IntKind.wrap .u8 (iShr .u64 a1 (IntKind.wrap .i64 (8 * a5))))]), ())))) else none) else none) else (some (.inr (((), ()), (), (q0, ())))))
noncomputable def L75_2 (a1 : Int) (a5 : Int) (q0 : (List Int)) : Option ((Unit × Unit) × Unit × ((List Int) × Unit)) := iter (fun x : ((Unit × (Int × (Int × Unit))) × Unit × ((List Int) × Unit)) => T75_2 x.1.2.1 x.1.2.2.1 x.2.2.1) 300 (((), a1, a5, ()), (), (q0, ()))
noncomputable def k75_2 : Con := ⟨i75_2, o75_2, fun x => L75_2 x.1.2.1 x.1.2.2.1 x.2.2.1⟩
theorem e75_2 (x : i75_2.E) : vround Try.prog C75_2 LO75_2 Try.f75.ntmps l75_2 i75_2 o75_2 x = T75_2 x.1.2.1 x.1.2.2.1 x.2.2.1 := by kernel_rfl
theorem k75_2_ok : Con.LOK Try.prog Try.f75.ntmps l75_2 k75_2 := Con.LOK.fuel (loop_ok C75_2_ok (noL (by kernel_rfl)) i75_2 o75_2) 300 (funext e75_2)
noncomputable def C75 : Tab := []
theorem C75_ok : TabOK Try.prog C75 := trivial
noncomputable def LO75 : Tab := [(2, k75_2)]
noncomputable def i75 : Tm := { sl := [(0, .o 0), (1, .v (.i .u64))], bx := [], bf := [(.i .u8)] }
noncomputable def o75 : OT := (.ret { sl := [(0, .o 0)], bx := [], bf := [(.i .u8)] })
noncomputable def F75 (a1 : Int) (q0 : (List Int)) : Option ((Unit × Unit) × Unit × ((List Int) × Unit)) :=
 ((L75_2 a1 7 q0).bind fun y0 => (some (((), ()), (), (y0.2.2.1, ()))))
noncomputable def c75 : Con := ⟨i75, o75, fun x => F75 x.1.2.1 x.2.2.1⟩
theorem e75 (x : i75.E) : vfn Try.prog C75 LO75 Try.f75 b75 i75 o75 x = c75.F x := by kernel_rfl
theorem c75_ok : Con.OK Try.prog 75 c75 := (fn_ok C75_ok (fun _ => rfl) Try.func75 body75 (loops_of (l := [l75_2]) (by kernel_rfl) (show LoopsOK Try.prog Try.f75.ntmps [l75_2] LO75 from ⟨k75_2_ok, trivial⟩)) i75 o75).congr fun x => (e75 x).symm
noncomputable def b54 : Code := (.seq (.region 0 (regOf Try.f54 0) false) (.seq (.region 1 (regOf Try.f54 1) false) (.seq (.region 2 (regOf Try.f54 2) true) (.seq (.seq (.region 3 (regOf Try.f54 3) false) (.cond (.tmp 26) (.region 4 (regOf Try.f54 4) false) .skip)) (.seq (.seq (.region 5 (regOf Try.f54 5) false) (.block 0 (.seq (.region 6 (regOf Try.f54 6) false) (.cond (.tmp 34) (.region 7 (regOf Try.f54 7) false) (.seq (.seq (.region 8 (regOf Try.f54 8) false) (.cond (.tmp 40) .skip (.region 9 (regOf Try.f54 9) false))) (.cond (.tmp 40) (.region 10 (regOf Try.f54 10) false) (.seq (.region 11 (regOf Try.f54 11) false) (.cond (.tmp 48) (.region 12 (regOf Try.f54 12) false) .skip)))))))) (.seq (.region 13 (regOf Try.f54 13) false) .ret))))))
theorem body54 : Try.f54.body = some b54 := by kernel_rfl
noncomputable def C54 : Tab := [(73, c73), (74, c74), (75, c75), (76, c76)]
theorem C54_ok : TabOK Try.prog C54 := ⟨c73_ok, c74_ok, c75_ok, c76_ok, trivial⟩
noncomputable def LO54 : Tab := []
noncomputable def i54 : Tm := { sl := [(0, .v tDEv)], bx := [], bf := [] }
noncomputable def o54 : OT := (.ret { sl := [(0, .o 0)], bx := [], bf := [(.i .u8)] })
noncomputable def F54 (a0 : DEv) : Option ((Unit × Unit) × Unit × ((List Int) × Unit)) :=
 ((F73 (IntKind.wrap .u64 a0.1) ([] : List Int)).bind fun y0 => ((F73 a0.2.1 y0.2.2.1).bind fun y1 => ((F73 a0.2.2.1 y1.2.2.1).bind fun y2 => (bif (decide ((y2.2.2.1).length + ([a0.2.2.2.1]).length < lim)) then (bif (decide ((a0.2.2.2.1 : Int) ≥ 1)) then (bif (decide ((a0.2.2.2.1 : Int) ≤ 4)) then ((F74 (bytesL a0.2.2.2.2.1) (y2.2.2.1 ++ [a0.2.2.2.1])).bind fun y3 => (bif ((a0.2.2.2.1 : Int) == 1) then ((F74 a0.2.2.2.2.2.1 y3.2.2.1).bind fun y4 => (some (((), ()), (), (y4.2.2.1, ())))) else (bif ((a0.2.2.2.1 : Int) == 2) then ((F76 a0.2.2.2.2.2.2.1).bind fun y5 => ((F75 y5.1.1 y3.2.2.1).bind fun y6 => (some (((), ()), (), (y6.2.2.1, ()))))) else (bif ((a0.2.2.2.1 : Int) == 3) then ((F76 a0.2.2.2.2.2.2.1).bind fun y7 => ((F75 y7.1.1 y3.2.2.1).bind fun y8 => (some (((), ()), (), (y8.2.2.1, ()))))) else (bif ((a0.2.2.2.1 : Int) == 5) then ((F73 (IntKind.wrap .u64 a0.2.2.2.2.2.2.2.1) y3.2.2.1).bind fun y9 => (some (((), ()), (), (y9.2.2.1, ())))) else (some (((), ()), (), (y3.2.2.1, ())))))))) else (bif ((a0.2.2.2.1 : Int) == 1) then ((F74 a0.2.2.2.2.2.1 (y2.2.2.1 ++ [a0.2.2.2.1])).bind fun y10 => (some (((), ()), (), (y10.2.2.1, ())))) else (bif ((a0.2.2.2.1 : Int) == 2) then ((F76 a0.2.2.2.2.2.2.1).bind fun y11 => ((F75 y11.1.1 (y2.2.2.1 ++ [a0.2.2.2.1])).bind fun y12 => (some (((), ()), (), (y12.2.2.1, ()))))) else (bif ((a0.2.2.2.1 : Int) == 3) then ((F76 a0.2.2.2.2.2.2.1).bind fun y13 => ((F75 y13.1.1 (y2.2.2.1 ++ [a0.2.2.2.1])).bind fun y14 => (some (((), ()), (), (y14.2.2.1, ()))))) else (bif ((a0.2.2.2.1 : Int) == 5) then ((F73 (IntKind.wrap .u64 a0.2.2.2.2.2.2.2.1) (y2.2.2.1 ++ [a0.2.2.2.1])).bind fun y15 => (some (((), ()), (), (y15.2.2.1, ())))) else (some (((), ()), (), ((y2.2.2.1 ++ [a0.2.2.2.1]), ())))))))) else (bif ((a0.2.2.2.1 : Int) == 1) then ((F74 a0.2.2.2.2.2.1 (y2.2.2.1 ++ [a0.2.2.2.1])).bind fun y16 => (some (((), ()), (), (y16.2.2.1, ())))) else (bif ((a0.2.2.2.1 : Int) == 2) then ((F76 a0.2.2.2.2.2.2.1).bind fun y17 => ((F75 y17.1.1 (y2.2.2.1 ++ [a0.2.2.2.1])).bind fun y18 => (some (((), ()), (), (y18.2.2.1, ()))))) else (bif ((a0.2.2.2.1 : Int) == 3) then ((F76 a0.2.2.2.2.2.2.1).bind fun y19 => ((F75 y19.1.1 (y2.2.2.1 ++ [a0.2.2.2.1])).bind fun y20 => (some (((), ()), (), (y20.2.2.1, ()))))) else (bif ((a0.2.2.2.1 : Int) == 5) then ((F73 (IntKind.wrap .u64 a0.2.2.2.2.2.2.2.1) (y2.2.2.1 ++ [a0.2.2.2.1])).bind fun y21 => (some (((), ()), (), (y21.2.2.1, ())))) else (some (((), ()), (), ((y2.2.2.1 ++ [a0.2.2.2.1]), ())))))))) else none))))
noncomputable def c54 : Con := ⟨i54, o54, fun x => F54 x.1.1⟩
theorem e54 (x : i54.E) : vfn Try.prog C54 LO54 Try.f54 b54 i54 o54 x = c54.F x := by kernel_rfl
theorem c54_ok : Con.OK Try.prog 54 c54 := (fn_ok C54_ok (fun _ => rfl) Try.func54 body54 (noL (by kernel_rfl)) i54 o54).congr fun x => (e54 x).symm
noncomputable def b44 : Code := (.seq (.region 0 (regOf Try.f44 0) false) (.seq (.seq (.region 1 (regOf Try.f44 1) false) (.cond (.tmp 4) (.seq (.region 2 (regOf Try.f44 2) false) .ret) .skip)) (.seq (.region 3 (regOf Try.f44 3) false) .ret)))
theorem body44 : Try.f44.body = some b44 := by kernel_rfl
noncomputable def C44 : Tab := []
theorem C44_ok : TabOK Try.prog C44 := trivial
noncomputable def LO44 : Tab := []
noncomputable def i44 : Tm := { sl := [(0, .v (.l (.i .u64)))], bx := [], bf := [] }
noncomputable def o44 : OT := (.ret { sl := [(0, .v (.l (.i .u64)))], bx := [], bf := [] })
noncomputable def F44 (a0 : (List Int)) : Option (((List Int) × Unit) × Unit × Unit) :=
 (nilBr (a0).length (some ((([] : List Int), ()), (), ())) (bif (decide ((([] : List Int)).length + (a0).length < lim)) then (some (((([] : List Int) ++ a0), ()), (), ())) else none))
noncomputable def c44 : Con := ⟨i44, o44, fun x => F44 x.1.1⟩
theorem e44 (x : i44.E) : vfn Try.prog C44 LO44 Try.f44 b44 i44 o44 x = c44.F x := by kernel_rfl
theorem c44_ok : Con.OK Try.prog 44 c44 := (fn_ok C44_ok (fun _ => rfl) Try.func44 body44 (noL (by kernel_rfl)) i44 o44).congr fun x => (e44 x).symm
def F44k (a0 : (List Int)) : Option (((List Int) × Unit) × Unit × Unit) := bif (decide (a0.length < lim)) then some ((a0, ()), (), ()) else none
theorem F44k_eq (a0 : (List Int)) : F44k a0 = F44 a0 := by unfold F44 nilBr both; cases a0 <;> simp [F44k, lim] <;> rfl
noncomputable def c44k : Con := ⟨i44, o44, fun x => F44k x.1.1⟩
theorem c44k_ok : Con.OK Try.prog 44 c44k := c44_ok.congr fun x => F44k_eq x.1.1
noncomputable def l38_2 : Code := (.seq (.seq (.region 2 (regOf Try.f38 2) false) (.cond (.tmp 15) .skip (.exit 0))) (.block 1 (.region 3 (regOf Try.f38 3) false)))
noncomputable def b38 : Code := (.seq (.region 0 (regOf Try.f38 0) false) (.seq (.region 1 (regOf Try.f38 1) false) (.seq (.block 0 (.loop l38_2)) (.seq (.region 4 (regOf Try.f38 4) false) .ret))))
theorem body38 : Try.f38.body = some b38 := by kernel_rfl
noncomputable def C38_2 : Tab := []
theorem C38_2_ok : TabOK Try.prog C38_2 := trivial
noncomputable def LO38_2 : Tab := []
noncomputable def i38_2 : Tm := { sl := [(0, .v (.l (.i .u64))), (3, .v (.i .i64))], bx := [], bf := [] }
noncomputable def o38_2 : OT := (.exit 0 { sl := [(3, .v (.i .i64))], bx := [], bf := [] })
noncomputable def T38_2 (a0 : (List Int)) (a3 : Int) : Option ((((List Int) × (Int × Unit)) × Unit × Unit) ⊕ ((Int × Unit) × Unit × Unit)) :=
 (bif (decide ((a3 : Int) > 0)) then (bif (decide (0 ≤ ((IntKind.wrap .i64 (a3 - 1)) : Int) ∧ ((IntKind.wrap .i64 (a3 - 1)) : Int) < (((a0).length : Nat) : Int))) then (bif ((((a0).getD ((IntKind.wrap .i64 (a3 - 1)) : Int).toNat (0 : Int)) : Int) == 0) then (some (.inl ((a0, (IntKind.wrap .i64 (a3 - 1)), ()), (), ()))) else (some (.inr ((a3, ()), (), ())))) else none) else (some (.inr ((a3, ()), (), ()))))
noncomputable def L38_2 (a0 : (List Int)) (a3 : Int) : Option ((Int × Unit) × Unit × Unit) := iter (fun x : (((List Int) × (Int × Unit)) × Unit × Unit) => T38_2 x.1.1 x.1.2.1) 300 ((a0, a3, ()), (), ())
noncomputable def k38_2 : Con := ⟨i38_2, o38_2, fun x => L38_2 x.1.1 x.1.2.1⟩
theorem e38_2 (x : i38_2.E) : vround Try.prog C38_2 LO38_2 Try.f38.ntmps l38_2 i38_2 o38_2 x = T38_2 x.1.1 x.1.2.1 := by kernel_rfl
theorem k38_2_ok : Con.LOK Try.prog Try.f38.ntmps l38_2 k38_2 := Con.LOK.fuel (loop_ok C38_2_ok (noL (by kernel_rfl)) i38_2 o38_2) 300 (funext e38_2)
noncomputable def C38 : Tab := [(44, c44k)]
theorem C38_ok : TabOK Try.prog C38 := ⟨c44k_ok, trivial⟩
noncomputable def LO38 : Tab := [(2, k38_2)]
noncomputable def i38 : Tm := { sl := [(0, .v (.l (.i .u64)))], bx := [], bf := [] }
noncomputable def o38 : OT := (.ret { sl := [(0, .v (.l (.i .u64)))], bx := [], bf := [] })
noncomputable def F38 (a0 : (List Int)) : Option (((List Int) × Unit) × Unit × Unit) :=
 ((L38_2 a0 (((a0).length : Nat) : Int)).bind fun y0 => (bif (decide (0 ≤ (y0.1.1 : Int) ∧ (y0.1.1 : Int) ≤ (((a0).length : Nat) : Int))) then ((F44k ((a0).take (y0.1.1 : Int).toNat)).bind fun y1 => (some ((y1.1.1, ()), (), ()))) else none))
noncomputable def c38 : Con := ⟨i38, o38, fun x => F38 x.1.1⟩
theorem e38 (x : i38.E) : vfn Try.prog C38 LO38 Try.f38 b38 i38 o38 x = c38.F x := by kernel_rfl
theorem c38_ok : Con.OK Try.prog 38 c38 := (fn_ok C38_ok (fun _ => rfl) Try.func38 body38 (loops_of (l := [l38_2]) (by kernel_rfl) (show LoopsOK Try.prog Try.f38.ntmps [l38_2] LO38 from ⟨k38_2_ok, trivial⟩)) i38 o38).congr fun x => (e38 x).symm
noncomputable def b44h : Code := (.seq (.region 0 (regOf Try.f44 0) false) (.seq (.seq (.region 1 (regOf Try.f44 1) false) (.cond (.tmp 4) (.seq (.region 2 (regOf Try.f44 2) false) .ret) .skip)) (.seq (.region 3 (regOf Try.f44 3) false) .ret)))
theorem body44h : Try.f44.body = some b44h := by kernel_rfl
noncomputable def C44h : Tab := [(900005, cHot), (900007, cHot)]
theorem C44h_ok : TabOK Try.prog C44h := ⟨cHot_ok, cHot_ok, trivial⟩
noncomputable def LO44h : Tab := []
noncomputable def i44h : Tm := { sl := [(0, .v (.l (.i .u64)))], bx := [], bf := [] }
noncomputable def o44h : OT := (.ret { sl := [(0, .m (.i .u64) 0)], bx := [[.r (.i .u64)]], bf := [] })
noncomputable def F44h (a0 : (List Int)) : Option ((Unit × Unit) × (((List Int) × Unit) × Unit) × Unit) :=
 (nilBr (a0).length (some (((), ()), ((([] : List Int), ()), ()), ())) (bif (decide ((([] : List Int)).length + (a0).length < lim)) then (some (((), ()), (((([] : List Int) ++ a0), ()), ()), ())) else none))
noncomputable def c44h : Con := ⟨i44h, o44h, fun x => F44h x.1.1⟩
theorem e44h (x : i44h.E) : vfn Try.prog C44h LO44h Try.f44 b44h i44h o44h x = c44h.F x := by kernel_rfl
theorem c44h_ok : Con.OK Try.prog 44 c44h := (fn_ok C44h_ok (fun _ => rfl) Try.func44 body44h (noL (by kernel_rfl)) i44h o44h).congr fun x => (e44h x).symm
def F44j (a0 : (List Int)) : Option ((Unit × Unit) × (((List Int) × Unit) × Unit) × Unit) := bif (decide (a0.length < lim)) then some (((), ()), ((a0, ()), ()), ()) else none
theorem F44j_eq (a0 : (List Int)) : F44j a0 = F44h a0 := by unfold F44h nilBr both; cases a0 <;> simp [F44j, lim] <;> rfl
noncomputable def c44j : Con := ⟨i44h, o44h, fun x => F44j x.1.1⟩
theorem c44j_ok : Con.OK Try.prog 44 c44j := c44h_ok.congr fun x => F44j_eq x.1.1
noncomputable def l18_4 : Code := (.seq (.seq (.region 4 (regOf Try.f18 4) false) (.cond (.tmp 21) .skip (.exit 0))) (.block 1 (.region 5 (regOf Try.f18 5) false)))
noncomputable def b18 : Code := (.seq (.region 0 (regOf Try.f18 0) false) (.seq (.seq (.region 1 (regOf Try.f18 1) false) (.cond (.tmp 13) (.seq (.region 2 (regOf Try.f18 2) false) .ret) .skip)) (.seq (.region 3 (regOf Try.f18 3) false) (.seq (.block 0 (.loop l18_4)) (.seq (.region 6 (regOf Try.f18 6) false) (.seq (.region 7 (regOf Try.f18 7) false) .ret))))))
theorem body18 : Try.f18.body = some b18 := by kernel_rfl
noncomputable def C18_4 : Tab := []
theorem C18_4_ok : TabOK Try.prog C18_4 := trivial
noncomputable def LO18_4 : Tab := []
noncomputable def i18_4 : Tm := { sl := [(1, .v (.i .i64)), (2, .v (.i .u64)), (7, .m (.i .u64) 0)], bx := [[.r (.i .u64)]], bf := [] }
noncomputable def o18_4 : OT := (.exit 0 { sl := [(7, .m (.i .u64) 1)], bx := [[.g], [.r (.i .u64)]], bf := [] })
noncomputable def T18_4 (a1 : Int) (a2 : Int) (b0_0 : (List Int)) : Option (((Int × (Int × (Unit × Unit))) × (((List Int) × Unit) × Unit) × Unit) ⊕ ((Unit × Unit) × ((Unit × Unit) × (((List Int) × Unit) × Unit)) × Unit)) :=
 (bif (decide (((((b0_0).length : Nat) : Int) : Int) ≤ a1)) then (bif (decide ((b0_0).length + ([0]).length < lim)) then (some (.inl ((a1, a2, (), ()), (((b0_0 ++ [0]), ()), ()), ()))) else none) else (some (.inr (((), ()), (((), ()), (b0_0, ()), ()), ()))))
noncomputable def L18_4 (a1 : Int) (a2 : Int) (b0_0 : (List Int)) : Option ((Unit × Unit) × ((Unit × Unit) × (((List Int) × Unit) × Unit)) × Unit) := iter (fun x : ((Int × (Int × (Unit × Unit))) × (((List Int) × Unit) × Unit) × Unit) => T18_4 x.1.1 x.1.2.1 x.2.1.1.1) 300 ((a1, a2, (), ()), ((b0_0, ()), ()), ())
noncomputable def k18_4 : Con := ⟨i18_4, o18_4, fun x => L18_4 x.1.1 x.1.2.1 x.2.1.1.1⟩
theorem e18_4 (x : i18_4.E) : vround Try.prog C18_4 LO18_4 Try.f18.ntmps l18_4 i18_4 o18_4 x = T18_4 x.1.1 x.1.2.1 x.2.1.1.1 := by kernel_rfl
theorem k18_4_ok : Con.LOK Try.prog Try.f18.ntmps l18_4 k18_4 := Con.LOK.fuel (loop_ok C18_4_ok (noL (by kernel_rfl)) i18_4 o18_4) 300 (funext e18_4)
noncomputable def C18 : Tab := [(38, c38), (44, c44j)]
theorem C18_ok : TabOK Try.prog C18 := ⟨c38_ok, c44j_ok, trivial⟩
noncomputable def LO18 : Tab := [(4, k18_4)]
noncomputable def i18 : Tm := { sl := [(0, .v (.l (.i .u64))), (1, .v (.i .i64)), (2, .v (.i .u64))], bx := [], bf := [] }
noncomputable def o18 : OT := (.ret { sl := [(0, .v (.l (.i .u64)))], bx := [], bf := [] })
noncomputable def F18 (a0 : (List Int)) (a1 : Int) (a2 : Int) : Option (((List Int) × Unit) × Unit × Unit) :=
 (bif (decide ((a1 : Int) < 0)) then ((F38 a0).bind fun y0 => (some ((y0.1.1, ()), (), ()))) else (bif (decide ((a1 : Int) ≥ 64)) then ((F38 a0).bind fun y1 => (some ((y1.1.1, ()), (), ()))) else ((F44j a0).bind fun y2 => ((L18_4 a1 a2 y2.2.1.1.1).bind fun y3 => (bif (decide (0 ≤ (a1 : Int) ∧ (a1 : Int) < (((y3.2.1.2.1.1).length : Nat) : Int))) then (bif (decide ((a1 : Int).toNat < (y3.2.1.2.1.1).length)) then ((F38 ((y3.2.1.2.1.1).set (a1 : Int).toNat a2)).bind fun y4 => (some ((y4.1.1, ()), (), ()))) else none) else none)))))
noncomputable def c18 : Con := ⟨i18, o18, fun x => F18 x.1.1 x.1.2.1 x.1.2.2.1⟩
theorem e18 (x : i18.E) : vfn Try.prog C18 LO18 Try.f18 b18 i18 o18 x = c18.F x := by kernel_rfl
theorem c18_ok : Con.OK Try.prog 18 c18 := (fn_ok C18_ok (fun _ => rfl) Try.func18 body18 (loops_of (l := [l18_4]) (by kernel_rfl) (show LoopsOK Try.prog Try.f18.ntmps [l18_4] LO18 from ⟨k18_4_ok, trivial⟩)) i18 o18).congr fun x => (e18 x).symm
noncomputable def b59 : Code := (.seq (.region 0 (regOf Try.f59 0) false) (.seq (.region 1 (regOf Try.f59 1) false) .ret))
theorem body59 : Try.f59.body = some b59 := by kernel_rfl
noncomputable def C59 : Tab := []
theorem C59_ok : TabOK Try.prog C59 := trivial
noncomputable def LO59 : Tab := []
noncomputable def i59 : Tm := { sl := [(0, .v (.i .u64)), (1, .v (.i .u64))], bx := [], bf := [] }
noncomputable def o59 : OT := (.ret { sl := [(0, .v (.i .u64))], bx := [], bf := [] })
noncomputable def F59 (a0 : Int) (a1 : Int) : Option ((Int × Unit) × Unit × Unit) :=
 (some (((if (a1 : Int) > a0 then a1 else a0), ()), (), ()))
noncomputable def c59 : Con := ⟨i59, o59, fun x => F59 x.1.1 x.1.2.1⟩
theorem e59 (x : i59.E) : vfn Try.prog C59 LO59 Try.f59 b59 i59 o59 x = c59.F x := by kernel_rfl
theorem c59_ok : Con.OK Try.prog 59 c59 := (fn_ok C59_ok (fun _ => rfl) Try.func59 body59 (noL (by kernel_rfl)) i59 o59).congr fun x => (e59 x).symm
noncomputable def l58_3 : Code := (.seq (.region 3 (regOf Try.f58 3) false) (.seq (.cond (.tmp 15) .skip (.exit 0)) (.seq (.block 1 (.seq (.region 4 (regOf Try.f58 4) false) (.region 5 (regOf Try.f58 5) false))) (.region 6 (regOf Try.f58 6) false))))
noncomputable def b58 : Code := (.seq (.region 0 (regOf Try.f58 0) false) (.seq (.region 1 (regOf Try.f58 1) false) (.seq (.seq (.region 2 (regOf Try.f58 2) false) (.block 0 (.loop l58_3))) (.seq (.region 7 (regOf Try.f58 7) false) .ret))))
theorem body58 : Try.f58.body = some b58 := by kernel_rfl
noncomputable def C58_3 : Tab := [(31, c31), (59, c59)]
theorem C58_3_ok : TabOK Try.prog C58_3 := ⟨c31_ok, c59_ok, trivial⟩
noncomputable def LO58_3 : Tab := []
noncomputable def i58_3 : Tm := { sl := [(0, .v (.l (.i .u64))), (1, .v (.l (.i .u64))), (2, .fn 59), (7, .o 0), (13, .v (.i .i64)), (14, .v (.i .i64))], bx := [], bf := [(.i .u64)] }
noncomputable def o58_3 : OT := (.exit 0 { sl := [(7, .o 0)], bx := [], bf := [(.i .u64)] })
noncomputable def T58_3 (a0 : (List Int)) (a1 : (List Int)) (a13 : Int) (a14 : Int) (q0 : (List Int)) : Option ((((List Int) × ((List Int) × (Unit × (Unit × (Int × (Int × Unit)))))) × Unit × ((List Int) × Unit)) ⊕ ((Unit × Unit) × Unit × ((List Int) × Unit))) :=
 (bif (decide ((a14 : Int) < a13)) then ((F31 a0 a14).bind fun y0 => ((F31 a1 a14).bind fun y1 => ((F59 y0.1.1 y1.1.1).bind fun y2 => (bif (decide ((q0).length + ([y2.1.1]).length < lim)) then (some (.inl ((a0, a1, (), (), a13, (IntKind.wrap .i64 (a14 + 1)), ()), (), ((q0 ++ [y2.1.1]), ())))) else none)))) else (some (.inr (((), ()), (), (q0, ())))))
noncomputable def L58_3 (a0 : (List Int)) (a1 : (List Int)) (a13 : Int) (a14 : Int) (q0 : (List Int)) : Option ((Unit × Unit) × Unit × ((List Int) × Unit)) := iter (fun x : (((List Int) × ((List Int) × (Unit × (Unit × (Int × (Int × Unit)))))) × Unit × ((List Int) × Unit)) => T58_3 x.1.1 x.1.2.1 x.1.2.2.2.2.1 x.1.2.2.2.2.2.1 x.2.2.1) 300 ((a0, a1, (), (), a13, a14, ()), (), (q0, ()))
noncomputable def k58_3 : Con := ⟨i58_3, o58_3, fun x => L58_3 x.1.1 x.1.2.1 x.1.2.2.2.2.1 x.1.2.2.2.2.2.1 x.2.2.1⟩
theorem e58_3 (x : i58_3.E) : vround Try.prog C58_3 LO58_3 Try.f58.ntmps l58_3 i58_3 o58_3 x = T58_3 x.1.1 x.1.2.1 x.1.2.2.2.2.1 x.1.2.2.2.2.2.1 x.2.2.1 := by kernel_rfl
theorem k58_3_ok : Con.LOK Try.prog Try.f58.ntmps l58_3 k58_3 := Con.LOK.fuel (loop_ok C58_3_ok (noL (by kernel_rfl)) i58_3 o58_3) 300 (funext e58_3)
noncomputable def C58 : Tab := [(31, c31), (38, c38), (59, c59)]
theorem C58_ok : TabOK Try.prog C58 := ⟨c31_ok, c38_ok, c59_ok, trivial⟩
noncomputable def LO58 : Tab := [(3, k58_3)]
noncomputable def i58 : Tm := { sl := [(0, .v (.l (.i .u64))), (1, .v (.l (.i .u64))), (2, .fn 59)], bx := [], bf := [] }
noncomputable def o58 : OT := (.ret { sl := [(0, .v (.l (.i .u64)))], bx := [], bf := [] })
noncomputable def F58 (a0 : (List Int)) (a1 : (List Int)) : Option (((List Int) × Unit) × Unit × Unit) :=
 ((L58_3 a0 a1 (if ((((a1).length : Nat) : Int) : Int) > (((a0).length : Nat) : Int) then (((a1).length : Nat) : Int) else (((a0).length : Nat) : Int)) 0 ([] : List Int)).bind fun y0 => ((F38 y0.2.2.1).bind fun y1 => (some ((y1.1.1, ()), (), ()))))
noncomputable def c58 : Con := ⟨i58, o58, fun x => F58 x.1.1 x.1.2.1⟩
theorem e58 (x : i58.E) : vfn Try.prog C58 LO58 Try.f58 b58 i58 o58 x = c58.F x := by kernel_rfl
theorem c58_ok : Con.OK Try.prog 58 c58 := (fn_ok C58_ok (fun _ => rfl) Try.func58 body58 (loops_of (l := [l58_3]) (by kernel_rfl) (show LoopsOK Try.prog Try.f58.ntmps [l58_3] LO58 from ⟨k58_3_ok, trivial⟩)) i58 o58).congr fun x => (e58 x).symm
noncomputable def b46 : Code := (.seq (.region 0 (regOf Try.f46 0) false) (.seq (.region 1 (regOf Try.f46 1) false) .ret))
theorem body46 : Try.f46.body = some b46 := by kernel_rfl
noncomputable def C46 : Tab := [(58, c58)]
theorem C46_ok : TabOK Try.prog C46 := ⟨c58_ok, trivial⟩
noncomputable def LO46 : Tab := []
noncomputable def i46 : Tm := { sl := [(0, .v (.l (.i .u64))), (1, .v (.l (.i .u64)))], bx := [], bf := [] }
noncomputable def o46 : OT := (.ret { sl := [(0, .v (.l (.i .u64)))], bx := [], bf := [] })
noncomputable def F46 (a0 : (List Int)) (a1 : (List Int)) : Option (((List Int) × Unit) × Unit × Unit) :=
 ((F58 a0 a1).bind fun y0 => (some ((y0.1.1, ()), (), ())))
noncomputable def c46 : Con := ⟨i46, o46, fun x => F46 x.1.1 x.1.2.1⟩
theorem e46 (x : i46.E) : vfn Try.prog C46 LO46 Try.f46 b46 i46 o46 x = c46.F x := by kernel_rfl
theorem c46_ok : Con.OK Try.prog 46 c46 := (fn_ok C46_ok (fun _ => rfl) Try.func46 body46 (noL (by kernel_rfl)) i46 o46).congr fun x => (e46 x).symm
noncomputable def b70_0 : Code := (.seq (.region 0 (regOf Try.f70 0) false) (.seq (.seq (.region 1 (regOf Try.f70 1) false) (.cond (.tmp 4) (.seq (.region 2 (regOf Try.f70 2) false) (.region 3 (regOf Try.f70 3) false)) .skip)) (.seq (.seq (.region 4 (regOf Try.f70 4) false) (.cond (.tmp 8) (.seq (.region 5 (regOf Try.f70 5) false) (.region 6 (regOf Try.f70 6) false)) .skip)) (.seq (.seq (.region 7 (regOf Try.f70 7) false) (.cond (.tmp 14) (.seq (.region 8 (regOf Try.f70 8) false) (.region 9 (regOf Try.f70 9) false)) .skip)) (.seq (.region 10 (regOf Try.f70 10) false) .ret)))))
theorem body70_0 : Try.f70.body = some b70_0 := by kernel_rfl
noncomputable def C70_0 : Tab := []
theorem C70_0_ok : TabOK Try.prog C70_0 := trivial
noncomputable def LO70_0 : Tab := []
noncomputable def i70_0 : Tm := { sl := [(0, .ki .u64 0)], bx := [], bf := [] }
noncomputable def o70_0 : OT := (.ret { sl := [(0, .v (.i .i64))], bx := [], bf := [] })
noncomputable def F70_0 : Option ((Int × Unit) × Unit × Unit) :=
 (some ((0, ()), (), ()))
noncomputable def c70_0 : Con := ⟨i70_0, o70_0, fun x => F70_0⟩
theorem e70_0 (x : i70_0.E) : vfn Try.prog C70_0 LO70_0 Try.f70 b70_0 i70_0 o70_0 x = F70_0 := by kernel_rfl
theorem c70_0_ok : Con.OK Try.prog 70 c70_0 := (fn_ok C70_0_ok (fun _ => rfl) Try.func70 body70_0 (noL (by kernel_rfl)) i70_0 o70_0).congr fun x => (e70_0 x).symm
noncomputable def b70_1 : Code := (.seq (.region 0 (regOf Try.f70 0) false) (.seq (.seq (.region 1 (regOf Try.f70 1) false) (.cond (.tmp 4) (.seq (.region 2 (regOf Try.f70 2) false) (.region 3 (regOf Try.f70 3) false)) .skip)) (.seq (.seq (.region 4 (regOf Try.f70 4) false) (.cond (.tmp 8) (.seq (.region 5 (regOf Try.f70 5) false) (.region 6 (regOf Try.f70 6) false)) .skip)) (.seq (.seq (.region 7 (regOf Try.f70 7) false) (.cond (.tmp 14) (.seq (.region 8 (regOf Try.f70 8) false) (.region 9 (regOf Try.f70 9) false)) .skip)) (.seq (.region 10 (regOf Try.f70 10) false) .ret)))))
theorem body70_1 : Try.f70.body = some b70_1 := by kernel_rfl
noncomputable def C70_1 : Tab := []
theorem C70_1_ok : TabOK Try.prog C70_1 := trivial
noncomputable def LO70_1 : Tab := []
noncomputable def i70_1 : Tm := { sl := [(0, .ki .u64 1)], bx := [], bf := [] }
noncomputable def o70_1 : OT := (.ret { sl := [(0, .v (.i .i64))], bx := [], bf := [] })
noncomputable def F70_1 : Option ((Int × Unit) × Unit × Unit) :=
 (some ((1, ()), (), ()))
noncomputable def c70_1 : Con := ⟨i70_1, o70_1, fun x => F70_1⟩
theorem e70_1 (x : i70_1.E) : vfn Try.prog C70_1 LO70_1 Try.f70 b70_1 i70_1 o70_1 x = F70_1 := by kernel_rfl
theorem c70_1_ok : Con.OK Try.prog 70 c70_1 := (fn_ok C70_1_ok (fun _ => rfl) Try.func70 body70_1 (noL (by kernel_rfl)) i70_1 o70_1).congr fun x => (e70_1 x).symm
noncomputable def b70_2 : Code := (.seq (.region 0 (regOf Try.f70 0) false) (.seq (.seq (.region 1 (regOf Try.f70 1) false) (.cond (.tmp 4) (.seq (.region 2 (regOf Try.f70 2) false) (.region 3 (regOf Try.f70 3) false)) .skip)) (.seq (.seq (.region 4 (regOf Try.f70 4) false) (.cond (.tmp 8) (.seq (.region 5 (regOf Try.f70 5) false) (.region 6 (regOf Try.f70 6) false)) .skip)) (.seq (.seq (.region 7 (regOf Try.f70 7) false) (.cond (.tmp 14) (.seq (.region 8 (regOf Try.f70 8) false) (.region 9 (regOf Try.f70 9) false)) .skip)) (.seq (.region 10 (regOf Try.f70 10) false) .ret)))))
theorem body70_2 : Try.f70.body = some b70_2 := by kernel_rfl
noncomputable def C70_2 : Tab := []
theorem C70_2_ok : TabOK Try.prog C70_2 := trivial
noncomputable def LO70_2 : Tab := []
noncomputable def i70_2 : Tm := { sl := [(0, .ki .u64 2)], bx := [], bf := [] }
noncomputable def o70_2 : OT := (.ret { sl := [(0, .v (.i .i64))], bx := [], bf := [] })
noncomputable def F70_2 : Option ((Int × Unit) × Unit × Unit) :=
 (some ((2, ()), (), ()))
noncomputable def c70_2 : Con := ⟨i70_2, o70_2, fun x => F70_2⟩
theorem e70_2 (x : i70_2.E) : vfn Try.prog C70_2 LO70_2 Try.f70 b70_2 i70_2 o70_2 x = F70_2 := by kernel_rfl
theorem c70_2_ok : Con.OK Try.prog 70 c70_2 := (fn_ok C70_2_ok (fun _ => rfl) Try.func70 body70_2 (noL (by kernel_rfl)) i70_2 o70_2).congr fun x => (e70_2 x).symm
noncomputable def b70_3 : Code := (.seq (.region 0 (regOf Try.f70 0) false) (.seq (.seq (.region 1 (regOf Try.f70 1) false) (.cond (.tmp 4) (.seq (.region 2 (regOf Try.f70 2) false) (.region 3 (regOf Try.f70 3) false)) .skip)) (.seq (.seq (.region 4 (regOf Try.f70 4) false) (.cond (.tmp 8) (.seq (.region 5 (regOf Try.f70 5) false) (.region 6 (regOf Try.f70 6) false)) .skip)) (.seq (.seq (.region 7 (regOf Try.f70 7) false) (.cond (.tmp 14) (.seq (.region 8 (regOf Try.f70 8) false) (.region 9 (regOf Try.f70 9) false)) .skip)) (.seq (.region 10 (regOf Try.f70 10) false) .ret)))))
theorem body70_3 : Try.f70.body = some b70_3 := by kernel_rfl
noncomputable def C70_3 : Tab := []
theorem C70_3_ok : TabOK Try.prog C70_3 := trivial
noncomputable def LO70_3 : Tab := []
noncomputable def i70_3 : Tm := { sl := [(0, .ki .u64 3)], bx := [], bf := [] }
noncomputable def o70_3 : OT := (.ret { sl := [(0, .v (.i .i64))], bx := [], bf := [] })
noncomputable def F70_3 : Option ((Int × Unit) × Unit × Unit) :=
 (some ((2, ()), (), ()))
noncomputable def c70_3 : Con := ⟨i70_3, o70_3, fun x => F70_3⟩
theorem e70_3 (x : i70_3.E) : vfn Try.prog C70_3 LO70_3 Try.f70 b70_3 i70_3 o70_3 x = F70_3 := by kernel_rfl
theorem c70_3_ok : Con.OK Try.prog 70 c70_3 := (fn_ok C70_3_ok (fun _ => rfl) Try.func70 body70_3 (noL (by kernel_rfl)) i70_3 o70_3).congr fun x => (e70_3 x).symm
noncomputable def b70_4 : Code := (.seq (.region 0 (regOf Try.f70 0) false) (.seq (.seq (.region 1 (regOf Try.f70 1) false) (.cond (.tmp 4) (.seq (.region 2 (regOf Try.f70 2) false) (.region 3 (regOf Try.f70 3) false)) .skip)) (.seq (.seq (.region 4 (regOf Try.f70 4) false) (.cond (.tmp 8) (.seq (.region 5 (regOf Try.f70 5) false) (.region 6 (regOf Try.f70 6) false)) .skip)) (.seq (.seq (.region 7 (regOf Try.f70 7) false) (.cond (.tmp 14) (.seq (.region 8 (regOf Try.f70 8) false) (.region 9 (regOf Try.f70 9) false)) .skip)) (.seq (.region 10 (regOf Try.f70 10) false) .ret)))))
theorem body70_4 : Try.f70.body = some b70_4 := by kernel_rfl
noncomputable def C70_4 : Tab := []
theorem C70_4_ok : TabOK Try.prog C70_4 := trivial
noncomputable def LO70_4 : Tab := []
noncomputable def i70_4 : Tm := { sl := [(0, .ki .u64 4)], bx := [], bf := [] }
noncomputable def o70_4 : OT := (.ret { sl := [(0, .v (.i .i64))], bx := [], bf := [] })
noncomputable def F70_4 : Option ((Int × Unit) × Unit × Unit) :=
 (some ((3, ()), (), ()))
noncomputable def c70_4 : Con := ⟨i70_4, o70_4, fun x => F70_4⟩
theorem e70_4 (x : i70_4.E) : vfn Try.prog C70_4 LO70_4 Try.f70 b70_4 i70_4 o70_4 x = F70_4 := by kernel_rfl
theorem c70_4_ok : Con.OK Try.prog 70 c70_4 := (fn_ok C70_4_ok (fun _ => rfl) Try.func70 body70_4 (noL (by kernel_rfl)) i70_4 o70_4).congr fun x => (e70_4 x).symm
noncomputable def b70_5 : Code := (.seq (.region 0 (regOf Try.f70 0) false) (.seq (.seq (.region 1 (regOf Try.f70 1) false) (.cond (.tmp 4) (.seq (.region 2 (regOf Try.f70 2) false) (.region 3 (regOf Try.f70 3) false)) .skip)) (.seq (.seq (.region 4 (regOf Try.f70 4) false) (.cond (.tmp 8) (.seq (.region 5 (regOf Try.f70 5) false) (.region 6 (regOf Try.f70 6) false)) .skip)) (.seq (.seq (.region 7 (regOf Try.f70 7) false) (.cond (.tmp 14) (.seq (.region 8 (regOf Try.f70 8) false) (.region 9 (regOf Try.f70 9) false)) .skip)) (.seq (.region 10 (regOf Try.f70 10) false) .ret)))))
theorem body70_5 : Try.f70.body = some b70_5 := by kernel_rfl
noncomputable def C70_5 : Tab := []
theorem C70_5_ok : TabOK Try.prog C70_5 := trivial
noncomputable def LO70_5 : Tab := []
noncomputable def i70_5 : Tm := { sl := [(0, .ki .u64 5)], bx := [], bf := [] }
noncomputable def o70_5 : OT := (.ret { sl := [(0, .v (.i .i64))], bx := [], bf := [] })
noncomputable def F70_5 : Option ((Int × Unit) × Unit × Unit) :=
 (some ((3, ()), (), ()))
noncomputable def c70_5 : Con := ⟨i70_5, o70_5, fun x => F70_5⟩
theorem e70_5 (x : i70_5.E) : vfn Try.prog C70_5 LO70_5 Try.f70 b70_5 i70_5 o70_5 x = F70_5 := by kernel_rfl
theorem c70_5_ok : Con.OK Try.prog 70 c70_5 := (fn_ok C70_5_ok (fun _ => rfl) Try.func70 body70_5 (noL (by kernel_rfl)) i70_5 o70_5).congr fun x => (e70_5 x).symm
noncomputable def b70_6 : Code := (.seq (.region 0 (regOf Try.f70 0) false) (.seq (.seq (.region 1 (regOf Try.f70 1) false) (.cond (.tmp 4) (.seq (.region 2 (regOf Try.f70 2) false) (.region 3 (regOf Try.f70 3) false)) .skip)) (.seq (.seq (.region 4 (regOf Try.f70 4) false) (.cond (.tmp 8) (.seq (.region 5 (regOf Try.f70 5) false) (.region 6 (regOf Try.f70 6) false)) .skip)) (.seq (.seq (.region 7 (regOf Try.f70 7) false) (.cond (.tmp 14) (.seq (.region 8 (regOf Try.f70 8) false) (.region 9 (regOf Try.f70 9) false)) .skip)) (.seq (.region 10 (regOf Try.f70 10) false) .ret)))))
theorem body70_6 : Try.f70.body = some b70_6 := by kernel_rfl
noncomputable def C70_6 : Tab := []
theorem C70_6_ok : TabOK Try.prog C70_6 := trivial
noncomputable def LO70_6 : Tab := []
noncomputable def i70_6 : Tm := { sl := [(0, .ki .u64 6)], bx := [], bf := [] }
noncomputable def o70_6 : OT := (.ret { sl := [(0, .v (.i .i64))], bx := [], bf := [] })
noncomputable def F70_6 : Option ((Int × Unit) × Unit × Unit) :=
 (some ((3, ()), (), ()))
noncomputable def c70_6 : Con := ⟨i70_6, o70_6, fun x => F70_6⟩
theorem e70_6 (x : i70_6.E) : vfn Try.prog C70_6 LO70_6 Try.f70 b70_6 i70_6 o70_6 x = F70_6 := by kernel_rfl
theorem c70_6_ok : Con.OK Try.prog 70 c70_6 := (fn_ok C70_6_ok (fun _ => rfl) Try.func70 body70_6 (noL (by kernel_rfl)) i70_6 o70_6).congr fun x => (e70_6 x).symm
noncomputable def b70_7 : Code := (.seq (.region 0 (regOf Try.f70 0) false) (.seq (.seq (.region 1 (regOf Try.f70 1) false) (.cond (.tmp 4) (.seq (.region 2 (regOf Try.f70 2) false) (.region 3 (regOf Try.f70 3) false)) .skip)) (.seq (.seq (.region 4 (regOf Try.f70 4) false) (.cond (.tmp 8) (.seq (.region 5 (regOf Try.f70 5) false) (.region 6 (regOf Try.f70 6) false)) .skip)) (.seq (.seq (.region 7 (regOf Try.f70 7) false) (.cond (.tmp 14) (.seq (.region 8 (regOf Try.f70 8) false) (.region 9 (regOf Try.f70 9) false)) .skip)) (.seq (.region 10 (regOf Try.f70 10) false) .ret)))))
theorem body70_7 : Try.f70.body = some b70_7 := by kernel_rfl
noncomputable def C70_7 : Tab := []
theorem C70_7_ok : TabOK Try.prog C70_7 := trivial
noncomputable def LO70_7 : Tab := []
noncomputable def i70_7 : Tm := { sl := [(0, .ki .u64 7)], bx := [], bf := [] }
noncomputable def o70_7 : OT := (.ret { sl := [(0, .v (.i .i64))], bx := [], bf := [] })
noncomputable def F70_7 : Option ((Int × Unit) × Unit × Unit) :=
 (some ((3, ()), (), ()))
noncomputable def c70_7 : Con := ⟨i70_7, o70_7, fun x => F70_7⟩
theorem e70_7 (x : i70_7.E) : vfn Try.prog C70_7 LO70_7 Try.f70 b70_7 i70_7 o70_7 x = F70_7 := by kernel_rfl
theorem c70_7_ok : Con.OK Try.prog 70 c70_7 := (fn_ok C70_7_ok (fun _ => rfl) Try.func70 body70_7 (noL (by kernel_rfl)) i70_7 o70_7).congr fun x => (e70_7 x).symm
noncomputable def b70_8 : Code := (.seq (.region 0 (regOf Try.f70 0) false) (.seq (.seq (.region 1 (regOf Try.f70 1) false) (.cond (.tmp 4) (.seq (.region 2 (regOf Try.f70 2) false) (.region 3 (regOf Try.f70 3) false)) .skip)) (.seq (.seq (.region 4 (regOf Try.f70 4) false) (.cond (.tmp 8) (.seq (.region 5 (regOf Try.f70 5) false) (.region 6 (regOf Try.f70 6) false)) .skip)) (.seq (.seq (.region 7 (regOf Try.f70 7) false) (.cond (.tmp 14) (.seq (.region 8 (regOf Try.f70 8) false) (.region 9 (regOf Try.f70 9) false)) .skip)) (.seq (.region 10 (regOf Try.f70 10) false) .ret)))))
theorem body70_8 : Try.f70.body = some b70_8 := by kernel_rfl
noncomputable def C70_8 : Tab := []
theorem C70_8_ok : TabOK Try.prog C70_8 := trivial
noncomputable def LO70_8 : Tab := []
noncomputable def i70_8 : Tm := { sl := [(0, .ki .u64 8)], bx := [], bf := [] }
noncomputable def o70_8 : OT := (.ret { sl := [(0, .v (.i .i64))], bx := [], bf := [] })
noncomputable def F70_8 : Option ((Int × Unit) × Unit × Unit) :=
 (some ((4, ()), (), ()))
noncomputable def c70_8 : Con := ⟨i70_8, o70_8, fun x => F70_8⟩
theorem e70_8 (x : i70_8.E) : vfn Try.prog C70_8 LO70_8 Try.f70 b70_8 i70_8 o70_8 x = F70_8 := by kernel_rfl
theorem c70_8_ok : Con.OK Try.prog 70 c70_8 := (fn_ok C70_8_ok (fun _ => rfl) Try.func70 body70_8 (noL (by kernel_rfl)) i70_8 o70_8).congr fun x => (e70_8 x).symm
noncomputable def b70_9 : Code := (.seq (.region 0 (regOf Try.f70 0) false) (.seq (.seq (.region 1 (regOf Try.f70 1) false) (.cond (.tmp 4) (.seq (.region 2 (regOf Try.f70 2) false) (.region 3 (regOf Try.f70 3) false)) .skip)) (.seq (.seq (.region 4 (regOf Try.f70 4) false) (.cond (.tmp 8) (.seq (.region 5 (regOf Try.f70 5) false) (.region 6 (regOf Try.f70 6) false)) .skip)) (.seq (.seq (.region 7 (regOf Try.f70 7) false) (.cond (.tmp 14) (.seq (.region 8 (regOf Try.f70 8) false) (.region 9 (regOf Try.f70 9) false)) .skip)) (.seq (.region 10 (regOf Try.f70 10) false) .ret)))))
theorem body70_9 : Try.f70.body = some b70_9 := by kernel_rfl
noncomputable def C70_9 : Tab := []
theorem C70_9_ok : TabOK Try.prog C70_9 := trivial
noncomputable def LO70_9 : Tab := []
noncomputable def i70_9 : Tm := { sl := [(0, .ki .u64 9)], bx := [], bf := [] }
noncomputable def o70_9 : OT := (.ret { sl := [(0, .v (.i .i64))], bx := [], bf := [] })
noncomputable def F70_9 : Option ((Int × Unit) × Unit × Unit) :=
 (some ((4, ()), (), ()))
noncomputable def c70_9 : Con := ⟨i70_9, o70_9, fun x => F70_9⟩
theorem e70_9 (x : i70_9.E) : vfn Try.prog C70_9 LO70_9 Try.f70 b70_9 i70_9 o70_9 x = F70_9 := by kernel_rfl
theorem c70_9_ok : Con.OK Try.prog 70 c70_9 := (fn_ok C70_9_ok (fun _ => rfl) Try.func70 body70_9 (noL (by kernel_rfl)) i70_9 o70_9).congr fun x => (e70_9 x).symm
noncomputable def b70_10 : Code := (.seq (.region 0 (regOf Try.f70 0) false) (.seq (.seq (.region 1 (regOf Try.f70 1) false) (.cond (.tmp 4) (.seq (.region 2 (regOf Try.f70 2) false) (.region 3 (regOf Try.f70 3) false)) .skip)) (.seq (.seq (.region 4 (regOf Try.f70 4) false) (.cond (.tmp 8) (.seq (.region 5 (regOf Try.f70 5) false) (.region 6 (regOf Try.f70 6) false)) .skip)) (.seq (.seq (.region 7 (regOf Try.f70 7) false) (.cond (.tmp 14) (.seq (.region 8 (regOf Try.f70 8) false) (.region 9 (regOf Try.f70 9) false)) .skip)) (.seq (.region 10 (regOf Try.f70 10) false) .ret)))))
theorem body70_10 : Try.f70.body = some b70_10 := by kernel_rfl
noncomputable def C70_10 : Tab := []
theorem C70_10_ok : TabOK Try.prog C70_10 := trivial
noncomputable def LO70_10 : Tab := []
noncomputable def i70_10 : Tm := { sl := [(0, .ki .u64 10)], bx := [], bf := [] }
noncomputable def o70_10 : OT := (.ret { sl := [(0, .v (.i .i64))], bx := [], bf := [] })
noncomputable def F70_10 : Option ((Int × Unit) × Unit × Unit) :=
 (some ((4, ()), (), ()))
noncomputable def c70_10 : Con := ⟨i70_10, o70_10, fun x => F70_10⟩
theorem e70_10 (x : i70_10.E) : vfn Try.prog C70_10 LO70_10 Try.f70 b70_10 i70_10 o70_10 x = F70_10 := by kernel_rfl
theorem c70_10_ok : Con.OK Try.prog 70 c70_10 := (fn_ok C70_10_ok (fun _ => rfl) Try.func70 body70_10 (noL (by kernel_rfl)) i70_10 o70_10).congr fun x => (e70_10 x).symm
noncomputable def b70_11 : Code := (.seq (.region 0 (regOf Try.f70 0) false) (.seq (.seq (.region 1 (regOf Try.f70 1) false) (.cond (.tmp 4) (.seq (.region 2 (regOf Try.f70 2) false) (.region 3 (regOf Try.f70 3) false)) .skip)) (.seq (.seq (.region 4 (regOf Try.f70 4) false) (.cond (.tmp 8) (.seq (.region 5 (regOf Try.f70 5) false) (.region 6 (regOf Try.f70 6) false)) .skip)) (.seq (.seq (.region 7 (regOf Try.f70 7) false) (.cond (.tmp 14) (.seq (.region 8 (regOf Try.f70 8) false) (.region 9 (regOf Try.f70 9) false)) .skip)) (.seq (.region 10 (regOf Try.f70 10) false) .ret)))))
theorem body70_11 : Try.f70.body = some b70_11 := by kernel_rfl
noncomputable def C70_11 : Tab := []
theorem C70_11_ok : TabOK Try.prog C70_11 := trivial
noncomputable def LO70_11 : Tab := []
noncomputable def i70_11 : Tm := { sl := [(0, .ki .u64 11)], bx := [], bf := [] }
noncomputable def o70_11 : OT := (.ret { sl := [(0, .v (.i .i64))], bx := [], bf := [] })
noncomputable def F70_11 : Option ((Int × Unit) × Unit × Unit) :=
 (some ((4, ()), (), ()))
noncomputable def c70_11 : Con := ⟨i70_11, o70_11, fun x => F70_11⟩
theorem e70_11 (x : i70_11.E) : vfn Try.prog C70_11 LO70_11 Try.f70 b70_11 i70_11 o70_11 x = F70_11 := by kernel_rfl
theorem c70_11_ok : Con.OK Try.prog 70 c70_11 := (fn_ok C70_11_ok (fun _ => rfl) Try.func70 body70_11 (noL (by kernel_rfl)) i70_11 o70_11).congr fun x => (e70_11 x).symm
noncomputable def b70_12 : Code := (.seq (.region 0 (regOf Try.f70 0) false) (.seq (.seq (.region 1 (regOf Try.f70 1) false) (.cond (.tmp 4) (.seq (.region 2 (regOf Try.f70 2) false) (.region 3 (regOf Try.f70 3) false)) .skip)) (.seq (.seq (.region 4 (regOf Try.f70 4) false) (.cond (.tmp 8) (.seq (.region 5 (regOf Try.f70 5) false) (.region 6 (regOf Try.f70 6) false)) .skip)) (.seq (.seq (.region 7 (regOf Try.f70 7) false) (.cond (.tmp 14) (.seq (.region 8 (regOf Try.f70 8) false) (.region 9 (regOf Try.f70 9) false)) .skip)) (.seq (.region 10 (regOf Try.f70 10) false) .ret)))))
theorem body70_12 : Try.f70.body = some b70_12 := by kernel_rfl
noncomputable def C70_12 : Tab := []
theorem C70_12_ok : TabOK Try.prog C70_12 := trivial
noncomputable def LO70_12 : Tab := []
noncomputable def i70_12 : Tm := { sl := [(0, .ki .u64 12)], bx := [], bf := [] }
noncomputable def o70_12 : OT := (.ret { sl := [(0, .v (.i .i64))], bx := [], bf := [] })
noncomputable def F70_12 : Option ((Int × Unit) × Unit × Unit) :=
 (some ((4, ()), (), ()))
noncomputable def c70_12 : Con := ⟨i70_12, o70_12, fun x => F70_12⟩
theorem e70_12 (x : i70_12.E) : vfn Try.prog C70_12 LO70_12 Try.f70 b70_12 i70_12 o70_12 x = F70_12 := by kernel_rfl
theorem c70_12_ok : Con.OK Try.prog 70 c70_12 := (fn_ok C70_12_ok (fun _ => rfl) Try.func70 body70_12 (noL (by kernel_rfl)) i70_12 o70_12).congr fun x => (e70_12 x).symm
noncomputable def b50 : Code := (.seq (.region 0 (regOf Try.f50 0) false) (.seq (.cond (.const (Value.bool false)) (.seq (.region 1 (regOf Try.f50 1) false) .ret) .skip) (.seq (.region 2 (regOf Try.f50 2) false) .ret)))
theorem body50 : Try.f50.body = some b50 := by kernel_rfl
noncomputable def C50 : Tab := [(70, c70_0), (70, c70_1), (70, c70_10), (70, c70_11), (70, c70_12), (70, c70_2), (70, c70_3), (70, c70_4), (70, c70_5), (70, c70_6), (70, c70_7), (70, c70_8), (70, c70_9), (1001300006, cHot)]
theorem C50_ok : TabOK Try.prog C50 := ⟨c70_0_ok, c70_1_ok, c70_10_ok, c70_11_ok, c70_12_ok, c70_2_ok, c70_3_ok, c70_4_ok, c70_5_ok, c70_6_ok, c70_7_ok, c70_8_ok, c70_9_ok, cHot_ok, trivial⟩
noncomputable def LO50 : Tab := []
noncomputable def i50 : Tm := { sl := [(0, .v (.i .u64))], bx := [], bf := [] }
noncomputable def o50 : OT := (.ret { sl := [(0, .v (.i .i64))], bx := [], bf := [] })
noncomputable def F50 (a0 : Int) : Option ((Int × Unit) × Unit × Unit) :=
 (bif (decide ((a0 : Int) = 0)) then ((F70_0).bind fun y0 => (some ((y0.1.1, ()), (), ()))) else (bif (decide ((a0 : Int) = 1)) then ((F70_1).bind fun y1 => (some ((y1.1.1, ()), (), ()))) else (bif (decide ((a0 : Int) = 2)) then ((F70_2).bind fun y2 => (some ((y2.1.1, ()), (), ()))) else (bif (decide ((a0 : Int) = 3)) then ((F70_3).bind fun y3 => (some ((y3.1.1, ()), (), ()))) else (bif (decide ((a0 : Int) = 4)) then ((F70_4).bind fun y4 => (some ((y4.1.1, ()), (), ()))) else (bif (decide ((a0 : Int) = 5)) then ((F70_5).bind fun y5 => (some ((y5.1.1, ()), (), ()))) else (bif (decide ((a0 : Int) = 6)) then ((F70_6).bind fun y6 => (some ((y6.1.1, ()), (), ()))) else (bif (decide ((a0 : Int) = 7)) then ((F70_7).bind fun y7 => (some ((y7.1.1, ()), (), ()))) else (bif (decide ((a0 : Int) = 8)) then ((F70_8).bind fun y8 => (some ((y8.1.1, ()), (), ()))) else (bif (decide ((a0 : Int) = 9)) then ((F70_9).bind fun y9 => (some ((y9.1.1, ()), (), ()))) else (bif (decide ((a0 : Int) = 10)) then ((F70_10).bind fun y10 => (some ((y10.1.1, ()), (), ()))) else (bif (decide ((a0 : Int) = 11)) then ((F70_11).bind fun y11 => (some ((y11.1.1, ()), (), ()))) else (bif (decide ((a0 : Int) = 12)) then ((F70_12).bind fun y12 => (some ((y12.1.1, ()), (), ()))) else none)))))))))))))
noncomputable def c50 : Con := ⟨i50, o50, fun x => F50 x.1.1⟩
theorem e50 (x : i50.E) : vfn Try.prog C50 LO50 Try.f50 b50 i50 o50 x = c50.F x := by kernel_rfl
theorem c50_ok : Con.OK Try.prog 50 c50 := (fn_ok C50_ok (fun _ => rfl) Try.func50 body50 (noL (by kernel_rfl)) i50 o50).congr fun x => (e50 x).symm
noncomputable def b33 : Code := (.seq (.region 0 (regOf Try.f33 0) false) (.seq (.region 1 (regOf Try.f33 1) true) .ret))
theorem body33 : Try.f33.body = some b33 := by kernel_rfl
noncomputable def C33 : Tab := [(34, c34), (35, c35)]
theorem C33_ok : TabOK Try.prog C33 := ⟨c34_ok, c35_ok, trivial⟩
noncomputable def LO33 : Tab := []
noncomputable def i33 : Tm := { sl := [(0, .v tDEv), (1, .v tDEv)], bx := [], bf := [] }
noncomputable def o33 : OT := (.ret { sl := [(0, .v (.i .i64))], bx := [], bf := [] })
noncomputable def F33 (a0 : DEv) (a1 : DEv) : Option ((Int × Unit) × Unit × Unit) :=
 ((F35 a0).bind fun y0 => ((F35 a1).bind fun y1 => ((F34 y0.1.1 y1.1.1).bind fun y2 => (some ((y2.1.1, ()), (), ())))))
noncomputable def c33 : Con := ⟨i33, o33, fun x => F33 x.1.1 x.1.2.1⟩
theorem e33 (x : i33.E) : vfn Try.prog C33 LO33 Try.f33 b33 i33 o33 x = c33.F x := by kernel_rfl
theorem c33_ok : Con.OK Try.prog 33 c33 := (fn_ok C33_ok (fun _ => rfl) Try.func33 body33 (noL (by kernel_rfl)) i33 o33).congr fun x => (e33 x).symm
noncomputable def l61_4 : Code := (.seq (.seq (.region 4 (regOf Try.f61 4) true) (.cond (.tmp 34) .skip (.exit 2))) (.seq (.block 3 (.region 6 (regOf Try.f61 6) true)) (.region 5 (regOf Try.f61 5) false)))
noncomputable def l61_1 : Code := (.seq (.seq (.region 1 (regOf Try.f61 1) false) (.cond (.tmp 14) .skip (.exit 0))) (.seq (.block 1 (.seq (.region 3 (regOf Try.f61 3) false) (.block 2 (.loop l61_4)))) (.region 2 (regOf Try.f61 2) false)))
noncomputable def b61 : Code := (.seq (.region 0 (regOf Try.f61 0) false) (.block 0 (.loop l61_1)))
theorem body61 : Try.f61.body = some b61 := by kernel_rfl
noncomputable def C61_4 : Tab := [(33, c33)]
theorem C61_4_ok : TabOK Try.prog C61_4 := ⟨c33_ok, trivial⟩
noncomputable def LO61_4 : Tab := []
noncomputable def i61_4 : Tm := { sl := [(0, .m tDEv 0), (1, .v (.i .i64)), (2, .v (.i .i64)), (3, .fn 33), (8, .v (.i .i64)), (9, .v (.i .i64))], bx := [[.r tDEv]], bf := [] }
noncomputable def o61_4 : OT := (.exit 2 { sl := [], bx := [[.r tDEv]], bf := [] })
noncomputable def T61_4 (a1 : Int) (a2 : Int) (a8 : Int) (a9 : Int) (b0_0 : (List DEv)) : Option (((Unit × (Int × (Int × (Unit × (Int × (Int × Unit)))))) × (((List DEv) × Unit) × Unit) × Unit) ⊕ (Unit × (((List DEv) × Unit) × Unit) × Unit)) :=
 (bif (decide ((a9 : Int) > a1)) then (bif (decide (0 ≤ (a9 : Int) ∧ (a9 : Int) < (((b0_0).length : Nat) : Int))) then (bif (decide ((a9 : Int).toNat < (b0_0).length)) then (bif (decide (0 ≤ ((IntKind.wrap .i64 (a9 - 1)) : Int) ∧ ((IntKind.wrap .i64 (a9 - 1)) : Int) < (((b0_0).length : Nat) : Int))) then (bif (decide (((IntKind.wrap .i64 (a9 - 1)) : Int).toNat < (b0_0).length)) then ((F33 (((b0_0).getD (a9 : Int).toNat ((0 : Int), ((0 : Int), ((0 : Int), ((0 : Int), (ByteArray.empty, ([], ((0 : Nat), ((0 : Int), ()))))))))).1, (((b0_0).getD (a9 : Int).toNat ((0 : Int), ((0 : Int), ((0 : Int), ((0 : Int), (ByteArray.empty, ([], ((0 : Nat), ((0 : Int), ()))))))))).2.1, (((b0_0).getD (a9 : Int).toNat ((0 : Int), ((0 : Int), ((0 : Int), ((0 : Int), (ByteArray.empty, ([], ((0 : Nat), ((0 : Int), ()))))))))).2.2.1, (((b0_0).getD (a9 : Int).toNat ((0 : Int), ((0 : Int), ((0 : Int), ((0 : Int), (ByteArray.empty, ([], ((0 : Nat), ((0 : Int), ()))))))))).2.2.2.1, (((b0_0).getD (a9 : Int).toNat ((0 : Int), ((0 : Int), ((0 : Int), ((0 : Int), (ByteArray.empty, ([], ((0 : Nat), ((0 : Int), ()))))))))).2.2.2.2.1, (((b0_0).getD (a9 : Int).toNat ((0 : Int), ((0 : Int), ((0 : Int), ((0 : Int), (ByteArray.empty, ([], ((0 : Nat), ((0 : Int), ()))))))))).2.2.2.2.2.1, (((b0_0).getD (a9 : Int).toNat ((0 : Int), ((0 : Int), ((0 : Int), ((0 : Int), (ByteArray.empty, ([], ((0 : Nat), ((0 : Int), ()))))))))).2.2.2.2.2.2.1, (((b0_0).getD (a9 : Int).toNat ((0 : Int), ((0 : Int), ((0 : Int), ((0 : Int), (ByteArray.empty, ([], ((0 : Nat), ((0 : Int), ()))))))))).2.2.2.2.2.2.2.1, ())))))))) (((b0_0).getD ((IntKind.wrap .i64 (a9 - 1)) : Int).toNat ((0 : Int), ((0 : Int), ((0 : Int), ((0 : Int), (ByteArray.empty, ([], ((0 : Nat), ((0 : Int), ()))))))))).1, (((b0_0).getD ((IntKind.wrap .i64 (a9 - 1)) : Int).toNat ((0 : Int), ((0 : Int), ((0 : Int), ((0 : Int), (ByteArray.empty, ([], ((0 : Nat), ((0 : Int), ()))))))))).2.1, (((b0_0).getD ((IntKind.wrap .i64 (a9 - 1)) : Int).toNat ((0 : Int), ((0 : Int), ((0 : Int), ((0 : Int), (ByteArray.empty, ([], ((0 : Nat), ((0 : Int), ()))))))))).2.2.1, (((b0_0).getD ((IntKind.wrap .i64 (a9 - 1)) : Int).toNat ((0 : Int), ((0 : Int), ((0 : Int), ((0 : Int), (ByteArray.empty, ([], ((0 : Nat), ((0 : Int), ()))))))))).2.2.2.1, (((b0_0).getD ((IntKind.wrap .i64 (a9 - 1)) : Int).toNat ((0 : Int), ((0 : Int), ((0 : Int), ((0 : Int), (ByteArray.empty, ([], ((0 : Nat), ((0 : Int), ()))))))))).2.2.2.2.1, (((b0_0).getD ((IntKind.wrap .i64 (a9 - 1)) : Int).toNat ((0 : Int), ((0 : Int), ((0 : Int), ((0 : Int), (ByteArray.empty, ([], ((0 : Nat), ((0 : Int), ()))))))))).2.2.2.2.2.1, (((b0_0).getD ((IntKind.wrap .i64 (a9 - 1)) : Int).toNat ((0 : Int), ((0 : Int), ((0 : Int), ((0 : Int), (ByteArray.empty, ([], ((0 : Nat), ((0 : Int), ()))))))))).2.2.2.2.2.2.1, (((b0_0).getD ((IntKind.wrap .i64 (a9 - 1)) : Int).toNat ((0 : Int), ((0 : Int), ((0 : Int), ((0 : Int), (ByteArray.empty, ([], ((0 : Nat), ((0 : Int), ()))))))))).2.2.2.2.2.2.2.1, ()))))))))).bind fun y0 => (bif (decide ((y0.1.1 : Int) < 0)) then (bif (decide (0 ≤ ((IntKind.wrap .i64 (a9 - 1)) : Int) ∧ ((IntKind.wrap .i64 (a9 - 1)) : Int) < (((b0_0).length : Nat) : Int))) then (bif (decide (((IntKind.wrap .i64 (a9 - 1)) : Int).toNat < (b0_0).length)) then (bif (decide (0 ≤ (a9 : Int) ∧ (a9 : Int) < (((b0_0).length : Nat) : Int))) then (bif (decide ((a9 : Int).toNat < (b0_0).length)) then (bif (decide (0 ≤ (a9 : Int) ∧ (a9 : Int) < (((b0_0).length : Nat) : Int))) then (bif (decide ((a9 : Int).toNat < (b0_0).length)) then (bif (decide (0 ≤ ((IntKind.wrap .i64 (a9 - 1)) : Int) ∧ ((IntKind.wrap .i64 (a9 - 1)) : Int) < (((((b0_0).set (a9 : Int).toNat (((b0_0).getD ((IntKind.wrap .i64 (a9 - 1)) : Int).toNat ((0 : Int), ((0 : Int), ((0 : Int), ((0 : Int), (ByteArray.empty, ([], ((0 : Nat), ((0 : Int), ()))))))))).1, (((b0_0).getD ((IntKind.wrap .i64 (a9 - 1)) : Int).toNat ((0 : Int), ((0 : Int), ((0 : Int), ((0 : Int), (ByteArray.empty, ([], ((0 : Nat), ((0 : Int), ()))))))))).2.1, (((b0_0).getD ((IntKind.wrap .i64 (a9 - 1)) : Int).toNat ((0 : Int), ((0 : Int), ((0 : Int), ((0 : Int), (ByteArray.empty, ([], ((0 : Nat), ((0 : Int), ()))))))))).2.2.1, (((b0_0).getD ((IntKind.wrap .i64 (a9 - 1)) : Int).toNat ((0 : Int), ((0 : Int), ((0 : Int), ((0 : Int), (ByteArray.empty, ([], ((0 : Nat), ((0 : Int), ()))))))))).2.2.2.1, (((b0_0).getD ((IntKind.wrap .i64 (a9 - 1)) : Int).toNat ((0 : Int), ((0 : Int), ((0 : Int), ((0 : Int), (ByteArray.empty, ([], ((0 : Nat), ((0 : Int), ()))))))))).2.2.2.2.1, (((b0_0).getD ((IntKind.wrap .i64 (a9 - 1)) : Int).toNat ((0 : Int), ((0 : Int), ((0 : Int), ((0 : Int), (ByteArray.empty, ([], ((0 : Nat), ((0 : Int), ()))))))))).2.2.2.2.2.1, (((b0_0).getD ((IntKind.wrap .i64 (a9 - 1)) : Int).toNat ((0 : Int), ((0 : Int), ((0 : Int), ((0 : Int), (ByteArray.empty, ([], ((0 : Nat), ((0 : Int), ()))))))))).2.2.2.2.2.2.1, (((b0_0).getD ((IntKind.wrap .i64 (a9 - 1)) : Int).toNat ((0 : Int), ((0 : Int), ((0 : Int), ((0 : Int), (ByteArray.empty, ([], ((0 : Nat), ((0 : Int), ()))))))))).2.2.2.2.2.2.2.1, ())))))))))).length : Nat) : Int))) then (bif (decide (((IntKind.wrap .i64 (a9 - 1)) : Int).toNat < (((b0_0).set (a9 : Int).toNat (((b0_0).getD ((IntKind.wrap .i64 (a9 - 1)) : Int).toNat ((0 : Int), ((0 : Int), ((0 : Int), ((0 : Int), (ByteArray.empty, ([], ((0 : Nat), ((0 : Int), ()))))))))).1, (((b0_0).getD ((IntKind.wrap .i64 (a9 - 1)) : Int).toNat ((0 : Int), ((0 : Int), ((0 : Int), ((0 : Int), (ByteArray.empty, ([], ((0 : Nat), ((0 : Int), ()))))))))).2.1, (((b0_0).getD ((IntKind.wrap .i64 (a9 - 1)) : Int).toNat ((0 : Int), ((0 : Int), ((0 : Int), ((0 : Int), (ByteArray.empty, ([], ((0 : Nat), ((0 : Int), ()))))))))).2.2.1, (((b0_0).getD ((IntKind.wrap .i64 (a9 - 1)) : Int).toNat ((0 : Int), ((0 : Int), ((0 : Int), ((0 : Int), (ByteArray.empty, ([], ((0 : Nat), ((0 : Int), ()))))))))).2.2.2.1, (((b0_0).getD ((IntKind.wrap .i64 (a9 - 1)) : Int).toNat ((0 : Int), ((0 : Int), ((0 : Int), ((0 : Int), (ByteArray.empty, ([], ((0 : Nat), ((0 : Int), ()))))))))).2.2.2.2.1, (((b0_0).getD ((IntKind.wrap .i64 (a9 - 1)) : Int).toNat ((0 : Int), ((0 : Int), ((0 : Int), ((0 : Int), (ByteArray.empty, ([], ((0 : Nat), ((0 : Int), ()))))))))).2.2.2.2.2.1, (((b0_0).getD ((IntKind.wrap .i64 (a9 - 1)) : Int).toNat ((0 : Int), ((0 : Int), ((0 : Int), ((0 : Int), (ByteArray.empty, ([], ((0 : Nat), ((0 : Int), ()))))))))).2.2.2.2.2.2.1, (((b0_0).getD ((IntKind.wrap .i64 (a9 - 1)) : Int).toNat ((0 : Int), ((0 : Int), ((0 : Int), ((0 : Int), (ByteArray.empty, ([], ((0 : Nat), ((0 : Int), ()))))))))).2.2.2.2.2.2.2.1, ())))))))))).length)) then (some (.inl (((), a1, a2, (), a8, (IntKind.wrap .i64 (a9 - 1)), ()), ((((((b0_0).set (a9 : Int).toNat (((b0_0).getD ((IntKind.wrap .i64 (a9 - 1)) : Int).toNat ((0 : Int), ((0 : Int), ((0 : Int), ((0 : Int), (ByteArray.empty, ([], ((0 : Nat), ((0 : Int), ()))))))))).1, (((b0_0).getD ((IntKind.wrap .i64 (a9 - 1)) : Int).toNat ((0 : Int), ((0 : Int), ((0 : Int), ((0 : Int), (ByteArray.empty, ([], ((0 : Nat), ((0 : Int), ()))))))))).2.1, (((b0_0).getD ((IntKind.wrap .i64 (a9 - 1)) : Int).toNat ((0 : Int), ((0 : Int), ((0 : Int), ((0 : Int), (ByteArray.empty, ([], ((0 : Nat), ((0 : Int), ()))))))))).2.2.1, (((b0_0).getD ((IntKind.wrap .i64 (a9 - 1)) : Int).toNat ((0 : Int), ((0 : Int), ((0 : Int), ((0 : Int), (ByteArray.empty, ([], ((0 : Nat), ((0 : Int), ()))))))))).2.2.2.1, (((b0_0).getD ((IntKind.wrap .i64 (a9 - 1)) : Int).toNat ((0 : Int), ((0 : Int), ((0 : Int), ((0 : Int), (ByteArray.empty, ([], ((0 : Nat), ((0 : Int), ()))))))))).2.2.2.2.1, (((b0_0).getD ((IntKind.wrap .i64 (a9 - 1)) : Int).toNat ((0 : Int), ((0 : Int), ((0 : Int), ((0 : Int), (ByteArray.empty, ([], ((0 : Nat), ((0 : Int), ()))))))))).2.2.2.2.2.1, (((b0_0).getD ((IntKind.wrap .i64 (a9 - 1)) : Int).toNat ((0 : Int), ((0 : Int), ((0 : Int), ((0 : Int), (ByteArray.empty, ([], ((0 : Nat), ((0 : Int), ()))))))))).2.2.2.2.2.2.1, (((b0_0).getD ((IntKind.wrap .i64 (a9 - 1)) : Int).toNat ((0 : Int), ((0 : Int), ((0 : Int), ((0 : Int), (ByteArray.empty, ([], ((0 : Nat), ((0 : Int), ()))))))))).2.2.2.2.2.2.2.1, ())))))))))).set ((IntKind.wrap .i64 (a9 - 1)) : Int).toNat (((b0_0).getD (a9 : Int).toNat ((0 : Int), ((0 : Int), ((0 : Int), ((0 : Int), (ByteArray.empty, ([], ((0 : Nat), ((0 : Int), ()))))))))).1, (((b0_0).getD (a9 : Int).toNat ((0 : Int), ((0 : Int), ((0 : Int), ((0 : Int), (ByteArray.empty, ([], ((0 : Nat), ((0 : Int), ()))))))))).2.1, (((b0_0).getD (a9 : Int).toNat ((0 : Int), ((0 : Int), ((0 : Int), ((0 : Int), (ByteArray.empty, ([], ((0 : Nat), ((0 : Int), ()))))))))).2.2.1, (((b0_0).getD (a9 : Int).toNat ((0 : Int), ((0 : Int), ((0 : Int), ((0 : Int), (ByteArray.empty, ([], ((0 : Nat), ((0 : Int), ()))))))))).2.2.2.1, (((b0_0).getD (a9 : Int).toNat ((0 : Int), ((0 : Int), ((0 : Int), ((0 : Int), (ByteArray.empty, ([], ((0 : Nat), ((0 : Int), ()))))))))).2.2.2.2.1, (((b0_0).getD (a9 : Int).toNat ((0 : Int), ((0 : Int), ((0 : Int), ((0 : Int), (ByteArray.empty, ([], ((0 : Nat), ((0 : Int), ()))))))))).2.2.2.2.2.1, (((b0_0).getD (a9 : Int).toNat ((0 : Int), ((0 : Int), ((0 : Int), ((0 : Int), (ByteArray.empty, ([], ((0 : Nat), ((0 : Int), ()))))))))).2.2.2.2.2.2.1, (((b0_0).getD (a9 : Int).toNat ((0 : Int), ((0 : Int), ((0 : Int), ((0 : Int), (ByteArray.empty, ([], ((0 : Nat), ((0 : Int), ()))))))))).2.2.2.2.2.2.2.1, ()))))))))), ()), ()), ()))) else none) else none) else none) else none) else none) else none) else none) else none) else (some (.inr ((), ((b0_0, ()), ()), ()))))) else none) else none) else none) else none) else (some (.inr ((), ((b0_0, ()), ()), ()))))
noncomputable def L61_4 (a1 : Int) (a2 : Int) (a8 : Int) (a9 : Int) (b0_0 : (List DEv)) : Option (Unit × (((List DEv) × Unit) × Unit) × Unit) := iter (fun x : ((Unit × (Int × (Int × (Unit × (Int × (Int × Unit)))))) × (((List DEv) × Unit) × Unit) × Unit) => T61_4 x.1.2.1 x.1.2.2.1 x.1.2.2.2.2.1 x.1.2.2.2.2.2.1 x.2.1.1.1) 300 (((), a1, a2, (), a8, a9, ()), ((b0_0, ()), ()), ())
noncomputable def k61_4 : Con := ⟨i61_4, o61_4, fun x => L61_4 x.1.2.1 x.1.2.2.1 x.1.2.2.2.2.1 x.1.2.2.2.2.2.1 x.2.1.1.1⟩
theorem e61_4 (x : i61_4.E) : vround Try.prog C61_4 LO61_4 Try.f61.ntmps l61_4 i61_4 o61_4 x = T61_4 x.1.2.1 x.1.2.2.1 x.1.2.2.2.2.1 x.1.2.2.2.2.2.1 x.2.1.1.1 := by kernel_rfl
theorem k61_4_ok : Con.LOK Try.prog Try.f61.ntmps l61_4 k61_4 := Con.LOK.fuel (loop_ok C61_4_ok (noL (by kernel_rfl)) i61_4 o61_4) 300 (funext e61_4)
noncomputable def C61_1 : Tab := []
theorem C61_1_ok : TabOK Try.prog C61_1 := trivial
noncomputable def LO61_1 : Tab := [(4, k61_4)]
noncomputable def i61_1 : Tm := { sl := [(0, .m tDEv 0), (1, .v (.i .i64)), (2, .v (.i .i64)), (3, .fn 33), (8, .v (.i .i64))], bx := [[.r tDEv]], bf := [] }
noncomputable def o61_1 : OT := (.exit 0 { sl := [], bx := [[.r tDEv]], bf := [] })
noncomputable def T61_1 (a1 : Int) (a2 : Int) (a8 : Int) (b0_0 : (List DEv)) : Option (((Unit × (Int × (Int × (Unit × (Int × Unit))))) × (((List DEv) × Unit) × Unit) × Unit) ⊕ (Unit × (((List DEv) × Unit) × Unit) × Unit)) :=
 (bif (decide ((a8 : Int) < a2)) then ((L61_4 a1 a2 a8 a8 b0_0).bind fun y0 => (some (.inl (((), a1, a2, (), (IntKind.wrap .i64 (a8 + 1)), ()), ((y0.2.1.1.1, ()), ()), ())))) else (some (.inr ((), ((b0_0, ()), ()), ()))))
noncomputable def L61_1 (a1 : Int) (a2 : Int) (a8 : Int) (b0_0 : (List DEv)) : Option (Unit × (((List DEv) × Unit) × Unit) × Unit) := iter (fun x : ((Unit × (Int × (Int × (Unit × (Int × Unit))))) × (((List DEv) × Unit) × Unit) × Unit) => T61_1 x.1.2.1 x.1.2.2.1 x.1.2.2.2.2.1 x.2.1.1.1) 300 (((), a1, a2, (), a8, ()), ((b0_0, ()), ()), ())
noncomputable def k61_1 : Con := ⟨i61_1, o61_1, fun x => L61_1 x.1.2.1 x.1.2.2.1 x.1.2.2.2.2.1 x.2.1.1.1⟩
theorem e61_1 (x : i61_1.E) : vround Try.prog C61_1 LO61_1 Try.f61.ntmps l61_1 i61_1 o61_1 x = T61_1 x.1.2.1 x.1.2.2.1 x.1.2.2.2.2.1 x.2.1.1.1 := by kernel_rfl
theorem k61_1_ok : Con.LOK Try.prog Try.f61.ntmps l61_1 k61_1 := Con.LOK.fuel (loop_ok C61_1_ok (loops_of (l := [l61_4]) (by kernel_rfl) (show LoopsOK Try.prog Try.f61.ntmps [l61_4] LO61_1 from ⟨k61_4_ok, trivial⟩)) i61_1 o61_1) 300 (funext e61_1)
noncomputable def C61 : Tab := []
theorem C61_ok : TabOK Try.prog C61 := trivial
noncomputable def LO61 : Tab := [(1, k61_1)]
noncomputable def i61 : Tm := { sl := [(0, .m tDEv 0), (1, .v (.i .i64)), (2, .v (.i .i64)), (3, .fn 33)], bx := [[.r tDEv]], bf := [] }
noncomputable def o61 : OT := (.ret { sl := [], bx := [[.r tDEv]], bf := [] })
noncomputable def F61 (a1 : Int) (a2 : Int) (b0_0 : (List DEv)) : Option (Unit × (((List DEv) × Unit) × Unit) × Unit) :=
 ((L61_1 a1 a2 (IntKind.wrap .i64 (a1 + 1)) b0_0).bind fun y0 => (some ((), ((y0.2.1.1.1, ()), ()), ())))
noncomputable def c61 : Con := ⟨i61, o61, fun x => F61 x.1.2.1 x.1.2.2.1 x.2.1.1.1⟩
theorem e61 (x : i61.E) : vfn Try.prog C61 LO61 Try.f61 b61 i61 o61 x = c61.F x := by kernel_rfl
theorem c61_ok : Con.OK Try.prog 61 c61 := (fn_ok C61_ok (fun _ => rfl) Try.func61 body61 (loops_of (l := [l61_1]) (by kernel_rfl) (show LoopsOK Try.prog Try.f61.ntmps [l61_1] LO61 from ⟨k61_1_ok, trivial⟩)) i61 o61).congr fun x => (e61 x).symm
noncomputable def l49_2 : Code := (.block 1 (.seq (.region 2 (regOf Try.f49 2) false) (.seq (.seq (.region 3 (regOf Try.f49 3) false) (.cond (.tmp 25) (.seq (.region 4 (regOf Try.f49 4) false) .ret) .skip)) (.seq (.seq (.region 5 (regOf Try.f49 5) false) (.cond (.tmp 32) (.seq (.region 6 (regOf Try.f49 6) false) .ret) .skip)) (.seq (.seq (.region 7 (regOf Try.f49 7) false) (.cond (.tmp 39) (.seq (.region 8 (regOf Try.f49 8) false) (.region 9 (regOf Try.f49 9) false)) .skip)) (.seq (.region 10 (regOf Try.f49 10) false) (.seq (.seq (.region 11 (regOf Try.f49 11) false) (.cond (.tmp 56) (.seq (.region 12 (regOf Try.f49 12) false) (.seq (.region 13 (regOf Try.f49 13) false) (.region 14 (regOf Try.f49 14) false))) .skip)) (.seq (.seq (.region 15 (regOf Try.f49 15) false) (.cond (.tmp 75) (.seq (.region 16 (regOf Try.f49 16) false) (.cond (.tmp 80) .ret .skip)) .skip)) (.seq (.seq (.region 17 (regOf Try.f49 17) true) (.cond (.tmp 97) (.seq (.region 18 (regOf Try.f49 18) false) (.seq (.region 19 (regOf Try.f49 19) false) (.exit 1))) .skip)) (.seq (.region 20 (regOf Try.f49 20) false) (.seq (.region 21 (regOf Try.f49 21) false) (.seq (.region 22 (regOf Try.f49 22) false) (.seq (.region 23 (regOf Try.f49 23) false) (.seq (.region 24 (regOf Try.f49 24) false) (.cond (.tmp 125) (.seq (.region 25 (regOf Try.f49 25) false) (.seq (.region 26 (regOf Try.f49 26) false) (.region 27 (regOf Try.f49 27) false))) (.seq (.region 28 (regOf Try.f49 28) false) (.seq (.region 29 (regOf Try.f49 29) false) (.region 30 (regOf Try.f49 30) false))))))))))))))))))
noncomputable def b49 : Code := (.seq (.region 0 (regOf Try.f49 0) false) (.seq (.region 1 (regOf Try.f49 1) false) (.block 0 (.loop l49_2))))
theorem body49 : Try.f49.body = some b49 := by kernel_rfl
noncomputable def C49_2 : Tab := [(61, c61)]
theorem C49_2_ok : TabOK Try.prog C49_2 := ⟨c61_ok, trivial⟩
noncomputable def LO49_2 : Tab := []
noncomputable def i49_2 : Tm := { sl := [(0, .m tDEv 0), (1, .v (.i .i64)), (2, .v (.i .i64)), (3, .v (.i .i64)), (4, .fn 33), (10, .v .b), (11, .v .b)], bx := [[.r tDEv]], bf := [] }
noncomputable def o49_2 : OT := (.ret { sl := [], bx := [[.r tDEv]], bf := [] })
noncomputable def T49_2 (a1 : Int) (a2 : Int) (a3 : Int) (a10 : Bool) (a11 : Bool) (b0_0 : (List DEv)) : Option (((Unit × (Int × (Int × (Int × (Unit × (Bool × (Bool × Unit))))))) × (((List DEv) × Unit) × Unit) × Unit) ⊕ (Unit × (((List DEv) × Unit) × Unit) × Unit)) :=
 (bif (decide (((IntKind.wrap .i64 (a2 - a1)) : Int) ≤ 12)) then ((F61 a1 a2 b0_0).bind fun y0 => (some (.inr ((), ((y0.2.1.1.1, ()), ()), ())))) else (bif ((a3 : Int) == 0) then none else (bif (!a10) then none else none)))
noncomputable def L49_2 (a1 : Int) (a2 : Int) (a3 : Int) (a10 : Bool) (a11 : Bool) (b0_0 : (List DEv)) : Option (Unit × (((List DEv) × Unit) × Unit) × Unit) := iter (fun x : ((Unit × (Int × (Int × (Int × (Unit × (Bool × (Bool × Unit))))))) × (((List DEv) × Unit) × Unit) × Unit) => T49_2 x.1.2.1 x.1.2.2.1 x.1.2.2.2.1 x.1.2.2.2.2.2.1 x.1.2.2.2.2.2.2.1 x.2.1.1.1) 300 (((), a1, a2, a3, (), a10, a11, ()), ((b0_0, ()), ()), ())
noncomputable def k49_2 : Con := ⟨i49_2, o49_2, fun x => L49_2 x.1.2.1 x.1.2.2.1 x.1.2.2.2.1 x.1.2.2.2.2.2.1 x.1.2.2.2.2.2.2.1 x.2.1.1.1⟩
theorem e49_2 (x : i49_2.E) : vround Try.prog C49_2 LO49_2 Try.f49.ntmps l49_2 i49_2 o49_2 x = T49_2 x.1.2.1 x.1.2.2.1 x.1.2.2.2.1 x.1.2.2.2.2.2.1 x.1.2.2.2.2.2.2.1 x.2.1.1.1 := by kernel_rfl
theorem k49_2_ok : Con.LOK Try.prog Try.f49.ntmps l49_2 k49_2 := Con.LOK.fuel (loop_ok C49_2_ok (noL (by kernel_rfl)) i49_2 o49_2) 300 (funext e49_2)
noncomputable def C49 : Tab := [(61, c61)]
theorem C49_ok : TabOK Try.prog C49 := ⟨c61_ok, trivial⟩
noncomputable def LO49 : Tab := [(2, k49_2)]
noncomputable def i49 : Tm := { sl := [(0, .m tDEv 0), (1, .v (.i .i64)), (2, .v (.i .i64)), (3, .v (.i .i64)), (4, .fn 33)], bx := [[.r tDEv]], bf := [] }
noncomputable def o49 : OT := (.ret { sl := [], bx := [[.r tDEv]], bf := [] })
noncomputable def F49 (a1 : Int) (a2 : Int) (a3 : Int) (b0_0 : (List DEv)) : Option (Unit × (((List DEv) × Unit) × Unit) × Unit) :=
 ((L49_2 a1 a2 a3 true true b0_0).bind fun y0 => (some ((), ((y0.2.1.1.1, ()), ()), ())))
noncomputable def c49 : Con := ⟨i49, o49, fun x => F49 x.1.2.1 x.1.2.2.1 x.1.2.2.2.1 x.2.1.1.1⟩
theorem e49 (x : i49.E) : vfn Try.prog C49 LO49 Try.f49 b49 i49 o49 x = c49.F x := by kernel_rfl
theorem c49_ok : Con.OK Try.prog 49 c49 := (fn_ok C49_ok (fun _ => rfl) Try.func49 body49 (loops_of (l := [l49_2]) (by kernel_rfl) (show LoopsOK Try.prog Try.f49.ntmps [l49_2] LO49 from ⟨k49_2_ok, trivial⟩)) i49 o49).congr fun x => (e49 x).symm
noncomputable def b32 : Code := (.seq (.region 0 (regOf Try.f32 0) false) (.region 1 (regOf Try.f32 1) false))
theorem body32 : Try.f32.body = some b32 := by kernel_rfl
noncomputable def C32 : Tab := [(49, c49), (50, c50)]
theorem C32_ok : TabOK Try.prog C32 := ⟨c49_ok, c50_ok, trivial⟩
noncomputable def LO32 : Tab := []
noncomputable def i32 : Tm := { sl := [(0, .m tDEv 0), (1, .fn 33)], bx := [[.r tDEv]], bf := [] }
noncomputable def o32 : OT := (.ret { sl := [], bx := [[.r tDEv]], bf := [] })
noncomputable def F32 (b0_0 : (List DEv)) : Option (Unit × (((List DEv) × Unit) × Unit) × Unit) :=
 ((F50 (IntKind.wrap .u64 (((b0_0).length : Nat) : Int))).bind fun y0 => ((F49 0 (((b0_0).length : Nat) : Int) y0.1.1 b0_0).bind fun y1 => (some ((), ((y1.2.1.1.1, ()), ()), ()))))
noncomputable def c32 : Con := ⟨i32, o32, fun x => F32 x.2.1.1.1⟩
theorem e32 (x : i32.E) : vfn Try.prog C32 LO32 Try.f32 b32 i32 o32 x = c32.F x := by kernel_rfl
theorem c32_ok : Con.OK Try.prog 32 c32 := (fn_ok C32_ok (fun _ => rfl) Try.func32 body32 (noL (by kernel_rfl)) i32 o32).congr fun x => (e32 x).symm
end Go.IM.V
namespace Go.IM.V
open Go Go.IM Go.Proofs
abbrev A1 : Type := (List (List DEv))
abbrev A2 : Type := (List (List (List Int)))
abbrev A3 : Type := (List (Int × ((List Int) × (Int × Unit))))
abbrev A4 : Type := (List DEv)
abbrev zE : DEv := ((0 : Int), ((0 : Int), ((0 : Int), ((0 : Int), (ByteArray.empty, ([], ((0 : Nat), ((0 : Int), ()))))))))
abbrev TUU : Type := (Unit × (Unit × (Unit × (Unit × (Unit × (Unit × (Unit × (Unit × (Unit × (Unit × (Unit × (Unit × (Unit × (Unit × (Unit × (Unit × (Unit × (Unit × (Unit × (Unit × (Unit × (Unit × (Unit × (Unit × (Unit × (Unit × (Unit × (Unit × (Unit × (Unit × (Unit × (Unit × (Unit × (Unit × (Unit × (Unit × (Unit × (Unit × (Unit × (Unit × (Unit × (Unit × (Unit × (Unit × (Unit × (Unit × (Unit × (Unit × (Unit × (Unit × (Unit × (Unit × (Unit × (Unit × (Unit × (Unit × (Unit × (Unit × (Unit × (Unit × (Unit × (Unit × (Unit × (Unit × Unit))))))))))))))))))))))))))))))))))))))))))))))))))))))))))))))))
abbrev UU : TUU := ((), (), (), (), (), (), (), (), (), (), (), (), (), (), (), (), (), (), (), (), (), (), (), (), (), (), (), (), (), (), (), (), (), (), (), (), (), (), (), (), (), (), (), (), (), (), (), (), (), (), (), (), (), (), (), (), (), (), (), (), (), (), (), (), ())
abbrev PNN : List Pt := [.v (.l (.i .u64)), .v (.i .u64), .sg 64 (.p (.i .i64) (.p (.l (.i .u64)) (.p (.i .u64) .u))), .v (.i .u64), .v (.i .u64), .ns]
abbrev TNN : Type := ((List Int) × (Int × (A3 × (Int × (Int × (Unit × Unit))))))
abbrev PXb : List Pt := [.v (.i .i64), .sg 64 (.l tDEv), .sg 64 (.l (.l (.i .u64))), .p 1 0, .p 2 0, .nl, .nl, .nl, .nl, .nl, .nl, .nl, .nl, .nl, .nl, .nl, .nl, .nl, .nl, .nl, .nl, .nl, .nl, .nl, .nl, .nl, .nl, .nl, .nl, .nl, .nl, .nl, .nl, .nl, .nl, .nl, .nl, .nl, .nl, .nl, .nl, .nl, .nl, .nl, .nl, .nl, .nl, .nl, .nl, .nl, .nl, .nl, .nl, .nl, .nl, .nl, .nl, .nl, .nl, .nl, .nl, .nl, .nl, .nl, .nl, .nl, .nl]
abbrev PXd : List Pt := [.v (.i .i64), .sg 64 (.l tDEv), .sg 64 (.l (.l (.i .u64))), .p 1 0, .p 2 0, .nl, .nl, .nl, .p 3 0, .nl, .nl, .nl, .nl, .nl, .nl, .nl, .nl, .nl, .nl, .nl, .nl, .nl, .nl, .nl, .nl, .nl, .nl, .nl, .nl, .nl, .nl, .nl, .nl, .nl, .nl, .nl, .nl, .nl, .nl, .nl, .nl, .nl, .nl, .nl, .nl, .nl, .nl, .nl, .nl, .nl, .nl, .nl, .nl, .nl, .nl, .nl, .nl, .nl, .nl, .nl, .nl, .nl, .nl, .nl, .nl, .nl, .nl]
abbrev PXa : List Pt := [.v (.i .i64), .sg 64 (.l tDEv), .sg 64 (.l (.l (.i .u64))), .p 1 0, .nl, .nl, .nl, .nl, .nl, .nl, .nl, .nl, .nl, .nl, .nl, .nl, .nl, .nl, .nl, .nl, .nl, .nl, .nl, .nl, .nl, .nl, .nl, .nl, .nl, .nl, .nl, .nl, .nl, .nl, .nl, .nl, .nl, .nl, .nl, .nl, .nl, .nl, .nl, .nl, .nl, .nl, .nl, .nl, .nl, .nl, .nl, .nl, .nl, .nl, .nl, .nl, .nl, .nl, .nl, .nl, .nl, .nl, .nl, .nl, .nl, .nl, .nl]
abbrev TX : Type := (Int × (A1 × (A2 × TUU)))
noncomputable def l55_3 : Code := (.seq (.region 3 (regOf Try.f55 3) false) (.seq (.cond (.tmp 12) .skip (.exit 0)) (.seq (.block 1 (.seq (.region 4 (regOf Try.f55 4) false) (.region 5 (regOf Try.f55 5) false))) (.region 6 (regOf Try.f55 6) false))))
noncomputable def b55 : Code := (.seq (.region 0 (regOf Try.f55 0) false) (.seq (.region 1 (regOf Try.f55 1) false) (.seq (.seq (.region 2 (regOf Try.f55 2) false) (.block 0 (.loop l55_3))) (.seq (.region 7 (regOf Try.f55 7) false) .ret))))
theorem body55 : Try.f55.body = some b55 := by kernel_rfl
noncomputable def C55_3 : Tab := [(900007, cHot)]
theorem C55_3_ok : TabOK Try.prog C55_3 := ⟨cHot_ok, trivial⟩
noncomputable def LO55_3 : Tab := []
noncomputable def i55_3 : Tm := { sl := [(3, .p 0 0), (10, .v (.i .i64)), (11, .v (.i .i64))], bx := [[.mv 1, .sg 64 .b, .sg 64 .b, .v (.l (.i .u64)), .v (.i .u64), .v (.i .i64), .v (.i .u64)], [.mx 0 []]], bf := [] }
noncomputable def o55_3 : OT := (.exit 0 { sl := [], bx := [[.mv 1, .sg 64 .b, .sg 64 .b, .v (.l (.i .u64)), .v (.i .u64), .v (.i .i64), .v (.i .u64)], [.mx 0 []]], bf := [] })
noncomputable def T55_3 (a10 : Int) (a11 : Int) (b0_1 : (List Bool)) (b0_2 : (List Bool)) (b0_3 : (List Int)) (b0_4 : Int) (b0_5 : Int) (b0_6 : Int) : Option (((Unit × (Int × (Int × Unit))) × ((Unit × ((List Bool) × ((List Bool) × ((List Int) × (Int × (Int × (Int × Unit))))))) × ((Unit × Unit) × Unit)) × Unit) ⊕ (Unit × ((Unit × ((List Bool) × ((List Bool) × ((List Int) × (Int × (Int × (Int × Unit))))))) × ((Unit × Unit) × Unit)) × Unit)) :=
 (bif (decide ((a11 : Int) < a10)) then (bif (decide (0 ≤ (a11 : Int) ∧ (a11 : Int) < ((64 : Nat) : Int))) then (bif (decide ((a11 : Int).toNat < 64)) then (some (.inl (((), a10, (IntKind.wrap .i64 (a11 + 1)), ()), (((), ((b0_1).set (a11 : Int).toNat true), b0_2, b0_3, b0_4, b0_5, b0_6, ()), ((), ()), ()), ()))) else none) else none) else (some (.inr ((), (((), b0_1, b0_2, b0_3, b0_4, b0_5, b0_6, ()), ((), ()), ()), ()))))
noncomputable def L55_3 (a10 : Int) (a11 : Int) (b0_1 : (List Bool)) (b0_2 : (List Bool)) (b0_3 : (List Int)) (b0_4 : Int) (b0_5 : Int) (b0_6 : Int) : Option (Unit × ((Unit × ((List Bool) × ((List Bool) × ((List Int) × (Int × (Int × (Int × Unit))))))) × ((Unit × Unit) × Unit)) × Unit) := iter (fun x : ((Unit × (Int × (Int × Unit))) × ((Unit × ((List Bool) × ((List Bool) × ((List Int) × (Int × (Int × (Int × Unit))))))) × ((Unit × Unit) × Unit)) × Unit) => T55_3 x.1.2.1 x.1.2.2.1 x.2.1.1.2.1 x.2.1.1.2.2.1 x.2.1.1.2.2.2.1 x.2.1.1.2.2.2.2.1 x.2.1.1.2.2.2.2.2.1 x.2.1.1.2.2.2.2.2.2.1) 300 (((), a10, a11, ()), (((), b0_1, b0_2, b0_3, b0_4, b0_5, b0_6, ()), ((), ()), ()), ())
noncomputable def k55_3 : Con := ⟨i55_3, o55_3, fun x => L55_3 x.1.2.1 x.1.2.2.1 x.2.1.1.2.1 x.2.1.1.2.2.1 x.2.1.1.2.2.2.1 x.2.1.1.2.2.2.2.1 x.2.1.1.2.2.2.2.2.1 x.2.1.1.2.2.2.2.2.2.1⟩
theorem e55_3 (x : i55_3.E) : vround Try.prog C55_3 LO55_3 Try.f55.ntmps l55_3 i55_3 o55_3 x = T55_3 x.1.2.1 x.1.2.2.1 x.2.1.1.2.1 x.2.1.1.2.2.1 x.2.1.1.2.2.2.1 x.2.1.1.2.2.2.2.1 x.2.1.1.2.2.2.2.2.1 x.2.1.1.2.2.2.2.2.2.1 := by kernel_rfl
theorem k55_3_ok : Con.LOK Try.prog Try.f55.ntmps l55_3 k55_3 := Con.LOK.fuel (loop_ok C55_3_ok (noL (by kernel_rfl)) i55_3 o55_3) 300 (funext e55_3)
noncomputable def C55 : Tab := [(900007, cHot)]
theorem C55_ok : TabOK Try.prog C55 := ⟨cHot_ok, trivial⟩
noncomputable def LO55 : Tab := [(3, k55_3)]
noncomputable def i55 : Tm := { sl := [(0, .v (.i .i64))], bx := [], bf := [] }
noncomputable def o55 : OT := (.ret { sl := [(0, .p 0 0)], bx := [[.mv 1, .sg 64 .b, .sg 64 .b, .v (.l (.i .u64)), .v (.i .u64), .v (.i .i64), .v (.i .u64)], [.mx 0 []]], bf := [] })
noncomputable def F55 (a0 : Int) : Option ((Unit × Unit) × ((Unit × ((List Bool) × ((List Bool) × ((List Int) × (Int × (Int × (Int × Unit))))))) × ((Unit × Unit) × Unit)) × Unit) :=
 ((L55_3 (if (64 : Int) < (if (0 : Int) > a0 then 0 else a0) then 64 else (if (0 : Int) > a0 then 0 else a0)) 0 (List.replicate 64 (false : Bool)) (List.replicate 64 (false : Bool)) ([] : List Int) 0 0 14695981039346656037).bind fun y0 => (some (((), ()), (((), y0.2.1.1.2.1, y0.2.1.1.2.2.1, y0.2.1.1.2.2.2.1, y0.2.1.1.2.2.2.2.1, y0.2.1.1.2.2.2.2.2.1, y0.2.1.1.2.2.2.2.2.2.1, ()), ((), ()), ()), ())))
noncomputable def c55 : Con := ⟨i55, o55, fun x => F55 x.1.1⟩
theorem e55 (x : i55.E) : vfn Try.prog C55 LO55 Try.f55 b55 i55 o55 x = c55.F x := by kernel_rfl
theorem c55_ok : Con.OK Try.prog 55 c55 := (fn_ok C55_ok (fun _ => rfl) Try.func55 body55 (loops_of (l := [l55_3]) (by kernel_rfl) (show LoopsOK Try.prog Try.f55.ntmps [l55_3] LO55 from ⟨k55_3_ok, trivial⟩)) i55 o55).congr fun x => (e55 x).symm
noncomputable def l56_12 : Code := (.seq (.region 12 (regOf Try.f56 12) false) (.seq (.cond (.tmp 61) .skip (.exit 1)) (.seq (.block 2 (.seq (.region 13 (regOf Try.f56 13) false) (.region 14 (regOf Try.f56 14) false))) (.region 15 (regOf Try.f56 15) false))))
noncomputable def b56 : Code := (.seq (.region 0 (regOf Try.f56 0) false) (.seq (.seq (.region 1 (regOf Try.f56 1) false) (.block 0 (.seq (.region 2 (regOf Try.f56 2) false) (.cond (.tmp 12) (.seq (.region 3 (regOf Try.f56 3) false) .ret) (.seq (.region 4 (regOf Try.f56 4) false) (.cond (.tmp 15) (.seq (.region 5 (regOf Try.f56 5) false) .ret) (.seq (.region 6 (regOf Try.f56 6) true) (.cond (.tmp 19) (.seq (.region 7 (regOf Try.f56 7) false) .ret) (.seq (.region 8 (regOf Try.f56 8) true) (.cond (.tmp 28) (.seq (.region 9 (regOf Try.f56 9) false) .ret) .skip)))))))))) (.seq (.region 10 (regOf Try.f56 10) true) (.seq (.seq (.region 11 (regOf Try.f56 11) false) (.block 1 (.loop l56_12))) (.seq (.seq (.region 16 (regOf Try.f56 16) false) (.block 3 (.seq (.region 17 (regOf Try.f56 17) false) (.cond (.tmp 78) (.region 18 (regOf Try.f56 18) true) (.seq (.region 19 (regOf Try.f56 19) false) (.cond (.tmp 90) (.region 20 (regOf Try.f56 20) true) (.seq (.region 21 (regOf Try.f56 21) false) (.cond (.tmp 102) (.seq (.region 22 (regOf Try.f56 22) true) (.seq (.region 23 (regOf Try.f56 23) false) (.seq (.seq (.region 24 (regOf Try.f56 24) false) (.cond (.tmp 116) (.region 25 (regOf Try.f56 25) false) .skip)) (.region 26 (regOf Try.f56 26) true)))) (.seq (.region 27 (regOf Try.f56 27) false) (.cond (.tmp 130) (.region 28 (regOf Try.f56 28) true) (.seq (.region 29 (regOf Try.f56 29) false) (.cond (.tmp 138) (.region 30 (regOf Try.f56 30) true) (.seq (.region 31 (regOf Try.f56 31) false) (.cond (.tmp 146) (.region 32 (regOf Try.f56 32) true) .skip)))))))))))))) (.seq (.region 33 (regOf Try.f56 33) false) .ret))))))
theorem body56 : Try.f56.body = some b56 := by kernel_rfl
noncomputable def C56_12 : Tab := []
theorem C56_12_ok : TabOK Try.prog C56_12 := trivial
noncomputable def LO56_12 : Tab := []
noncomputable def i56_12 : Tm := { sl := [(0, .p 0 0), (3, .p 1 0), (58, .v (.l (.i .u8))), (59, .v (.i .i64)), (60, .v (.i .i64))], bx := [[.mv 2, .sg 64 .b, .sg 64 .b, .v (.l (.i .u64)), .v (.i .u64), .v (.i .i64), .v (.i .u64)], [.v (.i .i64), .v (.i .u64), .v (.i .u64), .v (.i .u8), .v .s, .v (.l (.i .u8)), .v (.f .f64), .v (.i .i64)], [.mx 0 []]], bf := [] }
noncomputable def o56_12 : OT := (.exit 1 { sl := [], bx := [[.mv 2, .sg 64 .b, .sg 64 .b, .v (.l (.i .u64)), .v (.i .u64), .v (.i .i64), .v (.i .u64)], [.v (.i .i64), .v (.i .u64), .v (.i .u64), .v (.i .u8), .v .s, .v (.l (.i .u8)), .v (.f .f64), .v (.i .i64)], [.mx 0 []]], bf := [] })
noncomputable def T56_12 (a58 : (List Int)) (a59 : Int) (a60 : Int) (b0_1 : (List Bool)) (b0_2 : (List Bool)) (b0_3 : (List Int)) (b0_4 : Int) (b0_5 : Int) (b0_6 : Int) (b1_0 : Int) (b1_1 : Int) (b1_2 : Int) (b1_3 : Int) (b1_4 : ByteArray) (b1_5 : (List Int)) (b1_6 : Nat) (b1_7 : Int) : Option (((Unit × (Unit × ((List Int) × (Int × (Int × Unit))))) × ((Unit × ((List Bool) × ((List Bool) × ((List Int) × (Int × (Int × (Int × Unit))))))) × (DEv × ((Unit × Unit) × Unit))) × Unit) ⊕ (Unit × ((Unit × ((List Bool) × ((List Bool) × ((List Int) × (Int × (Int × (Int × Unit))))))) × (DEv × ((Unit × Unit) × Unit))) × Unit)) :=
 (bif (decide ((a60 : Int) < a59)) then (bif (decide (0 ≤ (a60 : Int) ∧ (a60 : Int) < (((a58).length : Nat) : Int))) then (some (.inl (((), (), a58, a59, (IntKind.wrap .i64 (a60 + 1)), ()), (((), b0_1, b0_2, b0_3, b0_4, b0_5, (IntKind.wrap .u64 ((iXor .u64 b0_6 (IntKind.wrap .u64 ((a58).getD (a60 : Int).toNat (0 : Int)))) * 1099511628211)), ()), (b1_0, b1_1, b1_2, b1_3, b1_4, b1_5, b1_6, b1_7, ()), ((), ()), ()), ()))) else none) else (some (.inr ((), (((), b0_1, b0_2, b0_3, b0_4, b0_5, b0_6, ()), (b1_0, b1_1, b1_2, b1_3, b1_4, b1_5, b1_6, b1_7, ()), ((), ()), ()), ()))))
noncomputable def L56_12 (a58 : (List Int)) (a59 : Int) (a60 : Int) (b0_1 : (List Bool)) (b0_2 : (List Bool)) (b0_3 : (List Int)) (b0_4 : Int) (b0_5 : Int) (b0_6 : Int) (b1_0 : Int) (b1_1 : Int) (b1_2 : Int) (b1_3 : Int) (b1_4 : ByteArray) (b1_5 : (List Int)) (b1_6 : Nat) (b1_7 : Int) : Option (Unit × ((Unit × ((List Bool) × ((List Bool) × ((List Int) × (Int × (Int × (Int × Unit))))))) × (DEv × ((Unit × Unit) × Unit))) × Unit) := iter (fun x : ((Unit × (Unit × ((List Int) × (Int × (Int × Unit))))) × ((Unit × ((List Bool) × ((List Bool) × ((List Int) × (Int × (Int × (Int × Unit))))))) × (DEv × ((Unit × Unit) × Unit))) × Unit) => T56_12 x.1.2.2.1 x.1.2.2.2.1 x.1.2.2.2.2.1 x.2.1.1.2.1 x.2.1.1.2.2.1 x.2.1.1.2.2.2.1 x.2.1.1.2.2.2.2.1 x.2.1.1.2.2.2.2.2.1 x.2.1.1.2.2.2.2.2.2.1 x.2.1.2.1.1 x.2.1.2.1.2.1 x.2.1.2.1.2.2.1 x.2.1.2.1.2.2.2.1 x.2.1.2.1.2.2.2.2.1 x.2.1.2.1.2.2.2.2.2.1 x.2.1.2.1.2.2.2.2.2.2.1 x.2.1.2.1.2.2.2.2.2.2.2.1) 300 (((), (), a58, a59, a60, ()), (((), b0_1, b0_2, b0_3, b0_4, b0_5, b0_6, ()), (b1_0, b1_1, b1_2, b1_3, b1_4, b1_5, b1_6, b1_7, ()), ((), ()), ()), ())
noncomputable def k56_12 : Con := ⟨i56_12, o56_12, fun x => L56_12 x.1.2.2.1 x.1.2.2.2.1 x.1.2.2.2.2.1 x.2.1.1.2.1 x.2.1.1.2.2.1 x.2.1.1.2.2.2.1 x.2.1.1.2.2.2.2.1 x.2.1.1.2.2.2.2.2.1 x.2.1.1.2.2.2.2.2.2.1 x.2.1.2.1.1 x.2.1.2.1.2.1 x.2.1.2.1.2.2.1 x.2.1.2.1.2.2.2.1 x.2.1.2.1.2.2.2.2.1 x.2.1.2.1.2.2.2.2.2.1 x.2.1.2.1.2.2.2.2.2.2.1 x.2.1.2.1.2.2.2.2.2.2.2.1⟩
theorem e56_12 (x : i56_12.E) : vround Try.prog C56_12 LO56_12 Try.f56.ntmps l56_12 i56_12 o56_12 x = T56_12 x.1.2.2.1 x.1.2.2.2.1 x.1.2.2.2.2.1 x.2.1.1.2.1 x.2.1.1.2.2.1 x.2.1.1.2.2.2.1 x.2.1.1.2.2.2.2.1 x.2.1.1.2.2.2.2.2.1 x.2.1.1.2.2.2.2.2.2.1 x.2.1.2.1.1 x.2.1.2.1.2.1 x.2.1.2.1.2.2.1 x.2.1.2.1.2.2.2.1 x.2.1.2.1.2.2.2.2.1 x.2.1.2.1.2.2.2.2.2.1 x.2.1.2.1.2.2.2.2.2.2.1 x.2.1.2.1.2.2.2.2.2.2.2.1 := by kernel_rfl
theorem k56_12_ok : Con.LOK Try.prog Try.f56.ntmps l56_12 k56_12 := Con.LOK.fuel (loop_ok C56_12_ok (noL (by kernel_rfl)) i56_12 o56_12) 300 (funext e56_12)
noncomputable def C56 : Tab := [(12, c12), (18, c18), (31, c31), (34, c34), (35, c35), (54, c54), (77, c77), (78, c78)]
theorem C56_ok : TabOK Try.prog C56 := ⟨c12_ok, c18_ok, c31_ok, c34_ok, c35_ok, c54_ok, c77_ok, c78_ok, trivial⟩
noncomputable def LO56 : Tab := [(12, k56_12)]
noncomputable def i56 : Tm := { sl := [(0, .p 0 0), (1, .v tDEv)], bx := [[.mv 1, .sg 64 .b, .sg 64 .b, .v (.l (.i .u64)), .v (.i .u64), .v (.i .i64), .v (.i .u64)], [.mx 0 []]], bf := [] }
noncomputable def o56 : OT := (.ret { sl := [(0, .v (.i .i64))], bx := [[.mv 1, .sg 64 .b, .sg 64 .b, .v (.l (.i .u64)), .v (.i .u64), .v (.i .i64), .v (.i .u64)], [.mx 0 []]], bf := [] })
noncomputable def F56 (a1 : DEv) (b0_1 : (List Bool)) (b0_2 : (List Bool)) (b0_3 : (List Int)) (b0_4 : Int) (b0_5 : Int) (b0_6 : Int) : Option ((Int × Unit) × ((Unit × ((List Bool) × ((List Bool) × ((List Int) × (Int × (Int × (Int × Unit))))))) × ((Unit × Unit) × Unit)) × Unit) :=
 ((F12 a1).bind fun y0 => (bif ((y0.1.1 : Int) != 0) then (some ((y0.1.1, ()), (((), b0_1, b0_2, b0_3, b0_4, b0_5, b0_6, ()), ((), ()), ()), ())) else ((F35 a1).bind fun y1 => ((F34 (y1.1.1.1, (y1.1.1.2.1, ())) (b0_4, (b0_5, ()))).bind fun y2 => (bif (decide ((y2.1.1 : Int) ≤ 0)) then (some ((10, ()), (((), b0_1, b0_2, b0_3, b0_4, b0_5, b0_6, ()), ((), ()), ()), ())) else ((F31 b0_3 a1.1).bind fun y3 => (bif ((a1.2.1 : Int) != (IntKind.wrap .u64 (y3.1.1 + 1))) then (some ((9, ()), (((), b0_1, b0_2, b0_3, b0_4, b0_5, b0_6, ()), ((), ()), ()), ())) else ((F18 b0_3 a1.1 a1.2.1).bind fun y4 => ((F35 a1).bind fun y5 => ((F54 a1).bind fun y6 => ((L56_12 y6.2.2.1 (((y6.2.2.1).length : Nat) : Int) 0 b0_1 b0_2 y4.1.1 y5.1.1.1 y5.1.1.2.1 b0_6 a1.1 a1.2.1 a1.2.2.1 a1.2.2.2.1 a1.2.2.2.2.1 a1.2.2.2.2.2.1 a1.2.2.2.2.2.2.1 a1.2.2.2.2.2.2.2.1).bind fun y7 => (bif ((y7.2.1.2.1.2.2.2.1 : Int) == 1) then ((F77 y7.2.1.2.1.2.2.2.2.2.1).bind fun y8 => none) else (bif ((y7.2.1.2.1.2.2.2.1 : Int) == 2) then ((F78 y7.2.1.2.1.2.2.2.2.2.2.1).bind fun y9 => none) else (bif ((y7.2.1.2.1.2.2.2.1 : Int) == 3) then none else (bif ((y7.2.1.2.1.2.2.2.1 : Int) == 4) then (some ((0, ()), (((), y7.2.1.1.2.1, y7.2.1.1.2.2.1, y7.2.1.1.2.2.2.1, y7.2.1.1.2.2.2.2.1, y7.2.1.1.2.2.2.2.2.1, y7.2.1.1.2.2.2.2.2.2.1, ()), ((), ()), ()), ())) else (bif ((y7.2.1.2.1.2.2.2.1 : Int) == 5) then (bif (decide (0 ≤ (y7.2.1.2.1.2.2.2.2.2.2.2.1 : Int) ∧ (y7.2.1.2.1.2.2.2.2.2.2.2.1 : Int) < ((64 : Nat) : Int))) then (bif (decide ((y7.2.1.2.1.2.2.2.2.2.2.2.1 : Int).toNat < 64)) then (some ((0, ()), (((), ((y7.2.1.1.2.1).set (y7.2.1.2.1.2.2.2.2.2.2.2.1 : Int).toNat true), y7.2.1.1.2.2.1, y7.2.1.1.2.2.2.1, y7.2.1.1.2.2.2.2.1, y7.2.1.1.2.2.2.2.2.1, y7.2.1.1.2.2.2.2.2.2.1, ()), ((), ()), ()), ())) else none) else none) else (bif ((y7.2.1.2.1.2.2.2.1 : Int) == 6) then (bif (decide (0 ≤ (y7.2.1.2.1.1 : Int) ∧ (y7.2.1.2.1.1 : Int) < ((64 : Nat) : Int))) then (bif (decide ((y7.2.1.2.1.1 : Int).toNat < 64)) then (some ((0, ()), (((), y7.2.1.1.2.1, ((y7.2.1.1.2.2.1).set (y7.2.1.2.1.1 : Int).toNat true), y7.2.1.1.2.2.2.1, y7.2.1.1.2.2.2.2.1, y7.2.1.1.2.2.2.2.2.1, y7.2.1.1.2.2.2.2.2.2.1, ()), ((), ()), ()), ())) else none) else none) else (some ((0, ()), (((), y7.2.1.1.2.1, y7.2.1.1.2.2.1, y7.2.1.1.2.2.2.1, y7.2.1.1.2.2.2.2.1, y7.2.1.1.2.2.2.2.2.1, y7.2.1.1.2.2.2.2.2.2.1, ()), ((), ()), ()), ())))))))))))))))))))
noncomputable def c56 : Con := ⟨i56, o56, fun x => F56 x.1.2.1 x.2.1.1.2.1 x.2.1.1.2.2.1 x.2.1.1.2.2.2.1 x.2.1.1.2.2.2.2.1 x.2.1.1.2.2.2.2.2.1 x.2.1.1.2.2.2.2.2.2.1⟩
theorem e56 (x : i56.E) : vfn Try.prog C56 LO56 Try.f56 b56 i56 o56 x = c56.F x := by kernel_rfl
theorem c56_ok : Con.OK Try.prog 56 c56 := (fn_ok C56_ok (fun _ => rfl) Try.func56 body56 (loops_of (l := [l56_12]) (by kernel_rfl) (show LoopsOK Try.prog Try.f56.ntmps [l56_12] LO56 from ⟨k56_12_ok, trivial⟩)) i56 o56).congr fun x => (e56 x).symm
noncomputable def b41 : Code := (.seq (.region 0 (regOf Try.f41 0) false) (.seq (.region 1 (regOf Try.f41 1) false) .ret))
theorem body41 : Try.f41.body = some b41 := by kernel_rfl
noncomputable def C41 : Tab := []
theorem C41_ok : TabOK Try.prog C41 := trivial
noncomputable def LO41 : Tab := []
noncomputable def i41 : Tm := { sl := [(0, .p 0 0), (1, .v (.i .i64))], bx := [[.mv 1, .sg 64 .b, .sg 64 .b, .v (.l (.i .u64)), .v (.i .u64), .v (.i .i64), .v (.i .u64)], [.mx 0 []]], bf := [] }
noncomputable def o41 : OT := (.ret { sl := [(0, .v .b)], bx := [[.mv 1, .sg 64 .b, .sg 64 .b, .v (.l (.i .u64)), .v (.i .u64), .v (.i .i64), .v (.i .u64)], [.mx 0 []]], bf := [] })
noncomputable def F41 (a1 : Int) (b0_1 : (List Bool)) (b0_2 : (List Bool)) (b0_3 : (List Int)) (b0_4 : Int) (b0_5 : Int) (b0_6 : Int) : Option ((Bool × Unit) × ((Unit × ((List Bool) × ((List Bool) × ((List Int) × (Int × (Int × (Int × Unit))))))) × ((Unit × Unit) × Unit)) × Unit) :=
 (bif (decide ((a1 : Int) ≥ 0)) then (bif (decide ((a1 : Int) < 64)) then (bif (decide (0 ≤ (a1 : Int) ∧ (a1 : Int) < ((64 : Nat) : Int))) then (bif (decide ((a1 : Int).toNat < 64)) then (some ((((b0_1).getD (a1 : Int).toNat false), ()), (((), b0_1, b0_2, b0_3, b0_4, b0_5, b0_6, ()), ((), ()), ()), ())) else none) else none) else (some ((false, ()), (((), b0_1, b0_2, b0_3, b0_4, b0_5, b0_6, ()), ((), ()), ()), ()))) else (some ((false, ()), (((), b0_1, b0_2, b0_3, b0_4, b0_5, b0_6, ()), ((), ()), ()), ())))
noncomputable def c41 : Con := ⟨i41, o41, fun x => F41 x.1.2.1 x.2.1.1.2.1 x.2.1.1.2.2.1 x.2.1.1.2.2.2.1 x.2.1.1.2.2.2.2.1 x.2.1.1.2.2.2.2.2.1 x.2.1.1.2.2.2.2.2.2.1⟩
theorem e41 (x : i41.E) : vfn Try.prog C41 LO41 Try.f41 b41 i41 o41 x = c41.F x := by kernel_rfl
theorem c41_ok : Con.OK Try.prog 41 c41 := (fn_ok C41_ok (fun _ => rfl) Try.func41 body41 (noL (by kernel_rfl)) i41 o41).congr fun x => (e41 x).symm
noncomputable def b42 : Code := (.seq (.region 0 (regOf Try.f42 0) false) (.seq (.region 1 (regOf Try.f42 1) false) .ret))
theorem body42 : Try.f42.body = some b42 := by kernel_rfl
noncomputable def C42 : Tab := []
theorem C42_ok : TabOK Try.prog C42 := trivial
noncomputable def LO42 : Tab := []
noncomputable def i42 : Tm := { sl := [(0, .p 0 0), (1, .v (.i .i64))], bx := [[.mv 1, .sg 64 .b, .sg 64 .b, .v (.l (.i .u64)), .v (.i .u64), .v (.i .i64), .v (.i .u64)], [.mx 0 []]], bf := [] }
noncomputable def o42 : OT := (.ret { sl := [(0, .v .b)], bx := [[.mv 1, .sg 64 .b, .sg 64 .b, .v (.l (.i .u64)), .v (.i .u64), .v (.i .i64), .v (.i .u64)], [.mx 0 []]], bf := [] })
noncomputable def F42 (a1 : Int) (b0_1 : (List Bool)) (b0_2 : (List Bool)) (b0_3 : (List Int)) (b0_4 : Int) (b0_5 : Int) (b0_6 : Int) : Option ((Bool × Unit) × ((Unit × ((List Bool) × ((List Bool) × ((List Int) × (Int × (Int × (Int × Unit))))))) × ((Unit × Unit) × Unit)) × Unit) :=
 (bif (decide ((a1 : Int) ≥ 0)) then (bif (decide ((a1 : Int) < 64)) then (bif (decide (0 ≤ (a1 : Int) ∧ (a1 : Int) < ((64 : Nat) : Int))) then (bif (decide ((a1 : Int).toNat < 64)) then (some ((((b0_2).getD (a1 : Int).toNat false), ()), (((), b0_1, b0_2, b0_3, b0_4, b0_5, b0_6, ()), ((), ()), ()), ())) else none) else none) else (some ((false, ()), (((), b0_1, b0_2, b0_3, b0_4, b0_5, b0_6, ()), ((), ()), ()), ()))) else (some ((false, ()), (((), b0_1, b0_2, b0_3, b0_4, b0_5, b0_6, ()), ((), ()), ()), ())))
noncomputable def c42 : Con := ⟨i42, o42, fun x => F42 x.1.2.1 x.2.1.1.2.1 x.2.1.1.2.2.1 x.2.1.1.2.2.2.1 x.2.1.1.2.2.2.2.1 x.2.1.1.2.2.2.2.2.1 x.2.1.1.2.2.2.2.2.2.1⟩
theorem e42 (x : i42.E) : vfn Try.prog C42 LO42 Try.f42 b42 i42 o42 x = c42.F x := by kernel_rfl
theorem c42_ok : Con.OK Try.prog 42 c42 := (fn_ok C42_ok (fun _ => rfl) Try.func42 body42 (noL (by kernel_rfl)) i42 o42).congr fun x => (e42 x).symm
noncomputable def b60 : Code := (.seq (.region 0 (regOf Try.f60 0) false) (.seq (.region 1 (regOf Try.f60 1) false) .ret))
theorem body60 : Try.f60.body = some b60 := by kernel_rfl
noncomputable def C60 : Tab := [(41, c41), (42, c42)]
theorem C60_ok : TabOK Try.prog C60 := ⟨c41_ok, c42_ok, trivial⟩
noncomputable def LO60 : Tab := []
noncomputable def i60 : Tm := { sl := [(0, .p 0 0), (1, .v (.i .i64))], bx := [[.mv 1, .sg 64 .b, .sg 64 .b, .v (.l (.i .u64)), .v (.i .u64), .v (.i .i64), .v (.i .u64)], [.mx 0 []]], bf := [] }
noncomputable def o60 : OT := (.ret { sl := [(0, .v .b)], bx := [[.mv 1, .sg 64 .b, .sg 64 .b, .v (.l (.i .u64)), .v (.i .u64), .v (.i .i64), .v (.i .u64)], [.mx 0 []]], bf := [] })
noncomputable def F60 (a1 : Int) (b0_1 : (List Bool)) (b0_2 : (List Bool)) (b0_3 : (List Int)) (b0_4 : Int) (b0_5 : Int) (b0_6 : Int) : Option ((Bool × Unit) × ((Unit × ((List Bool) × ((List Bool) × ((List Int) × (Int × (Int × (Int × Unit))))))) × ((Unit × Unit) × Unit)) × Unit) :=
 ((F41 a1 b0_1 b0_2 b0_3 b0_4 b0_5 b0_6).bind fun y0 => (bif y0.1.1 then ((F42 a1 y0.2.1.1.2.1 y0.2.1.1.2.2.1 y0.2.1.1.2.2.2.1 y0.2.1.1.2.2.2.2.1 y0.2.1.1.2.2.2.2.2.1 y0.2.1.1.2.2.2.2.2.2.1).bind fun y1 => (some (((!y1.1.1), ()), (((), y1.2.1.1.2.1, y1.2.1.1.2.2.1, y1.2.1.1.2.2.2.1, y1.2.1.1.2.2.2.2.1, y1.2.1.1.2.2.2.2.2.1, y1.2.1.1.2.2.2.2.2.2.1, ()), ((), ()), ()), ()))) else (some ((false, ()), (((), y0.2.1.1.2.1, y0.2.1.1.2.2.1, y0.2.1.1.2.2.2.1, y0.2.1.1.2.2.2.2.1, y0.2.1.1.2.2.2.2.2.1, y0.2.1.1.2.2.2.2.2.2.1, ()), ((), ()), ()), ()))))
noncomputable def c60 : Con := ⟨i60, o60, fun x => F60 x.1.2.1 x.2.1.1.2.1 x.2.1.1.2.2.1 x.2.1.1.2.2.2.1 x.2.1.1.2.2.2.2.1 x.2.1.1.2.2.2.2.2.1 x.2.1.1.2.2.2.2.2.2.1⟩
theorem e60 (x : i60.E) : vfn Try.prog C60 LO60 Try.f60 b60 i60 o60 x = c60.F x := by kernel_rfl
theorem c60_ok : Con.OK Try.prog 60 c60 := (fn_ok C60_ok (fun _ => rfl) Try.func60 body60 (noL (by kernel_rfl)) i60 o60).congr fun x => (e60 x).symm
noncomputable def l47_3 : Code := (.seq (.region 3 (regOf Try.f47 3) false) (.seq (.cond (.tmp 6) .skip (.exit 0)) (.seq (.block 1 (.seq (.region 4 (regOf Try.f47 4) false) (.seq (.region 5 (regOf Try.f47 5) false) (.cond (.tmp 10) (.region 6 (regOf Try.f47 6) false) .skip)))) (.region 7 (regOf Try.f47 7) false))))
noncomputable def b47 : Code := (.seq (.region 0 (regOf Try.f47 0) false) (.seq (.region 1 (regOf Try.f47 1) false) (.seq (.seq (.region 2 (regOf Try.f47 2) false) (.block 0 (.loop l47_3))) (.seq (.region 8 (regOf Try.f47 8) false) .ret))))
theorem body47 : Try.f47.body = some b47 := by kernel_rfl
noncomputable def C47_3 : Tab := [(60, c60)]
theorem C47_3_ok : TabOK Try.prog C47_3 := ⟨c60_ok, trivial⟩
noncomputable def LO47_3 : Tab := []
noncomputable def i47_3 : Tm := { sl := [(0, .p 0 0), (3, .o 0), (5, .v (.i .i64))], bx := [[.mv 1, .sg 64 .b, .sg 64 .b, .v (.l (.i .u64)), .v (.i .u64), .v (.i .i64), .v (.i .u64)], [.mx 0 []]], bf := [(.i .i64)] }
noncomputable def o47_3 : OT := (.exit 0 { sl := [(3, .o 0)], bx := [[.mv 1, .sg 64 .b, .sg 64 .b, .v (.l (.i .u64)), .v (.i .u64), .v (.i .i64), .v (.i .u64)], [.mx 0 []]], bf := [(.i .i64)] })
noncomputable def T47_3 (a5 : Int) (b0_1 : (List Bool)) (b0_2 : (List Bool)) (b0_3 : (List Int)) (b0_4 : Int) (b0_5 : Int) (b0_6 : Int) (q0 : (List Int)) : Option (((Unit × (Unit × (Int × Unit))) × ((Unit × ((List Bool) × ((List Bool) × ((List Int) × (Int × (Int × (Int × Unit))))))) × ((Unit × Unit) × Unit)) × ((List Int) × Unit)) ⊕ ((Unit × Unit) × ((Unit × ((List Bool) × ((List Bool) × ((List Int) × (Int × (Int × (Int × Unit))))))) × ((Unit × Unit) × Unit)) × ((List Int) × Unit))) :=
 (bif (decide ((a5 : Int) < 64)) then ((F60 a5 b0_1 b0_2 b0_3 b0_4 b0_5 b0_6).bind fun y0 => (bif y0.1.1 then (bif (decide ((q0).length + ([a5]).length < lim)) then (some (.inl (((), (), (IntKind.wrap .i64 (a5 + 1)), ()), (((), y0.2.1.1.2.1, y0.2.1.1.2.2.1, y0.2.1.1.2.2.2.1, y0.2.1.1.2.2.2.2.1, y0.2.1.1.2.2.2.2.2.1, y0.2.1.1.2.2.2.2.2.2.1, ()), ((), ()), ()), ((q0 ++ [a5]), ())))) else none) else (some (.inl (((), (), (IntKind.wrap .i64 (a5 + 1)), ()), (((), y0.2.1.1.2.1, y0.2.1.1.2.2.1, y0.2.1.1.2.2.2.1, y0.2.1.1.2.2.2.2.1, y0.2.1.1.2.2.2.2.2.1, y0.2.1.1.2.2.2.2.2.2.1, ()), ((), ()), ()), (q0, ())))))) else (some (.inr (((), ()), (((), b0_1, b0_2, b0_3, b0_4, b0_5, b0_6, ()), ((), ()), ()), (q0, ())))))
noncomputable def L47_3 (a5 : Int) (b0_1 : (List Bool)) (b0_2 : (List Bool)) (b0_3 : (List Int)) (b0_4 : Int) (b0_5 : Int) (b0_6 : Int) (q0 : (List Int)) : Option ((Unit × Unit) × ((Unit × ((List Bool) × ((List Bool) × ((List Int) × (Int × (Int × (Int × Unit))))))) × ((Unit × Unit) × Unit)) × ((List Int) × Unit)) := iter (fun x : ((Unit × (Unit × (Int × Unit))) × ((Unit × ((List Bool) × ((List Bool) × ((List Int) × (Int × (Int × (Int × Unit))))))) × ((Unit × Unit) × Unit)) × ((List Int) × Unit)) => T47_3 x.1.2.2.1 x.2.1.1.2.1 x.2.1.1.2.2.1 x.2.1.1.2.2.2.1 x.2.1.1.2.2.2.2.1 x.2.1.1.2.2.2.2.2.1 x.2.1.1.2.2.2.2.2.2.1 x.2.2.1) 300 (((), (), a5, ()), (((), b0_1, b0_2, b0_3, b0_4, b0_5, b0_6, ()), ((), ()), ()), (q0, ()))
noncomputable def k47_3 : Con := ⟨i47_3, o47_3, fun x => L47_3 x.1.2.2.1 x.2.1.1.2.1 x.2.1.1.2.2.1 x.2.1.1.2.2.2.1 x.2.1.1.2.2.2.2.1 x.2.1.1.2.2.2.2.2.1 x.2.1.1.2.2.2.2.2.2.1 x.2.2.1⟩
theorem e47_3 (x : i47_3.E) : vround Try.prog C47_3 LO47_3 Try.f47.ntmps l47_3 i47_3 o47_3 x = T47_3 x.1.2.2.1 x.2.1.1.2.1 x.2.1.1.2.2.1 x.2.1.1.2.2.2.1 x.2.1.1.2.2.2.2.1 x.2.1.1.2.2.2.2.2.1 x.2.1.1.2.2.2.2.2.2.1 x.2.2.1 := by kernel_rfl
theorem k47_3_ok : Con.LOK Try.prog Try.f47.ntmps l47_3 k47_3 := Con.LOK.fuel (loop_ok C47_3_ok (noL (by kernel_rfl)) i47_3 o47_3) 300 (funext e47_3)
noncomputable def C47 : Tab := [(60, c60)]
theorem C47_ok : TabOK Try.prog C47 := ⟨c60_ok, trivial⟩
noncomputable def LO47 : Tab := [(3, k47_3)]
noncomputable def i47 : Tm := { sl := [(0, .p 0 0)], bx := [[.mv 1, .sg 64 .b, .sg 64 .b, .v (.l (.i .u64)), .v (.i .u64), .v (.i .i64), .v (.i .u64)], [.mx 0 []]], bf := [] }
noncomputable def o47 : OT := (.ret { sl := [(0, .v (.l (.i .i64)))], bx := [[.mv 1, .sg 64 .b, .sg 64 .b, .v (.l (.i .u64)), .v (.i .u64), .v (.i .i64), .v (.i .u64)], [.mx 0 []]], bf := [] })
noncomputable def F47 (b0_1 : (List Bool)) (b0_2 : (List Bool)) (b0_3 : (List Int)) (b0_4 : Int) (b0_5 : Int) (b0_6 : Int) : Option (((List Int) × Unit) × ((Unit × ((List Bool) × ((List Bool) × ((List Int) × (Int × (Int × (Int × Unit))))))) × ((Unit × Unit) × Unit)) × Unit) :=
 ((L47_3 0 b0_1 b0_2 b0_3 b0_4 b0_5 b0_6 ([] : List Int)).bind fun y0 => (some ((y0.2.2.1, ()), (((), y0.2.1.1.2.1, y0.2.1.1.2.2.1, y0.2.1.1.2.2.2.1, y0.2.1.1.2.2.2.2.1, y0.2.1.1.2.2.2.2.2.1, y0.2.1.1.2.2.2.2.2.2.1, ()), ((), ()), ()), ())))
noncomputable def c47 : Con := ⟨i47, o47, fun x => F47 x.2.1.1.2.1 x.2.1.1.2.2.1 x.2.1.1.2.2.2.1 x.2.1.1.2.2.2.2.1 x.2.1.1.2.2.2.2.2.1 x.2.1.1.2.2.2.2.2.2.1⟩
theorem e47 (x : i47.E) : vfn Try.prog C47 LO47 Try.f47 b47 i47 o47 x = c47.F x := by kernel_rfl
theorem c47_ok : Con.OK Try.prog 47 c47 := (fn_ok C47_ok (fun _ => rfl) Try.func47 body47 (loops_of (l := [l47_3]) (by kernel_rfl) (show LoopsOK Try.prog Try.f47.ntmps [l47_3] LO47 from ⟨k47_3_ok, trivial⟩)) i47 o47).congr fun x => (e47 x).symm
noncomputable def b48 : Code := (.seq (.region 0 (regOf Try.f48 0) false) (.seq (.seq (.region 1 (regOf Try.f48 1) false) (.cond (.tmp 14) .ret .skip)) (.seq (.region 2 (regOf Try.f48 2) true) (.region 3 (regOf Try.f48 3) true))))
theorem body48 : Try.f48.body = some b48 := by kernel_rfl
noncomputable def C48 : Tab := [(46, c46)]
theorem C48_ok : TabOK Try.prog C48 := ⟨c46_ok, trivial⟩
noncomputable def LO48 : Tab := []
noncomputable def i48 : Tm := { sl := [(0, .x), (1, .p 0 0), (2, .v (.p (.i .i64) (.p (.l (.i .u64)) (.p (.i .u64) .u))))], bx := [PNN], bf := [] }
noncomputable def o48 : OT := (.ret { sl := [], bx := [PNN], bf := [] })
noncomputable def F48 (a2 : (Int × ((List Int) × (Int × Unit)))) (b0_0 : (List Int)) (b0_1 : Int) (b0_2 : A3) (b0_3 : Int) (b0_4 : Int) : Option (Unit × (TNN × Unit) × Unit) :=
 (bif (decide ((a2.1 : Int) < 0)) then (some ((), ((b0_0, b0_1, b0_2, b0_3, b0_4, (), ()), ()), ())) else (bif (decide ((a2.1 : Int) ≥ 64)) then (some ((), ((b0_0, b0_1, b0_2, b0_3, b0_4, (), ()), ()), ())) else (bif (decide (0 ≤ (a2.1 : Int) ∧ (a2.1 : Int) < ((64 : Nat) : Int))) then (bif (decide ((a2.1 : Int).toNat < 64)) then ((F46 (((b0_2).getD (a2.1 : Int).toNat ((0 : Int), ([], ((0 : Int), ())))).2.1) a2.2.1).bind fun y0 => (bif (decide ((a2.1 : Int).toNat < 64)) then (bif (decide ((a2.1 : Int).toNat < 64)) then (bif (decide ((a2.1 : Int).toNat < 64)) then (bif (decide ((a2.1 : Int).toNat < 64)) then (some ((), ((b0_0, b0_1, ((((((b0_2).set (a2.1 : Int).toNat (a2.1, (((b0_2).getD (a2.1 : Int).toNat ((0 : Int), ([], ((0 : Int), ())))).2.1, (((b0_2).getD (a2.1 : Int).toNat ((0 : Int), ([], ((0 : Int), ())))).2.2.1, ()))))).set (a2.1 : Int).toNat (((((b0_2).set (a2.1 : Int).toNat (a2.1, (((b0_2).getD (a2.1 : Int).toNat ((0 : Int), ([], ((0 : Int), ())))).2.1, (((b0_2).getD (a2.1 : Int).toNat ((0 : Int), ([], ((0 : Int), ())))).2.2.1, ()))))).getD (a2.1 : Int).toNat ((0 : Int), ([], ((0 : Int), ())))).1, (y0.1.1, (((((b0_2).set (a2.1 : Int).toNat (a2.1, (((b0_2).getD (a2.1 : Int).toNat ((0 : Int), ([], ((0 : Int), ())))).2.1, (((b0_2).getD (a2.1 : Int).toNat ((0 : Int), ([], ((0 : Int), ())))).2.2.1, ()))))).getD (a2.1 : Int).toNat ((0 : Int), ([], ((0 : Int), ())))).2.2.1, ()))))).set (a2.1 : Int).toNat (((((((b0_2).set (a2.1 : Int).toNat (a2.1, (((b0_2).getD (a2.1 : Int).toNat ((0 : Int), ([], ((0 : Int), ())))).2.1, (((b0_2).getD (a2.1 : Int).toNat ((0 : Int), ([], ((0 : Int), ())))).2.2.1, ()))))).set (a2.1 : Int).toNat (((((b0_2).set (a2.1 : Int).toNat (a2.1, (((b0_2).getD (a2.1 : Int).toNat ((0 : Int), ([], ((0 : Int), ())))).2.1, (((b0_2).getD (a2.1 : Int).toNat ((0 : Int), ([], ((0 : Int), ())))).2.2.1, ()))))).getD (a2.1 : Int).toNat ((0 : Int), ([], ((0 : Int), ())))).1, (y0.1.1, (((((b0_2).set (a2.1 : Int).toNat (a2.1, (((b0_2).getD (a2.1 : Int).toNat ((0 : Int), ([], ((0 : Int), ())))).2.1, (((b0_2).getD (a2.1 : Int).toNat ((0 : Int), ([], ((0 : Int), ())))).2.2.1, ()))))).getD (a2.1 : Int).toNat ((0 : Int), ([], ((0 : Int), ())))).2.2.1, ()))))).getD (a2.1 : Int).toNat ((0 : Int), ([], ((0 : Int), ())))).1, (((((((b0_2).set (a2.1 : Int).toNat (a2.1, (((b0_2).getD (a2.1 : Int).toNat ((0 : Int), ([], ((0 : Int), ())))).2.1, (((b0_2).getD (a2.1 : Int).toNat ((0 : Int), ([], ((0 : Int), ())))).2.2.1, ()))))).set (a2.1 : Int).toNat (((((b0_2).set (a2.1 : Int).toNat (a2.1, (((b0_2).getD (a2.1 : Int).toNat ((0 : Int), ([], ((0 : Int), ())))).2.1, (((b0_2).getD (a2.1 : Int).toNat ((0 : Int), ([], ((0 : Int), ())))).2.2.1, ()))))).getD (a2.1 : Int).toNat ((0 : Int), ([], ((0 : Int), ())))).1, (y0.1.1, (((((b0_2).set (a2.1 : Int).toNat (a2.1, (((b0_2).getD (a2.1 : Int).toNat ((0 : Int), ([], ((0 : Int), ())))).2.1, (((b0_2).getD (a2.1 : Int).toNat ((0 : Int), ([], ((0 : Int), ())))).2.2.1, ()))))).getD (a2.1 : Int).toNat ((0 : Int), ([], ((0 : Int), ())))).2.2.1, ()))))).getD (a2.1 : Int).toNat ((0 : Int), ([], ((0 : Int), ())))).2.1, ((if (a2.2.2.1 : Int) > ((b0_2).getD (a2.1 : Int).toNat ((0 : Int), ([], ((0 : Int), ())))).2.2.1 then a2.2.2.1 else ((b0_2).getD (a2.1 : Int).toNat ((0 : Int), ([], ((0 : Int), ())))).2.2.1), ())))), b0_3, b0_4, (), ()), ()), ())) else none) else none) else none) else none)) else none) else none)))
noncomputable def c48 : Con := ⟨i48, o48, fun x => F48 x.1.2.2.1 x.2.1.1.1 x.2.1.1.2.1 x.2.1.1.2.2.1 x.2.1.1.2.2.2.1 x.2.1.1.2.2.2.2.1⟩
theorem e48 (x : i48.E) : vfn Try.prog C48 LO48 Try.f48 b48 i48 o48 x = c48.F x := by kernel_rfl
theorem c48_ok : Con.OK Try.prog 48 c48 := (fn_ok C48_ok (fun _ => rfl) Try.func48 body48 (noL (by kernel_rfl)) i48 o48).congr fun x => (e48 x).symm
noncomputable def b27b0 : Code := (.seq (.region 0 (regOf Try.f27 0) false) (.seq (.seq (.region 1 (regOf Try.f27 1) false) (.cond (.tmp 14) (.seq (.region 2 (regOf Try.f27 2) false) .ret) .skip)) (.seq (.region 3 (regOf Try.f27 3) false) .ret)))
theorem body27b0 : Try.f27.body = some b27b0 := by kernel_rfl
noncomputable def C27b0 : Tab := []
theorem C27b0_ok : TabOK Try.prog C27b0 := trivial
noncomputable def LO27b0 : Tab := []
noncomputable def i27b0 : Tm := { sl := [(0, .p 0 0), (1, .ki .i64 0)], bx := [PXb, PNN, PNN], bf := [] }
noncomputable def o27b0 : OT := (.ret { sl := [(0, .p 1 0)], bx := [PXb, PNN, PNN], bf := [] })
noncomputable def F27b0 (b0_0 : Int) (b0_1 : A1) (b0_2 : A2) (b1_0 : (List Int)) (b1_1 : Int) (b1_2 : A3) (b1_3 : Int) (b1_4 : Int) (b2_0 : (List Int)) (b2_1 : Int) (b2_2 : A3) (b2_3 : Int) (b2_4 : Int) : Option ((Unit × Unit) × (TX × (TNN × (TNN × Unit))) × Unit) :=
 (some (((), ()), ((b0_0, b0_1, b0_2, UU), (b1_0, b1_1, b1_2, b1_3, b1_4, (), ()), (b2_0, b2_1, b2_2, b2_3, b2_4, (), ()), ()), ()))
noncomputable def c27b0 : Con := ⟨i27b0, o27b0, fun x => F27b0 x.2.1.1.1 x.2.1.1.2.1 x.2.1.1.2.2.1 x.2.1.2.1.1 x.2.1.2.1.2.1 x.2.1.2.1.2.2.1 x.2.1.2.1.2.2.2.1 x.2.1.2.1.2.2.2.2.1 x.2.1.2.2.1.1 x.2.1.2.2.1.2.1 x.2.1.2.2.1.2.2.1 x.2.1.2.2.1.2.2.2.1 x.2.1.2.2.1.2.2.2.2.1⟩
theorem e27b0 (x : i27b0.E) : vfn Try.prog C27b0 LO27b0 Try.f27 b27b0 i27b0 o27b0 x = c27b0.F x := by kernel_rfl
theorem c27b0_ok : Con.OK Try.prog 27 c27b0 := (fn_ok C27b0_ok (fun _ => rfl) Try.func27 body27b0 (noL (by kernel_rfl)) i27b0 o27b0).congr fun x => (e27b0 x).symm
noncomputable def b26b0 : Code := (.seq (.region 0 (regOf Try.f26 0) false) (.region 1 (regOf Try.f26 1) true))
theorem body26b0 : Try.f26.body = some b26b0 := by kernel_rfl
noncomputable def C26b0 : Tab := [(48, c48)]
theorem C26b0_ok : TabOK Try.prog C26b0 := ⟨c48_ok, trivial⟩
noncomputable def LO26b0 : Tab := []
noncomputable def i26b0 : Tm := { sl := [(0, .p 0 0), (1, .ki .i64 0)], bx := [PXb, PNN, PNN], bf := [] }
noncomputable def o26b0 : OT := (.ret { sl := [], bx := [PXb, PNN, PNN], bf := [] })
noncomputable def F26b0 (b0_0 : Int) (b0_1 : A1) (b0_2 : A2) (b1_0 : (List Int)) (b1_1 : Int) (b1_2 : A3) (b1_3 : Int) (b1_4 : Int) (b2_0 : (List Int)) (b2_1 : Int) (b2_2 : A3) (b2_3 : Int) (b2_4 : Int) : Option (Unit × (TX × (TNN × (TNN × Unit))) × Unit) :=
 ((F48 (0, (b1_0, (b1_1, ()))) b1_0 b1_1 b1_2 b1_3 b1_4).bind fun y0 => (some ((), ((b0_0, b0_1, b0_2, UU), (y0.2.1.1.1, y0.2.1.1.2.1, y0.2.1.1.2.2.1, y0.2.1.1.2.2.2.1, y0.2.1.1.2.2.2.2.1, (), ()), (b2_0, b2_1, b2_2, b2_3, b2_4, (), ()), ()), ())))
noncomputable def c26b0 : Con := ⟨i26b0, o26b0, fun x => F26b0 x.2.1.1.1 x.2.1.1.2.1 x.2.1.1.2.2.1 x.2.1.2.1.1 x.2.1.2.1.2.1 x.2.1.2.1.2.2.1 x.2.1.2.1.2.2.2.1 x.2.1.2.1.2.2.2.2.1 x.2.1.2.2.1.1 x.2.1.2.2.1.2.1 x.2.1.2.2.1.2.2.1 x.2.1.2.2.1.2.2.2.1 x.2.1.2.2.1.2.2.2.2.1⟩
theorem e26b0 (x : i26b0.E) : vfn Try.prog C26b0 LO26b0 Try.f26 b26b0 i26b0 o26b0 x = c26b0.F x := by kernel_rfl
theorem c26b0_ok : Con.OK Try.prog 26 c26b0 := (fn_ok C26b0_ok (fun _ => rfl) Try.func26 body26b0 (noL (by kernel_rfl)) i26b0 o26b0).congr fun x => (e26b0 x).symm
noncomputable def l11b0_6 : Code := (.seq (.region 6 (regOf Try.f11 6) false) (.seq (.cond (.tmp 15) .skip (.exit 0)) (.seq (.block 1 (.seq (.region 7 (regOf Try.f11 7) false) (.region 8 (regOf Try.f11 8) true))) (.region 9 (regOf Try.f11 9) false))))
noncomputable def b11b0 : Code := (.seq (.region 0 (regOf Try.f11 0) false) (.seq (.region 1 (regOf Try.f11 1) false) (.seq (.region 2 (regOf Try.f11 2) false) (.seq (.seq (.region 3 (regOf Try.f11 3) false) (.cond (.tmp 12) (.seq (.region 4 (regOf Try.f11 4) false) .ret) .skip)) (.seq (.seq (.region 5 (regOf Try.f11 5) false) (.block 0 (.loop l11b0_6))) (.seq (.region 10 (regOf Try.f11 10) false) (.seq (.region 11 (regOf Try.f11 11) false) .ret)))))))
theorem body11b0 : Try.f11.body = some b11b0 := by kernel_rfl
noncomputable def C11b0_6 : Tab := [(31, c31), (900031, cHot)]
theorem C11b0_6_ok : TabOK Try.prog C11b0_6 := ⟨c31_ok, cHot_ok, trivial⟩
noncomputable def LO11b0_6 : Tab := []
noncomputable def i11b0_6 : Tm := { sl := [(0, .p 0 0), (5, .m tDEv 1), (6, .p 2 0), (14, .v (.i .i64))], bx := [[.v (.i .i64), .sg 64 (.l tDEv), .sg 64 (.l (.l (.i .u64))), .p 2 0, .p 3 0, .nl, .nl, .nl, .nl, .nl, .nl, .nl, .nl, .nl, .nl, .nl, .nl, .nl, .nl, .nl, .nl, .nl, .nl, .nl, .nl, .nl, .nl, .nl, .nl, .nl, .nl, .nl, .nl, .nl, .nl, .nl, .nl, .nl, .nl, .nl, .nl, .nl, .nl, .nl, .nl, .nl, .nl, .nl, .nl, .nl, .nl, .nl, .nl, .nl, .nl, .nl, .nl, .nl, .nl, .nl, .nl, .nl, .nl, .nl, .nl, .nl, .nl], [.r tDEv], PNN, PNN], bf := [] }
noncomputable def o11b0_6 : OT := (.exit 0 { sl := [(5, .m tDEv 4)], bx := [[.v (.i .i64), .sg 64 (.l tDEv), .sg 64 (.l (.l (.i .u64))), .p 2 0, .p 3 0, .nl, .nl, .nl, .nl, .nl, .nl, .nl, .nl, .nl, .nl, .nl, .nl, .nl, .nl, .nl, .nl, .nl, .nl, .nl, .nl, .nl, .nl, .nl, .nl, .nl, .nl, .nl, .nl, .nl, .nl, .nl, .nl, .nl, .nl, .nl, .nl, .nl, .nl, .nl, .nl, .nl, .nl, .nl, .nl, .nl, .nl, .nl, .nl, .nl, .nl, .nl, .nl, .nl, .nl, .nl, .nl, .nl, .nl, .nl, .nl, .nl, .nl], [.g], PNN, PNN, [.r tDEv]], bf := [] })
noncomputable def T11b0_6 (a14 : Int) (b0_0 : Int) (b0_1 : A1) (b0_2 : A2) (b1_0 : A4) (b2_0 : (List Int)) (b2_1 : Int) (b2_2 : A3) (b2_3 : Int) (b2_4 : Int) (b3_0 : (List Int)) (b3_1 : Int) (b3_2 : A3) (b3_3 : Int) (b3_4 : Int) : Option (((Unit × (Unit × (Unit × (Int × Unit)))) × (TX × ((A4 × Unit) × (TNN × (TNN × Unit)))) × Unit) ⊕ ((Unit × Unit) × (TX × ((Unit × Unit) × (TNN × (TNN × ((A4 × Unit) × Unit))))) × Unit)) :=
 (bif (decide ((a14 : Int) < 64)) then (bif (decide (0 ≤ (a14 : Int) ∧ (a14 : Int) < ((64 : Nat) : Int))) then (bif (decide ((a14 : Int).toNat < 64)) then ((F31 b2_0 a14).bind fun y0 => (bif (decide (0 ≤ (y0.1.1 : Int) ∧ (y0.1.1 : Int) ≤ (((((b0_1).getD (a14 : Int).toNat [])).length : Nat) : Int))) then (bif (decide ((b1_0).length + (((((b0_1).getD (a14 : Int).toNat [])).take (y0.1.1 : Int).toNat)).length < lim)) then (some (.inl (((), (), (), (IntKind.wrap .i64 (a14 + 1)), ()), ((b0_0, b0_1, b0_2, UU), ((b1_0 ++ ((((b0_1).getD (a14 : Int).toNat [])).take (y0.1.1 : Int).toNat)), ()), (b2_0, b2_1, b2_2, b2_3, b2_4, (), ()), (b3_0, b3_1, b3_2, b3_3, b3_4, (), ()), ()), ()))) else none) else none)) else none) else none) else (some (.inr (((), ()), ((b0_0, b0_1, b0_2, UU), ((), ()), (b2_0, b2_1, b2_2, b2_3, b2_4, (), ()), (b3_0, b3_1, b3_2, b3_3, b3_4, (), ()), (b1_0, ()), ()), ()))))
noncomputable def L11b0_6 (a14 : Int) (b0_0 : Int) (b0_1 : A1) (b0_2 : A2) (b1_0 : A4) (b2_0 : (List Int)) (b2_1 : Int) (b2_2 : A3) (b2_3 : Int) (b2_4 : Int) (b3_0 : (List Int)) (b3_1 : Int) (b3_2 : A3) (b3_3 : Int) (b3_4 : Int) : Option ((Unit × Unit) × (TX × ((Unit × Unit) × (TNN × (TNN × ((A4 × Unit) × Unit))))) × Unit) := iter (fun x : ((Unit × (Unit × (Unit × (Int × Unit)))) × (TX × ((A4 × Unit) × (TNN × (TNN × Unit)))) × Unit) => T11b0_6 x.1.2.2.2.1 x.2.1.1.1 x.2.1.1.2.1 x.2.1.1.2.2.1 x.2.1.2.1.1 x.2.1.2.2.1.1 x.2.1.2.2.1.2.1 x.2.1.2.2.1.2.2.1 x.2.1.2.2.1.2.2.2.1 x.2.1.2.2.1.2.2.2.2.1 x.2.1.2.2.2.1.1 x.2.1.2.2.2.1.2.1 x.2.1.2.2.2.1.2.2.1 x.2.1.2.2.2.1.2.2.2.1 x.2.1.2.2.2.1.2.2.2.2.1) 300 (((), (), (), a14, ()), ((b0_0, b0_1, b0_2, UU), (b1_0, ()), (b2_0, b2_1, b2_2, b2_3, b2_4, (), ()), (b3_0, b3_1, b3_2, b3_3, b3_4, (), ()), ()), ())
noncomputable def k11b0_6 : Con := ⟨i11b0_6, o11b0_6, fun x => L11b0_6 x.1.2.2.2.1 x.2.1.1.1 x.2.1.1.2.1 x.2.1.1.2.2.1 x.2.1.2.1.1 x.2.1.2.2.1.1 x.2.1.2.2.1.2.1 x.2.1.2.2.1.2.2.1 x.2.1.2.2.1.2.2.2.1 x.2.1.2.2.1.2.2.2.2.1 x.2.1.2.2.2.1.1 x.2.1.2.2.2.1.2.1 x.2.1.2.2.2.1.2.2.1 x.2.1.2.2.2.1.2.2.2.1 x.2.1.2.2.2.1.2.2.2.2.1⟩
theorem e11b0_6 (x : i11b0_6.E) : vround Try.prog C11b0_6 LO11b0_6 Try.f11.ntmps l11b0_6 i11b0_6 o11b0_6 x = T11b0_6 x.1.2.2.2.1 x.2.1.1.1 x.2.1.1.2.1 x.2.1.1.2.2.1 x.2.1.2.1.1 x.2.1.2.2.1.1 x.2.1.2.2.1.2.1 x.2.1.2.2.1.2.2.1 x.2.1.2.2.1.2.2.2.1 x.2.1.2.2.1.2.2.2.2.1 x.2.1.2.2.2.1.1 x.2.1.2.2.2.1.2.1 x.2.1.2.2.2.1.2.2.1 x.2.1.2.2.2.1.2.2.2.1 x.2.1.2.2.2.1.2.2.2.2.1 := by kernel_rfl
theorem k11b0_6_ok : Con.LOK Try.prog Try.f11.ntmps l11b0_6 k11b0_6 := Con.LOK.fuel (loop_ok C11b0_6_ok (noL (by kernel_rfl)) i11b0_6 o11b0_6) 300 (funext e11b0_6)
noncomputable def C11b0 : Tab := [(27, c27b0), (31, c31), (32, c32), (900031, cHot)]
theorem C11b0_ok : TabOK Try.prog C11b0 := ⟨c27b0_ok, c31_ok, c32_ok, cHot_ok, trivial⟩
noncomputable def LO11b0 : Tab := [(6, k11b0_6)]
noncomputable def i11b0 : Tm := { sl := [(0, .p 0 0), (1, .ki .i64 0)], bx := [PXb, PNN, PNN], bf := [] }
noncomputable def o11b0 : OT := (.ret { sl := [(0, .v (.l tDEv))], bx := [PXb, PNN, PNN], bf := [] })
noncomputable def F11b0 (b0_0 : Int) (b0_1 : A1) (b0_2 : A2) (b1_0 : (List Int)) (b1_1 : Int) (b1_2 : A3) (b1_3 : Int) (b1_4 : Int) (b2_0 : (List Int)) (b2_1 : Int) (b2_2 : A3) (b2_3 : Int) (b2_4 : Int) : Option ((A4 × Unit) × (TX × (TNN × (TNN × Unit))) × Unit) :=
 ((F27b0 b0_0 b0_1 b0_2 b1_0 b1_1 b1_2 b1_3 b1_4 b2_0 b2_1 b2_2 b2_3 b2_4).bind fun y0 => ((L11b0_6 0 y0.2.1.1.1 y0.2.1.1.2.1 y0.2.1.1.2.2.1 ([] : List DEv) y0.2.1.2.1.1 y0.2.1.2.1.2.1 y0.2.1.2.1.2.2.1 y0.2.1.2.1.2.2.2.1 y0.2.1.2.1.2.2.2.2.1 y0.2.1.2.2.1.1 y0.2.1.2.2.1.2.1 y0.2.1.2.2.1.2.2.1 y0.2.1.2.2.1.2.2.2.1 y0.2.1.2.2.1.2.2.2.2.1).bind fun y1 => ((F32 y1.2.1.2.2.2.2.1.1).bind fun y2 => (some ((y2.2.1.1.1, ()), (y1.2.1.1, y1.2.1.2.2.1, y1.2.1.2.2.2.1, ()), ())))))
noncomputable def F11b0sb (s : (TX × (TNN × (TNN × Unit)))) : Option ((A4 × Unit) × (TX × (TNN × (TNN × Unit))) × Unit) := F11b0 s.1.1 s.1.2.1 s.1.2.2.1 s.2.1.1 s.2.1.2.1 s.2.1.2.2.1 s.2.1.2.2.2.1 s.2.1.2.2.2.2.1 s.2.2.1.1 s.2.2.1.2.1 s.2.2.1.2.2.1 s.2.2.1.2.2.2.1 s.2.2.1.2.2.2.2.1
noncomputable def c11b0 : Con := ⟨i11b0, o11b0, fun x => F11b0 x.2.1.1.1 x.2.1.1.2.1 x.2.1.1.2.2.1 x.2.1.2.1.1 x.2.1.2.1.2.1 x.2.1.2.1.2.2.1 x.2.1.2.1.2.2.2.1 x.2.1.2.1.2.2.2.2.1 x.2.1.2.2.1.1 x.2.1.2.2.1.2.1 x.2.1.2.2.1.2.2.1 x.2.1.2.2.1.2.2.2.1 x.2.1.2.2.1.2.2.2.2.1⟩
theorem e11b0 (x : i11b0.E) : vfn Try.prog C11b0 LO11b0 Try.f11 b11b0 i11b0 o11b0 x = c11b0.F x := by kernel_rfl
theorem c11b0_ok : Con.OK Try.prog 11 c11b0 := (fn_ok C11b0_ok (fun _ => rfl) Try.func11 body11b0 (loops_of (l := [l11b0_6]) (by kernel_rfl) (show LoopsOK Try.prog Try.f11.ntmps [l11b0_6] LO11b0 from ⟨k11b0_6_ok, trivial⟩)) i11b0 o11b0).congr fun x => (e11b0 x).symm
noncomputable def l40b0_5 : Code := (.seq (.region 5 (regOf Try.f40 5) false) (.seq (.cond (.tmp 22) .skip (.exit 0)) (.seq (.block 1 (.seq (.region 6 (regOf Try.f40 6) false) (.region 7 (regOf Try.f40 7) false))) (.region 8 (regOf Try.f40 8) false))))
noncomputable def b40b0 : Code := (.seq (.region 0 (regOf Try.f40 0) false) (.seq (.seq (.region 1 (regOf Try.f40 1) false) (.cond (.tmp 11) (.seq (.region 2 (regOf Try.f40 2) false) .ret) .skip)) (.seq (.region 3 (regOf Try.f40 3) false) (.seq (.seq (.region 4 (regOf Try.f40 4) false) (.block 0 (.loop l40b0_5))) (.seq (.region 9 (regOf Try.f40 9) false) .ret)))))
theorem body40b0 : Try.f40.body = some b40b0 := by kernel_rfl
noncomputable def C40b0_5 : Tab := [(56, c56)]
theorem C40b0_5_ok : TabOK Try.prog C40b0_5 := ⟨c56_ok, trivial⟩
noncomputable def LO40b0_5 : Tab := []
noncomputable def i40b0_5 : Tm := { sl := [(5, .p 0 0), (19, .v (.l tDEv)), (20, .v (.i .i64)), (21, .v (.i .i64))], bx := [[.mv 1, .sg 64 .b, .sg 64 .b, .v (.l (.i .u64)), .v (.i .u64), .v (.i .i64), .v (.i .u64)], [.mx 0 []]], bf := [] }
noncomputable def o40b0_5 : OT := (.exit 0 { sl := [], bx := [[.mv 1, .sg 64 .b, .sg 64 .b, .v (.l (.i .u64)), .v (.i .u64), .v (.i .i64), .v (.i .u64)], [.mx 0 []]], bf := [] })
noncomputable def T40b0_5 (a19 : A4) (a20 : Int) (a21 : Int) (b0_1 : (List Bool)) (b0_2 : (List Bool)) (b0_3 : (List Int)) (b0_4 : Int) (b0_5 : Int) (b0_6 : Int) : Option (((Unit × (A4 × (Int × (Int × Unit)))) × ((Unit × ((List Bool) × ((List Bool) × ((List Int) × (Int × (Int × (Int × Unit))))))) × ((Unit × Unit) × Unit)) × Unit) ⊕ (Unit × ((Unit × ((List Bool) × ((List Bool) × ((List Int) × (Int × (Int × (Int × Unit))))))) × ((Unit × Unit) × Unit)) × Unit)) :=
 (bif (decide ((a21 : Int) < a20)) then (bif (decide (0 ≤ (a21 : Int) ∧ (a21 : Int) < (((a19).length : Nat) : Int))) then ((F56 ((a19).getD (a21 : Int).toNat zE) b0_1 b0_2 b0_3 b0_4 b0_5 b0_6).bind fun y0 => (some (.inl (((), a19, a20, (IntKind.wrap .i64 (a21 + 1)), ()), (((), y0.2.1.1.2.1, y0.2.1.1.2.2.1, y0.2.1.1.2.2.2.1, y0.2.1.1.2.2.2.2.1, y0.2.1.1.2.2.2.2.2.1, y0.2.1.1.2.2.2.2.2.2.1, ()), ((), ()), ()), ())))) else none) else (some (.inr ((), (((), b0_1, b0_2, b0_3, b0_4, b0_5, b0_6, ()), ((), ()), ()), ()))))
noncomputable def L40b0_5 (a19 : A4) (a20 : Int) (a21 : Int) (b0_1 : (List Bool)) (b0_2 : (List Bool)) (b0_3 : (List Int)) (b0_4 : Int) (b0_5 : Int) (b0_6 : Int) : Option (Unit × ((Unit × ((List Bool) × ((List Bool) × ((List Int) × (Int × (Int × (Int × Unit))))))) × ((Unit × Unit) × Unit)) × Unit) := iter (fun x : ((Unit × (A4 × (Int × (Int × Unit)))) × ((Unit × ((List Bool) × ((List Bool) × ((List Int) × (Int × (Int × (Int × Unit))))))) × ((Unit × Unit) × Unit)) × Unit) => T40b0_5 x.1.2.1 x.1.2.2.1 x.1.2.2.2.1 x.2.1.1.2.1 x.2.1.1.2.2.1 x.2.1.1.2.2.2.1 x.2.1.1.2.2.2.2.1 x.2.1.1.2.2.2.2.2.1 x.2.1.1.2.2.2.2.2.2.1) 300 (((), a19, a20, a21, ()), (((), b0_1, b0_2, b0_3, b0_4, b0_5, b0_6, ()), ((), ()), ()), ())
noncomputable def k40b0_5 : Con := ⟨i40b0_5, o40b0_5, fun x => L40b0_5 x.1.2.1 x.1.2.2.1 x.1.2.2.2.1 x.2.1.1.2.1 x.2.1.1.2.2.1 x.2.1.1.2.2.2.1 x.2.1.1.2.2.2.2.1 x.2.1.1.2.2.2.2.2.1 x.2.1.1.2.2.2.2.2.2.1⟩
theorem e40b0_5 (x : i40b0_5.E) : vround Try.prog C40b0_5 LO40b0_5 Try.f40.ntmps l40b0_5 i40b0_5 o40b0_5 x = T40b0_5 x.1.2.1 x.1.2.2.1 x.1.2.2.2.1 x.2.1.1.2.1 x.2.1.1.2.2.1 x.2.1.1.2.2.2.1 x.2.1.1.2.2.2.2.1 x.2.1.1.2.2.2.2.2.1 x.2.1.1.2.2.2.2.2.2.1 := by kernel_rfl
theorem k40b0_5_ok : Con.LOK Try.prog Try.f40.ntmps l40b0_5 k40b0_5 := Con.LOK.fuel (loop_ok C40b0_5_ok (noL (by kernel_rfl)) i40b0_5 o40b0_5) 300 (funext e40b0_5)
noncomputable def C40b0 : Tab := [(11, c11b0), (27, c27b0), (55, c55), (56, c56)]
theorem C40b0_ok : TabOK Try.prog C40b0 := ⟨c11b0_ok, c27b0_ok, c55_ok, c56_ok, trivial⟩
noncomputable def LO40b0 : Tab := [(5, k40b0_5)]
noncomputable def i40b0 : Tm := { sl := [(0, .p 0 0), (1, .ki .i64 0)], bx := [PXb, PNN, PNN], bf := [] }
noncomputable def o40b0 : OT := (.ret { sl := [(0, .p 3 0)], bx := [PXb, PNN, PNN, [.mv 4, .sg 64 .b, .sg 64 .b, .v (.l (.i .u64)), .v (.i .u64), .v (.i .i64), .v (.i .u64)], [.mx 0 []]], bf := [] })
noncomputable def F40b0 (b0_0 : Int) (b0_1 : A1) (b0_2 : A2) (b1_0 : (List Int)) (b1_1 : Int) (b1_2 : A3) (b1_3 : Int) (b1_4 : Int) (b2_0 : (List Int)) (b2_1 : Int) (b2_2 : A3) (b2_3 : Int) (b2_4 : Int) : Option ((Unit × Unit) × (TX × (TNN × (TNN × ((Unit × ((List Bool) × ((List Bool) × ((List Int) × (Int × (Int × (Int × Unit))))))) × ((Unit × Unit) × Unit))))) × Unit) :=
 ((F27b0 b0_0 b0_1 b0_2 b1_0 b1_1 b1_2 b1_3 b1_4 b2_0 b2_1 b2_2 b2_3 b2_4).bind fun y0 => ((F55 y0.2.1.1.1).bind fun y1 => ((F11b0sb y0.2.1).bind fun y2 => ((L40b0_5 y2.1.1 (((y2.1.1).length : Nat) : Int) 0 y1.2.1.1.2.1 y1.2.1.1.2.2.1 y1.2.1.1.2.2.2.1 y1.2.1.1.2.2.2.2.1 y1.2.1.1.2.2.2.2.2.1 y1.2.1.1.2.2.2.2.2.2.1).bind fun y3 => (some (((), ()), (y2.2.1.1, y2.2.1.2.1, y2.2.1.2.2.1, ((), y3.2.1.1.2.1, y3.2.1.1.2.2.1, y3.2.1.1.2.2.2.1, y3.2.1.1.2.2.2.2.1, y3.2.1.1.2.2.2.2.2.1, y3.2.1.1.2.2.2.2.2.2.1, ()), ((), ()), ()), ()))))))
noncomputable def F40b0sb (s : (TX × (TNN × (TNN × Unit)))) : Option ((Unit × Unit) × (TX × (TNN × (TNN × ((Unit × ((List Bool) × ((List Bool) × ((List Int) × (Int × (Int × (Int × Unit))))))) × ((Unit × Unit) × Unit))))) × Unit) := F40b0 s.1.1 s.1.2.1 s.1.2.2.1 s.2.1.1 s.2.1.2.1 s.2.1.2.2.1 s.2.1.2.2.2.1 s.2.1.2.2.2.2.1 s.2.2.1.1 s.2.2.1.2.1 s.2.2.1.2.2.1 s.2.2.1.2.2.2.1 s.2.2.1.2.2.2.2.1
noncomputable def c40b0 : Con := ⟨i40b0, o40b0, fun x => F40b0 x.2.1.1.1 x.2.1.1.2.1 x.2.1.1.2.2.1 x.2.1.2.1.1 x.2.1.2.1.2.1 x.2.1.2.1.2.2.1 x.2.1.2.1.2.2.2.1 x.2.1.2.1.2.2.2.2.1 x.2.1.2.2.1.1 x.2.1.2.2.1.2.1 x.2.1.2.2.1.2.2.1 x.2.1.2.2.1.2.2.2.1 x.2.1.2.2.1.2.2.2.2.1⟩
theorem e40b0 (x : i40b0.E) : vfn Try.prog C40b0 LO40b0 Try.f40 b40b0 i40b0 o40b0 x = c40b0.F x := by kernel_rfl
theorem c40b0_ok : Con.OK Try.prog 40 c40b0 := (fn_ok C40b0_ok (fun _ => rfl) Try.func40 body40b0 (loops_of (l := [l40b0_5]) (by kernel_rfl) (show LoopsOK Try.prog Try.f40.ntmps [l40b0_5] LO40b0 from ⟨k40b0_5_ok, trivial⟩)) i40b0 o40b0).congr fun x => (e40b0 x).symm
noncomputable def b43b0 : Code := (.seq (.region 0 (regOf Try.f43 0) false) (.seq (.region 1 (regOf Try.f43 1) false) (.seq (.region 2 (regOf Try.f43 2) true) (.seq (.region 3 (regOf Try.f43 3) false) .ret))))
theorem body43b0 : Try.f43.body = some b43b0 := by kernel_rfl
noncomputable def C43b0 : Tab := [(31, c31), (57, c57)]
theorem C43b0_ok : TabOK Try.prog C43b0 := ⟨c31_ok, c57_ok, trivial⟩
noncomputable def LO43b0 : Tab := []
noncomputable def i43b0 : Tm := { sl := [(0, .p 0 0), (1, .ki .i64 0), (2, .v tDEv)], bx := [PXb, PNN, PNN], bf := [] }
noncomputable def o43b0 : OT := (.ret { sl := [(0, .v tDEv)], bx := [PXb, PNN, PNN], bf := [] })
noncomputable def F43b0 (a2 : DEv) (b0_0 : Int) (b0_1 : A1) (b0_2 : A2) (b1_0 : (List Int)) (b1_1 : Int) (b1_2 : A3) (b1_3 : Int) (b1_4 : Int) (b2_0 : (List Int)) (b2_1 : Int) (b2_2 : A3) (b2_3 : Int) (b2_4 : Int) : Option ((DEv × Unit) × (TX × (TNN × (TNN × Unit))) × Unit) :=
 ((F31 b1_0 0).bind fun y0 => ((F57 (0, ((IntKind.wrap .u64 (y0.1.1 + 1)), ((IntKind.wrap .u64 (b1_1 + 1)), (a2.2.2.2.1, (a2.2.2.2.2.1, (a2.2.2.2.2.2.1, (a2.2.2.2.2.2.2.1, (a2.2.2.2.2.2.2.2.1, ()))))))))).bind fun y1 => (some ((y1.1.1, ()), ((b0_0, b0_1, b0_2, UU), (b1_0, b1_1, b1_2, b1_3, b1_4, (), ()), (b2_0, b2_1, b2_2, b2_3, b2_4, (), ()), ()), ()))))
noncomputable def c43b0 : Con := ⟨i43b0, o43b0, fun x => F43b0 x.1.2.2.1 x.2.1.1.1 x.2.1.1.2.1 x.2.1.1.2.2.1 x.2.1.2.1.1 x.2.1.2.1.2.1 x.2.1.2.1.2.2.1 x.2.1.2.1.2.2.2.1 x.2.1.2.1.2.2.2.2.1 x.2.1.2.2.1.1 x.2.1.2.2.1.2.1 x.2.1.2.2.1.2.2.1 x.2.1.2.2.1.2.2.2.1 x.2.1.2.2.1.2.2.2.2.1⟩
theorem e43b0 (x : i43b0.E) : vfn Try.prog C43b0 LO43b0 Try.f43 b43b0 i43b0 o43b0 x = c43b0.F x := by kernel_rfl
theorem c43b0_ok : Con.OK Try.prog 43 c43b0 := (fn_ok C43b0_ok (fun _ => rfl) Try.func43 body43b0 (noL (by kernel_rfl)) i43b0 o43b0).congr fun x => (e43b0 x).symm
noncomputable def b16b0 : Code := (.seq (.region 0 (regOf Try.f16 0) false) (.seq (.region 1 (regOf Try.f16 1) false) (.seq (.seq (.region 2 (regOf Try.f16 2) false) (.cond (.tmp 15) (.seq (.region 3 (regOf Try.f16 3) false) .ret) .skip)) (.seq (.region 4 (regOf Try.f16 4) false) (.seq (.block 0 (.seq (.region 5 (regOf Try.f16 5) false) (.cond (.tmp 20) (.seq (.region 6 (regOf Try.f16 6) false) .ret) (.seq (.region 7 (regOf Try.f16 7) false) (.cond (.tmp 26) (.seq (.region 8 (regOf Try.f16 8) false) .ret) .skip))))) (.seq (.region 9 (regOf Try.f16 9) false) (.seq (.seq (.region 10 (regOf Try.f16 10) false) (.seq (.region 11 (regOf Try.f16 11) false) (.cond (.tmp 38) (.seq (.region 12 (regOf Try.f16 12) false) .ret) .skip))) (.seq (.seq (.region 13 (regOf Try.f16 13) false) (.cond (.tmp 49) (.seq (.region 14 (regOf Try.f16 14) false) .ret) .skip)) (.seq (.region 15 (regOf Try.f16 15) false) .ret)))))))))
theorem body16b0 : Try.f16.body = some b16b0 := by kernel_rfl
noncomputable def C16b0 : Tab := [(12, c12), (27, c27b0), (40, c40b0), (41, c41), (42, c42), (43, c43b0)]
theorem C16b0_ok : TabOK Try.prog C16b0 := ⟨c12_ok, c27b0_ok, c40b0_ok, c41_ok, c42_ok, c43b0_ok, trivial⟩
noncomputable def LO16b0 : Tab := []
noncomputable def i16b0 : Tm := { sl := [(0, .p 0 0), (1, .ki .i64 0), (2, .v tDEv)], bx := [PXb, PNN, PNN], bf := [] }
noncomputable def o16b0 : OT := (.ret { sl := [(0, .v tDEv), (1, .v (.i .i64))], bx := [PXb, PNN, PNN], bf := [] })
noncomputable def F16b0 (a2 : DEv) (b0_0 : Int) (b0_1 : A1) (b0_2 : A2) (b1_0 : (List Int)) (b1_1 : Int) (b1_2 : A3) (b1_3 : Int) (b1_4 : Int) (b2_0 : (List Int)) (b2_1 : Int) (b2_2 : A3) (b2_3 : Int) (b2_4 : Int) : Option ((DEv × (Int × Unit)) × (TX × (TNN × (TNN × Unit))) × Unit) :=
 ((F27b0 b0_0 b0_1 b0_2 b1_0 b1_1 b1_2 b1_3 b1_4 b2_0 b2_1 b2_2 b2_3 b2_4).bind fun y0 => ((F40b0sb y0.2.1).bind fun y1 => ((F41 0 y1.2.1.2.2.2.1.2.1 y1.2.1.2.2.2.1.2.2.1 y1.2.1.2.2.2.1.2.2.2.1 y1.2.1.2.2.2.1.2.2.2.2.1 y1.2.1.2.2.2.1.2.2.2.2.2.1 y1.2.1.2.2.2.1.2.2.2.2.2.2.1).bind fun y2 => (bif (!y2.1.1) then (some (((0, (0, (0, (0, (ByteArray.empty, (([] : List Int), (0, (0, ())))))))), 11, ()), (y1.2.1.1, y1.2.1.2.1, y1.2.1.2.2.1, ()), ())) else ((F42 0 y2.2.1.1.2.1 y2.2.1.1.2.2.1 y2.2.1.1.2.2.2.1 y2.2.1.1.2.2.2.2.1 y2.2.1.1.2.2.2.2.2.1 y2.2.1.1.2.2.2.2.2.2.1).bind fun y3 => (bif y3.1.1 then (some (((0, (0, (0, (0, (ByteArray.empty, (([] : List Int), (0, (0, ())))))))), 12, ()), (y1.2.1.1, y1.2.1.2.1, y1.2.1.2.2.1, ()), ())) else ((F43b0 a2 y1.2.1.1.1 y1.2.1.1.2.1 y1.2.1.1.2.2.1 y1.2.1.2.1.1 y1.2.1.2.1.2.1 y1.2.1.2.1.2.2.1 y1.2.1.2.1.2.2.2.1 y1.2.1.2.1.2.2.2.2.1 y1.2.1.2.2.1.1 y1.2.1.2.2.1.2.1 y1.2.1.2.2.1.2.2.1 y1.2.1.2.2.1.2.2.2.1 y1.2.1.2.2.1.2.2.2.2.1).bind fun y4 => ((F12 y4.1.1).bind fun y5 => (bif ((y5.1.1 : Int) != 0) then (some (((0, (0, (0, (0, (ByteArray.empty, (([] : List Int), (0, (0, ())))))))), y5.1.1, ()), y4.2.1, ())) else (bif ((y4.1.1.2.2.2.1 : Int) == 5) then ((F41 y4.1.1.2.2.2.2.2.2.2.1 y3.2.1.1.2.1 y3.2.1.1.2.2.1 y3.2.1.1.2.2.2.1 y3.2.1.1.2.2.2.2.1 y3.2.1.1.2.2.2.2.2.1 y3.2.1.1.2.2.2.2.2.2.1).bind fun y6 => (bif y6.1.1 then (some (((0, (0, (0, (0, (ByteArray.empty, (([] : List Int), (0, (0, ())))))))), 10, ()), y4.2.1, ())) else (some ((y4.1.1, 0, ()), y4.2.1, ())))) else (some ((y4.1.1, 0, ()), y4.2.1, ()))))))))))))
noncomputable def c16b0 : Con := ⟨i16b0, o16b0, fun x => F16b0 x.1.2.2.1 x.2.1.1.1 x.2.1.1.2.1 x.2.1.1.2.2.1 x.2.1.2.1.1 x.2.1.2.1.2.1 x.2.1.2.1.2.2.1 x.2.1.2.1.2.2.2.1 x.2.1.2.1.2.2.2.2.1 x.2.1.2.2.1.1 x.2.1.2.2.1.2.1 x.2.1.2.2.1.2.2.1 x.2.1.2.2.1.2.2.2.1 x.2.1.2.2.1.2.2.2.2.1⟩
theorem e16b0 (x : i16b0.E) : vfn Try.prog C16b0 LO16b0 Try.f16 b16b0 i16b0 o16b0 x = c16b0.F x := by kernel_rfl
theorem c16b0_ok : Con.OK Try.prog 16 c16b0 := (fn_ok C16b0_ok (fun _ => rfl) Try.func16 body16b0 (noL (by kernel_rfl)) i16b0 o16b0).congr fun x => (e16b0 x).symm
noncomputable def b9b0 : Code := (.seq (.region 0 (regOf Try.f9 0) false) (.seq (.region 1 (regOf Try.f9 1) false) (.seq (.seq (.region 2 (regOf Try.f9 2) false) (.cond (.tmp 17) (.seq (.region 3 (regOf Try.f9 3) false) .ret) .skip)) (.seq (.region 4 (regOf Try.f9 4) false) (.seq (.region 5 (regOf Try.f9 5) true) (.seq (.region 6 (regOf Try.f9 6) true) (.seq (.region 7 (regOf Try.f9 7) false) (.seq (.region 8 (regOf Try.f9 8) false) .ret))))))))
theorem body9b0 : Try.f9.body = some b9b0 := by kernel_rfl
noncomputable def C9b0 : Tab := [(16, c16b0), (18, c18), (26, c26b0)]
theorem C9b0_ok : TabOK Try.prog C9b0 := ⟨c16b0_ok, c18_ok, c26b0_ok, trivial⟩
noncomputable def LO9b0 : Tab := []
noncomputable def i9b0 : Tm := { sl := [(0, .p 0 0), (1, .ki .i64 0), (2, .v tDEv)], bx := [PXb, PNN, PNN], bf := [] }
noncomputable def o9b0 : OT := (.ret { sl := [(0, .v (.i .i64))], bx := [PXb, PNN, PNN], bf := [] })
noncomputable def F9b0 (a2 : DEv) (b0_0 : Int) (b0_1 : A1) (b0_2 : A2) (b1_0 : (List Int)) (b1_1 : Int) (b1_2 : A3) (b1_3 : Int) (b1_4 : Int) (b2_0 : (List Int)) (b2_1 : Int) (b2_2 : A3) (b2_3 : Int) (b2_4 : Int) : Option ((Int × Unit) × (TX × (TNN × (TNN × Unit))) × Unit) :=
 ((F16b0 a2 b0_0 b0_1 b0_2 b1_0 b1_1 b1_2 b1_3 b1_4 b2_0 b2_1 b2_2 b2_3 b2_4).bind fun y0 => (bif ((y0.1.2.1 : Int) != 0) then (some ((y0.1.2.1, ()), y0.2.1, ())) else (bif ((decide (0 ≤ ((IntKind.wrap .u64 (y0.1.1.2.1 - 1)) : Int) ∧ ((IntKind.wrap .u64 (y0.1.1.2.1 - 1)) : Int) ≤ (((((y0.2.1.1.2.1).getD (0 : Int).toNat [])).length : Nat) : Int))) && (decide (((IntKind.wrap .u64 (y0.1.1.2.1 - 1)) : Int) = (IntKind.wrap .u64 (y0.1.1.2.1 - 1))))) then (bif (decide ((((((y0.2.1.1.2.1).getD (0 : Int).toNat [])).take ((IntKind.wrap .u64 (y0.1.1.2.1 - 1)) : Int).toNat)).length + ([y0.1.1]).length < lim)) then (bif ((decide (0 ≤ ((IntKind.wrap .u64 (y0.1.1.2.1 - 1)) : Int) ∧ ((IntKind.wrap .u64 (y0.1.1.2.1 - 1)) : Int) ≤ (((((y0.2.1.1.2.2.1).getD (0 : Int).toNat [])).length : Nat) : Int))) && (decide (((IntKind.wrap .u64 (y0.1.1.2.1 - 1)) : Int) = (IntKind.wrap .u64 (y0.1.1.2.1 - 1))))) then (bif (decide ((((((y0.2.1.1.2.2.1).getD (0 : Int).toNat [])).take ((IntKind.wrap .u64 (y0.1.1.2.1 - 1)) : Int).toNat)).length + ([y0.2.1.2.1.1]).length < lim)) then ((F18 y0.2.1.2.1.1 0 y0.1.1.2.1).bind fun y1 => ((F26b0 y0.2.1.1.1 ((y0.2.1.1.2.1).set (0 : Int).toNat (((((y0.2.1.1.2.1).getD (0 : Int).toNat [])).take ((IntKind.wrap .u64 (y0.1.1.2.1 - 1)) : Int).toNat) ++ [y0.1.1])) ((y0.2.1.1.2.2.1).set (0 : Int).toNat (((((y0.2.1.1.2.2.1).getD (0 : Int).toNat [])).take ((IntKind.wrap .u64 (y0.1.1.2.1 - 1)) : Int).toNat) ++ [y0.2.1.2.1.1])) y1.1.1 y0.1.1.2.2.1 y0.2.1.2.1.2.2.1 y0.2.1.2.1.2.2.2.1 y0.2.1.2.1.2.2.2.2.1 y0.2.1.2.2.1.1 y0.2.1.2.2.1.2.1 y0.2.1.2.2.1.2.2.1 y0.2.1.2.2.1.2.2.2.1 y0.2.1.2.2.1.2.2.2.2.1).bind fun y2 => (some ((0, ()), y2.2.1, ())))) else none) else none) else none) else none)))
noncomputable def c9b0 : Con := ⟨i9b0, o9b0, fun x => F9b0 x.1.2.2.1 x.2.1.1.1 x.2.1.1.2.1 x.2.1.1.2.2.1 x.2.1.2.1.1 x.2.1.2.1.2.1 x.2.1.2.1.2.2.1 x.2.1.2.1.2.2.2.1 x.2.1.2.1.2.2.2.2.1 x.2.1.2.2.1.1 x.2.1.2.2.1.2.1 x.2.1.2.2.1.2.2.1 x.2.1.2.2.1.2.2.2.1 x.2.1.2.2.1.2.2.2.2.1⟩
theorem e9b0 (x : i9b0.E) : vfn Try.prog C9b0 LO9b0 Try.f9 b9b0 i9b0 o9b0 x = c9b0.F x := by kernel_rfl
theorem c9b0_ok : Con.OK Try.prog 9 c9b0 := (fn_ok C9b0_ok (fun _ => rfl) Try.func9 body9b0 (noL (by kernel_rfl)) i9b0 o9b0).congr fun x => (e9b0 x).symm
noncomputable def b26a0 : Code := b26b0
theorem body26a0 : Try.f26.body = some b26a0 := by kernel_rfl
noncomputable def C26a0 : Tab := [(48, c48)]
theorem C26a0_ok : TabOK Try.prog C26a0 := ⟨c48_ok, trivial⟩
noncomputable def LO26a0 : Tab := []
noncomputable def i26a0 : Tm := { sl := [(0, .p 0 0), (1, .ki .i64 0)], bx := [PXa, PNN], bf := [] }
noncomputable def o26a0 : OT := (.ret { sl := [], bx := [PXa, PNN], bf := [] })
noncomputable def F26a0 (b0_0 : Int) (b0_1 : A1) (b0_2 : A2) (b1_0 : (List Int)) (b1_1 : Int) (b1_2 : A3) (b1_3 : Int) (b1_4 : Int) : Option (Unit × (TX × (TNN × Unit)) × Unit) :=
 ((F48 (0, (b1_0, (b1_1, ()))) b1_0 b1_1 b1_2 b1_3 b1_4).bind fun y0 => (some ((), ((b0_0, b0_1, b0_2, UU), (y0.2.1.1.1, y0.2.1.1.2.1, y0.2.1.1.2.2.1, y0.2.1.1.2.2.2.1, y0.2.1.1.2.2.2.2.1, (), ()), ()), ())))
noncomputable def c26a0 : Con := ⟨i26a0, o26a0, fun x => F26a0 x.2.1.1.1 x.2.1.1.2.1 x.2.1.1.2.2.1 x.2.1.2.1.1 x.2.1.2.1.2.1 x.2.1.2.1.2.2.1 x.2.1.2.1.2.2.2.1 x.2.1.2.1.2.2.2.2.1⟩
theorem e26a0 (x : i26a0.E) : vfn Try.prog C26a0 LO26a0 Try.f26 b26a0 i26a0 o26a0 x = c26a0.F x := by kernel_rfl
theorem c26a0_ok : Con.OK Try.prog 26 c26a0 := (fn_ok C26a0_ok (fun _ => rfl) Try.func26 body26a0 (noL (by kernel_rfl)) i26a0 o26a0).congr fun x => (e26a0 x).symm
noncomputable def b26b1 : Code := b26b0
theorem body26b1 : Try.f26.body = some b26b1 := by kernel_rfl
noncomputable def C26b1 : Tab := [(48, c48)]
theorem C26b1_ok : TabOK Try.prog C26b1 := ⟨c48_ok, trivial⟩
noncomputable def LO26b1 : Tab := []
noncomputable def i26b1 : Tm := { sl := [(0, .p 0 0), (1, .ki .i64 1)], bx := [PXb, PNN, PNN], bf := [] }
noncomputable def o26b1 : OT := (.ret { sl := [], bx := [PXb, PNN, PNN], bf := [] })
noncomputable def F26b1 (b0_0 : Int) (b0_1 : A1) (b0_2 : A2) (b1_0 : (List Int)) (b1_1 : Int) (b1_2 : A3) (b1_3 : Int) (b1_4 : Int) (b2_0 : (List Int)) (b2_1 : Int) (b2_2 : A3) (b2_3 : Int) (b2_4 : Int) : Option (Unit × (TX × (TNN × (TNN × Unit))) × Unit) :=
 ((F48 (1, (b2_0, (b2_1, ()))) b2_0 b2_1 b2_2 b2_3 b2_4).bind fun y0 => (some ((), ((b0_0, b0_1, b0_2, UU), (b1_0, b1_1, b1_2, b1_3, b1_4, (), ()), (y0.2.1.1.1, y0.2.1.1.2.1, y0.2.1.1.2.2.1, y0.2.1.1.2.2.2.1, y0.2.1.1.2.2.2.2.1, (), ()), ()), ())))
noncomputable def c26b1 : Con := ⟨i26b1, o26b1, fun x => F26b1 x.2.1.1.1 x.2.1.1.2.1 x.2.1.1.2.2.1 x.2.1.2.1.1 x.2.1.2.1.2.1 x.2.1.2.1.2.2.1 x.2.1.2.1.2.2.2.1 x.2.1.2.1.2.2.2.2.1 x.2.1.2.2.1.1 x.2.1.2.2.1.2.1 x.2.1.2.2.1.2.2.1 x.2.1.2.2.1.2.2.2.1 x.2.1.2.2.1.2.2.2.2.1⟩
theorem e26b1 (x : i26b1.E) : vfn Try.prog C26b1 LO26b1 Try.f26 b26b1 i26b1 o26b1 x = c26b1.F x := by kernel_rfl
theorem c26b1_ok : Con.OK Try.prog 26 c26b1 := (fn_ok C26b1_ok (fun _ => rfl) Try.func26 body26b1 (noL (by kernel_rfl)) i26b1 o26b1).congr fun x => (e26b1 x).symm
noncomputable def l8b_3 : Code := (.seq (.region 3 (regOf Try.f8 3) false) (.seq (.cond (.tmp 12) .skip (.exit 0)) (.seq (.block 1 (.seq (.region 4 (regOf Try.f8 4) false) (.seq (.region 5 (regOf Try.f8 5) false) (.region 6 (regOf Try.f8 6) false)))) (.region 7 (regOf Try.f8 7) false))))
noncomputable def b8b : Code := (.seq (.region 0 (regOf Try.f8 0) false) (.seq (.region 1 (regOf Try.f8 1) false) (.seq (.seq (.region 2 (regOf Try.f8 2) false) (.block 0 (.loop l8b_3))) (.seq (.region 8 (regOf Try.f8 8) false) .ret))))
theorem body8b : Try.f8.body = some b8b := by kernel_rfl
noncomputable def C8b : Tab := [(26, c26a0), (26, c26b1), (900007, cHot), (900017, cHot), (700003, cHot)]
theorem C8b_ok : TabOK Try.prog C8b := ⟨c26a0_ok, c26b1_ok, cHot_ok, cHot_ok, cHot_ok, trivial⟩
noncomputable def LO8b : Tab := []
noncomputable def i8b : Tm := { sl := [(0, .ki .i64 2)], bx := [], bf := [] }
noncomputable def o8b : OT := (.ret { sl := [(0, .p 0 0)], bx := [PXb, PNN, PNN], bf := [] })
noncomputable def F8b : Option ((Unit × Unit) × (TX × (TNN × (TNN × Unit))) × Unit) :=
 ((F26a0 2 (List.replicate 64 (([] : List DEv) : A4)) (List.replicate 64 (([] : List (List Int)) : (List (List Int)))) ([] : List Int) 0 (List.replicate 64 ((0, (([] : List Int), (0, ()))) : (Int × ((List Int) × (Int × Unit))))) 0 0).bind fun y0 => ((F26b1 y0.2.1.1.1 y0.2.1.1.2.1 y0.2.1.1.2.2.1 y0.2.1.2.1.1 y0.2.1.2.1.2.1 y0.2.1.2.1.2.2.1 y0.2.1.2.1.2.2.2.1 y0.2.1.2.1.2.2.2.2.1 ([] : List Int) 0 (List.replicate 64 ((0, (([] : List Int), (0, ()))) : (Int × ((List Int) × (Int × Unit))))) 0 0).bind fun y1 => (some (((), ()), y1.2.1, ()))))
noncomputable def c8b : Con := ⟨i8b, o8b, fun x => F8b⟩
theorem e8b (x : i8b.E) : vfn Try.prog C8b LO8b Try.f8 b8b i8b o8b x = F8b := by kernel_rfl
theorem c8b_ok : Con.OK Try.prog 8 c8b := (fn_ok C8b_ok (fun _ => rfl) Try.func8 body8b (show ∀ b' ∈ loopsOf b8b, ∀ con, lookC LO8b (headReg b') = some con → con.LOK Try.prog Try.f8.ntmps b' from fun _ _ _ h => absurd (show (none : Option Con) = some _ from h) (fun h => by cases h)) i8b o8b).congr fun x => (e8b x).symm
noncomputable def b27d1 : Code := b27b0
theorem body27d1 : Try.f27.body = some b27d1 := by kernel_rfl
noncomputable def C27d1 : Tab := []
theorem C27d1_ok : TabOK Try.prog C27d1 := trivial
noncomputable def LO27d1 : Tab := []
noncomputable def i27d1 : Tm := { sl := [(0, .p 0 0), (1, .ki .i64 1)], bx := [PXd, PNN, PNN, PNN], bf := [] }
noncomputable def o27d1 : OT := (.ret { sl := [(0, .p 2 0)], bx := [PXd, PNN, PNN, PNN], bf := [] })
noncomputable def F27d1 (b0_0 : Int) (b0_1 : A1) (b0_2 : A2) (b1_0 : (List Int)) (b1_1 : Int) (b1_2 : A3) (b1_3 : Int) (b1_4 : Int) (b2_0 : (List Int)) (b2_1 : Int) (b2_2 : A3) (b2_3 : Int) (b2_4 : Int) (b3_0 : (List Int)) (b3_1 : Int) (b3_2 : A3) (b3_3 : Int) (b3_4 : Int) : Option ((Unit × Unit) × (TX × (TNN × (TNN × (TNN × Unit)))) × Unit) :=
 (some (((), ()), ((b0_0, b0_1, b0_2, UU), (b1_0, b1_1, b1_2, b1_3, b1_4, (), ()), (b2_0, b2_1, b2_2, b2_3, b2_4, (), ()), (b3_0, b3_1, b3_2, b3_3, b3_4, (), ()), ()), ()))
noncomputable def c27d1 : Con := ⟨i27d1, o27d1, fun x => F27d1 x.2.1.1.1 x.2.1.1.2.1 x.2.1.1.2.2.1 x.2.1.2.1.1 x.2.1.2.1.2.1 x.2.1.2.1.2.2.1 x.2.1.2.1.2.2.2.1 x.2.1.2.1.2.2.2.2.1 x.2.1.2.2.1.1 x.2.1.2.2.1.2.1 x.2.1.2.2.1.2.2.1 x.2.1.2.2.1.2.2.2.1 x.2.1.2.2.1.2.2.2.2.1 x.2.1.2.2.2.1.1 x.2.1.2.2.2.1.2.1 x.2.1.2.2.2.1.2.2.1 x.2.1.2.2.2.1.2.2.2.1 x.2.1.2.2.2.1.2.2.2.2.1⟩
theorem e27d1 (x : i27d1.E) : vfn Try.prog C27d1 LO27d1 Try.f27 b27d1 i27d1 o27d1 x = c27d1.F x := by kernel_rfl
theorem c27d1_ok : Con.OK Try.prog 27 c27d1 := (fn_ok C27d1_ok (fun _ => rfl) Try.func27 body27d1 (noL (by kernel_rfl)) i27d1 o27d1).congr fun x => (e27d1 x).symm
noncomputable def b14d1 : Code := (.seq (.region 0 (regOf Try.f14 0) false) (.seq (.seq (.region 1 (regOf Try.f14 1) false) (.seq (.region 2 (regOf Try.f14 2) false) (.cond (.tmp 10) (.seq (.region 3 (regOf Try.f14 3) false) .ret) .skip))) (.seq (.region 4 (regOf Try.f14 4) false) .ret)))
theorem body14d1 : Try.f14.body = some b14d1 := by kernel_rfl
noncomputable def C14d1 : Tab := [(27, c27d1), (38, c38)]
theorem C14d1_ok : TabOK Try.prog C14d1 := ⟨c27d1_ok, c38_ok, trivial⟩
noncomputable def LO14d1 : Tab := []
noncomputable def i14d1 : Tm := { sl := [(0, .p 0 0), (1, .ki .i64 1)], bx := [PXd, PNN, PNN, PNN], bf := [] }
noncomputable def o14d1 : OT := (.ret { sl := [(0, .v (.l (.i .u64)))], bx := [PXd, PNN, PNN, PNN], bf := [] })
noncomputable def F14d1 (b0_0 : Int) (b0_1 : A1) (b0_2 : A2) (b1_0 : (List Int)) (b1_1 : Int) (b1_2 : A3) (b1_3 : Int) (b1_4 : Int) (b2_0 : (List Int)) (b2_1 : Int) (b2_2 : A3) (b2_3 : Int) (b2_4 : Int) (b3_0 : (List Int)) (b3_1 : Int) (b3_2 : A3) (b3_3 : Int) (b3_4 : Int) : Option (((List Int) × Unit) × (TX × (TNN × (TNN × (TNN × Unit)))) × Unit) :=
 ((F27d1 b0_0 b0_1 b0_2 b1_0 b1_1 b1_2 b1_3 b1_4 b2_0 b2_1 b2_2 b2_3 b2_4 b3_0 b3_1 b3_2 b3_3 b3_4).bind fun y0 => ((F38 y0.2.1.2.2.1.1).bind fun y1 => (some ((y1.1.1, ()), y0.2.1, ()))))
noncomputable def F14d1sd (s : (TX × (TNN × (TNN × (TNN × Unit))))) : Option (((List Int) × Unit) × (TX × (TNN × (TNN × (TNN × Unit)))) × Unit) := F14d1 s.1.1 s.1.2.1 s.1.2.2.1 s.2.1.1 s.2.1.2.1 s.2.1.2.2.1 s.2.1.2.2.2.1 s.2.1.2.2.2.2.1 s.2.2.1.1 s.2.2.1.2.1 s.2.2.1.2.2.1 s.2.2.1.2.2.2.1 s.2.2.1.2.2.2.2.1 s.2.2.2.1.1 s.2.2.2.1.2.1 s.2.2.2.1.2.2.1 s.2.2.2.1.2.2.2.1 s.2.2.2.1.2.2.2.2.1
noncomputable def c14d1 : Con := ⟨i14d1, o14d1, fun x => F14d1 x.2.1.1.1 x.2.1.1.2.1 x.2.1.1.2.2.1 x.2.1.2.1.1 x.2.1.2.1.2.1 x.2.1.2.1.2.2.1 x.2.1.2.1.2.2.2.1 x.2.1.2.1.2.2.2.2.1 x.2.1.2.2.1.1 x.2.1.2.2.1.2.1 x.2.1.2.2.1.2.2.1 x.2.1.2.2.1.2.2.2.1 x.2.1.2.2.1.2.2.2.2.1 x.2.1.2.2.2.1.1 x.2.1.2.2.2.1.2.1 x.2.1.2.2.2.1.2.2.1 x.2.1.2.2.2.1.2.2.2.1 x.2.1.2.2.2.1.2.2.2.2.1⟩
theorem e14d1 (x : i14d1.E) : vfn Try.prog C14d1 LO14d1 Try.f14 b14d1 i14d1 o14d1 x = c14d1.F x := by kernel_rfl
theorem c14d1_ok : Con.OK Try.prog 14 c14d1 := (fn_ok C14d1_ok (fun _ => rfl) Try.func14 body14d1 (noL (by kernel_rfl)) i14d1 o14d1).congr fun x => (e14d1 x).symm
noncomputable def b27d5 : Code := b27b0
theorem body27d5 : Try.f27.body = some b27d5 := by kernel_rfl
noncomputable def C27d5 : Tab := []
theorem C27d5_ok : TabOK Try.prog C27d5 := trivial
noncomputable def LO27d5 : Tab := []
noncomputable def i27d5 : Tm := { sl := [(0, .p 0 0), (1, .ki .i64 5)], bx := [PXd, PNN, PNN, PNN], bf := [] }
noncomputable def o27d5 : OT := (.ret { sl := [(0, .p 3 0)], bx := [PXd, PNN, PNN, PNN], bf := [] })
noncomputable def F27d5 (b0_0 : Int) (b0_1 : A1) (b0_2 : A2) (b1_0 : (List Int)) (b1_1 : Int) (b1_2 : A3) (b1_3 : Int) (b1_4 : Int) (b2_0 : (List Int)) (b2_1 : Int) (b2_2 : A3) (b2_3 : Int) (b2_4 : Int) (b3_0 : (List Int)) (b3_1 : Int) (b3_2 : A3) (b3_3 : Int) (b3_4 : Int) : Option ((Unit × Unit) × (TX × (TNN × (TNN × (TNN × Unit)))) × Unit) :=
 (some (((), ()), ((b0_0, b0_1, b0_2, UU), (b1_0, b1_1, b1_2, b1_3, b1_4, (), ()), (b2_0, b2_1, b2_2, b2_3, b2_4, (), ()), (b3_0, b3_1, b3_2, b3_3, b3_4, (), ()), ()), ()))
noncomputable def c27d5 : Con := ⟨i27d5, o27d5, fun x => F27d5 x.2.1.1.1 x.2.1.1.2.1 x.2.1.1.2.2.1 x.2.1.2.1.1 x.2.1.2.1.2.1 x.2.1.2.1.2.2.1 x.2.1.2.1.2.2.2.1 x.2.1.2.1.2.2.2.2.1 x.2.1.2.2.1.1 x.2.1.2.2.1.2.1 x.2.1.2.2.1.2.2.1 x.2.1.2.2.1.2.2.2.1 x.2.1.2.2.1.2.2.2.2.1 x.2.1.2.2.2.1.1 x.2.1.2.2.2.1.2.1 x.2.1.2.2.2.1.2.2.1 x.2.1.2.2.2.1.2.2.2.1 x.2.1.2.2.2.1.2.2.2.2.1⟩
theorem e27d5 (x : i27d5.E) : vfn Try.prog C27d5 LO27d5 Try.f27 b27d5 i27d5 o27d5 x = c27d5.F x := by kernel_rfl
theorem c27d5_ok : Con.OK Try.prog 27 c27d5 := (fn_ok C27d5_ok (fun _ => rfl) Try.func27 body27d5 (noL (by kernel_rfl)) i27d5 o27d5).congr fun x => (e27d5 x).symm
noncomputable def b26d5 : Code := b26b0
theorem body26d5 : Try.f26.body = some b26d5 := by kernel_rfl
noncomputable def C26d5 : Tab := [(48, c48)]
theorem C26d5_ok : TabOK Try.prog C26d5 := ⟨c48_ok, trivial⟩
noncomputable def LO26d5 : Tab := []
noncomputable def i26d5 : Tm := { sl := [(0, .p 0 0), (1, .ki .i64 5)], bx := [PXd, PNN, PNN, PNN], bf := [] }
noncomputable def o26d5 : OT := (.ret { sl := [], bx := [PXd, PNN, PNN, PNN], bf := [] })
noncomputable def F26d5 (b0_0 : Int) (b0_1 : A1) (b0_2 : A2) (b1_0 : (List Int)) (b1_1 : Int) (b1_2 : A3) (b1_3 : Int) (b1_4 : Int) (b2_0 : (List Int)) (b2_1 : Int) (b2_2 : A3) (b2_3 : Int) (b2_4 : Int) (b3_0 : (List Int)) (b3_1 : Int) (b3_2 : A3) (b3_3 : Int) (b3_4 : Int) : Option (Unit × (TX × (TNN × (TNN × (TNN × Unit)))) × Unit) :=
 ((F48 (5, (b3_0, (b3_1, ()))) b3_0 b3_1 b3_2 b3_3 b3_4).bind fun y0 => (some ((), ((b0_0, b0_1, b0_2, UU), (b1_0, b1_1, b1_2, b1_3, b1_4, (), ()), (b2_0, b2_1, b2_2, b2_3, b2_4, (), ()), (y0.2.1.1.1, y0.2.1.1.2.1, y0.2.1.1.2.2.1, y0.2.1.1.2.2.2.1, y0.2.1.1.2.2.2.2.1, (), ()), ()), ())))
noncomputable def F26d5sd (s : (TX × (TNN × (TNN × (TNN × Unit))))) : Option (Unit × (TX × (TNN × (TNN × (TNN × Unit)))) × Unit) := F26d5 s.1.1 s.1.2.1 s.1.2.2.1 s.2.1.1 s.2.1.2.1 s.2.1.2.2.1 s.2.1.2.2.2.1 s.2.1.2.2.2.2.1 s.2.2.1.1 s.2.2.1.2.1 s.2.2.1.2.2.1 s.2.2.1.2.2.2.1 s.2.2.1.2.2.2.2.1 s.2.2.2.1.1 s.2.2.2.1.2.1 s.2.2.2.1.2.2.1 s.2.2.2.1.2.2.2.1 s.2.2.2.1.2.2.2.2.1
noncomputable def c26d5 : Con := ⟨i26d5, o26d5, fun x => F26d5 x.2.1.1.1 x.2.1.1.2.1 x.2.1.1.2.2.1 x.2.1.2.1.1 x.2.1.2.1.2.1 x.2.1.2.1.2.2.1 x.2.1.2.1.2.2.2.1 x.2.1.2.1.2.2.2.2.1 x.2.1.2.2.1.1 x.2.1.2.2.1.2.1 x.2.1.2.2.1.2.2.1 x.2.1.2.2.1.2.2.2.1 x.2.1.2.2.1.2.2.2.2.1 x.2.1.2.2.2.1.1 x.2.1.2.2.2.1.2.1 x.2.1.2.2.2.1.2.2.1 x.2.1.2.2.2.1.2.2.2.1 x.2.1.2.2.2.1.2.2.2.2.1⟩
theorem e26d5 (x : i26d5.E) : vfn Try.prog C26d5 LO26d5 Try.f26 b26d5 i26d5 o26d5 x = c26d5.F x := by kernel_rfl
theorem c26d5_ok : Con.OK Try.prog 26 c26d5 := (fn_ok C26d5_ok (fun _ => rfl) Try.func26 body26d5 (noL (by kernel_rfl)) i26d5 o26d5).congr fun x => (e26d5 x).symm
noncomputable def l11d5_6 : Code := (.seq (.region 6 (regOf Try.f11 6) false) (.seq (.cond (.tmp 15) .skip (.exit 0)) (.seq (.block 1 (.seq (.region 7 (regOf Try.f11 7) false) (.region 8 (regOf Try.f11 8) true))) (.region 9 (regOf Try.f11 9) false))))
noncomputable def b11d5 : Code := (.seq (.region 0 (regOf Try.f11 0) false) (.seq (.region 1 (regOf Try.f11 1) false) (.seq (.region 2 (regOf Try.f11 2) false) (.seq (.seq (.region 3 (regOf Try.f11 3) false) (.cond (.tmp 12) (.seq (.region 4 (regOf Try.f11 4) false) .ret) .skip)) (.seq (.seq (.region 5 (regOf Try.f11 5) false) (.block 0 (.loop l11d5_6))) (.seq (.region 10 (regOf Try.f11 10) false) (.seq (.region 11 (regOf Try.f11 11) false) .ret)))))))
theorem body11d5 : Try.f11.body = some b11d5 := by kernel_rfl
noncomputable def C11d5_6 : Tab := [(31, c31), (900031, cHot)]
theorem C11d5_6_ok : TabOK Try.prog C11d5_6 := ⟨c31_ok, cHot_ok, trivial⟩
noncomputable def LO11d5_6 : Tab := []
noncomputable def i11d5_6 : Tm := { sl := [(0, .p 0 0), (5, .m tDEv 1), (6, .p 2 0), (14, .v (.i .i64))], bx := [[.v (.i .i64), .sg 64 (.l tDEv), .sg 64 (.l (.l (.i .u64))), .p 3 0, .p 4 0, .nl, .nl, .nl, .p 2 0, .nl, .nl, .nl, .nl, .nl, .nl, .nl, .nl, .nl, .nl, .nl, .nl, .nl, .nl, .nl, .nl, .nl, .nl, .nl, .nl, .nl, .nl, .nl, .nl, .nl, .nl, .nl, .nl, .nl, .nl, .nl, .nl, .nl, .nl, .nl, .nl, .nl, .nl, .nl, .nl, .nl, .nl, .nl, .nl, .nl, .nl, .nl, .nl, .nl, .nl, .nl, .nl, .nl, .nl, .nl, .nl, .nl, .nl], [.r tDEv], PNN, PNN, PNN], bf := [] }
noncomputable def o11d5_6 : OT := (.exit 0 { sl := [(5, .m tDEv 5)], bx := [[.v (.i .i64), .sg 64 (.l tDEv), .sg 64 (.l (.l (.i .u64))), .p 3 0, .p 4 0, .nl, .nl, .nl, .p 2 0, .nl, .nl, .nl, .nl, .nl, .nl, .nl, .nl, .nl, .nl, .nl, .nl, .nl, .nl, .nl, .nl, .nl, .nl, .nl, .nl, .nl, .nl, .nl, .nl, .nl, .nl, .nl, .nl, .nl, .nl, .nl, .nl, .nl, .nl, .nl, .nl, .nl, .nl, .nl, .nl, .nl, .nl, .nl, .nl, .nl, .nl, .nl, .nl, .nl, .nl, .nl, .nl, .nl, .nl, .nl, .nl, .nl, .nl], [.g], PNN, PNN, PNN, [.r tDEv]], bf := [] })
noncomputable def T11d5_6 (a14 : Int) (b0_0 : Int) (b0_1 : A1) (b0_2 : A2) (b1_0 : A4) (b2_0 : (List Int)) (b2_1 : Int) (b2_2 : A3) (b2_3 : Int) (b2_4 : Int) (b3_0 : (List Int)) (b3_1 : Int) (b3_2 : A3) (b3_3 : Int) (b3_4 : Int) (b4_0 : (List Int)) (b4_1 : Int) (b4_2 : A3) (b4_3 : Int) (b4_4 : Int) : Option (((Unit × (Unit × (Unit × (Int × Unit)))) × (TX × ((A4 × Unit) × (TNN × (TNN × (TNN × Unit))))) × Unit) ⊕ ((Unit × Unit) × (TX × ((Unit × Unit) × (TNN × (TNN × (TNN × ((A4 × Unit) × Unit)))))) × Unit)) :=
 (bif (decide ((a14 : Int) < 64)) then (bif (decide (0 ≤ (a14 : Int) ∧ (a14 : Int) < ((64 : Nat) : Int))) then (bif (decide ((a14 : Int).toNat < 64)) then ((F31 b2_0 a14).bind fun y0 => (bif (decide (0 ≤ (y0.1.1 : Int) ∧ (y0.1.1 : Int) ≤ (((((b0_1).getD (a14 : Int).toNat [])).length : Nat) : Int))) then (bif (decide ((b1_0).length + (((((b0_1).getD (a14 : Int).toNat [])).take (y0.1.1 : Int).toNat)).length < lim)) then (some (.inl (((), (), (), (IntKind.wrap .i64 (a14 + 1)), ()), ((b0_0, b0_1, b0_2, UU), ((b1_0 ++ ((((b0_1).getD (a14 : Int).toNat [])).take (y0.1.1 : Int).toNat)), ()), (b2_0, b2_1, b2_2, b2_3, b2_4, (), ()), (b3_0, b3_1, b3_2, b3_3, b3_4, (), ()), (b4_0, b4_1, b4_2, b4_3, b4_4, (), ()), ()), ()))) else none) else none)) else none) else none) else (some (.inr (((), ()), ((b0_0, b0_1, b0_2, UU), ((), ()), (b2_0, b2_1, b2_2, b2_3, b2_4, (), ()), (b3_0, b3_1, b3_2, b3_3, b3_4, (), ()), (b4_0, b4_1, b4_2, b4_3, b4_4, (), ()), (b1_0, ()), ()), ()))))
noncomputable def L11d5_6 (a14 : Int) (b0_0 : Int) (b0_1 : A1) (b0_2 : A2) (b1_0 : A4) (b2_0 : (List Int)) (b2_1 : Int) (b2_2 : A3) (b2_3 : Int) (b2_4 : Int) (b3_0 : (List Int)) (b3_1 : Int) (b3_2 : A3) (b3_3 : Int) (b3_4 : Int) (b4_0 : (List Int)) (b4_1 : Int) (b4_2 : A3) (b4_3 : Int) (b4_4 : Int) : Option ((Unit × Unit) × (TX × ((Unit × Unit) × (TNN × (TNN × (TNN × ((A4 × Unit) × Unit)))))) × Unit) := iter (fun x : ((Unit × (Unit × (Unit × (Int × Unit)))) × (TX × ((A4 × Unit) × (TNN × (TNN × (TNN × Unit))))) × Unit) => T11d5_6 x.1.2.2.2.1 x.2.1.1.1 x.2.1.1.2.1 x.2.1.1.2.2.1 x.2.1.2.1.1 x.2.1.2.2.1.1 x.2.1.2.2.1.2.1 x.2.1.2.2.1.2.2.1 x.2.1.2.2.1.2.2.2.1 x.2.1.2.2.1.2.2.2.2.1 x.2.1.2.2.2.1.1 x.2.1.2.2.2.1.2.1 x.2.1.2.2.2.1.2.2.1 x.2.1.2.2.2.1.2.2.2.1 x.2.1.2.2.2.1.2.2.2.2.1 x.2.1.2.2.2.2.1.1 x.2.1.2.2.2.2.1.2.1 x.2.1.2.2.2.2.1.2.2.1 x.2.1.2.2.2.2.1.2.2.2.1 x.2.1.2.2.2.2.1.2.2.2.2.1) 300 (((), (), (), a14, ()), ((b0_0, b0_1, b0_2, UU), (b1_0, ()), (b2_0, b2_1, b2_2, b2_3, b2_4, (), ()), (b3_0, b3_1, b3_2, b3_3, b3_4, (), ()), (b4_0, b4_1, b4_2, b4_3, b4_4, (), ()), ()), ())
noncomputable def k11d5_6 : Con := ⟨i11d5_6, o11d5_6, fun x => L11d5_6 x.1.2.2.2.1 x.2.1.1.1 x.2.1.1.2.1 x.2.1.1.2.2.1 x.2.1.2.1.1 x.2.1.2.2.1.1 x.2.1.2.2.1.2.1 x.2.1.2.2.1.2.2.1 x.2.1.2.2.1.2.2.2.1 x.2.1.2.2.1.2.2.2.2.1 x.2.1.2.2.2.1.1 x.2.1.2.2.2.1.2.1 x.2.1.2.2.2.1.2.2.1 x.2.1.2.2.2.1.2.2.2.1 x.2.1.2.2.2.1.2.2.2.2.1 x.2.1.2.2.2.2.1.1 x.2.1.2.2.2.2.1.2.1 x.2.1.2.2.2.2.1.2.2.1 x.2.1.2.2.2.2.1.2.2.2.1 x.2.1.2.2.2.2.1.2.2.2.2.1⟩
theorem e11d5_6 (x : i11d5_6.E) : vround Try.prog C11d5_6 LO11d5_6 Try.f11.ntmps l11d5_6 i11d5_6 o11d5_6 x = T11d5_6 x.1.2.2.2.1 x.2.1.1.1 x.2.1.1.2.1 x.2.1.1.2.2.1 x.2.1.2.1.1 x.2.1.2.2.1.1 x.2.1.2.2.1.2.1 x.2.1.2.2.1.2.2.1 x.2.1.2.2.1.2.2.2.1 x.2.1.2.2.1.2.2.2.2.1 x.2.1.2.2.2.1.1 x.2.1.2.2.2.1.2.1 x.2.1.2.2.2.1.2.2.1 x.2.1.2.2.2.1.2.2.2.1 x.2.1.2.2.2.1.2.2.2.2.1 x.2.1.2.2.2.2.1.1 x.2.1.2.2.2.2.1.2.1 x.2.1.2.2.2.2.1.2.2.1 x.2.1.2.2.2.2.1.2.2.2.1 x.2.1.2.2.2.2.1.2.2.2.2.1 := by kernel_rfl
theorem k11d5_6_ok : Con.LOK Try.prog Try.f11.ntmps l11d5_6 k11d5_6 := Con.LOK.fuel (loop_ok C11d5_6_ok (noL (by kernel_rfl)) i11d5_6 o11d5_6) 300 (funext e11d5_6)
noncomputable def C11d5 : Tab := [(27, c27d5), (31, c31), (32, c32), (900031, cHot)]
theorem C11d5_ok : TabOK Try.prog C11d5 := ⟨c27d5_ok, c31_ok, c32_ok, cHot_ok, trivial⟩
noncomputable def LO11d5 : Tab := [(6, k11d5_6)]
noncomputable def i11d5 : Tm := { sl := [(0, .p 0 0), (1, .ki .i64 5)], bx := [PXd, PNN, PNN, PNN], bf := [] }
noncomputable def o11d5 : OT := (.ret { sl := [(0, .v (.l tDEv))], bx := [PXd, PNN, PNN, PNN], bf := [] })
noncomputable def F11d5 (b0_0 : Int) (b0_1 : A1) (b0_2 : A2) (b1_0 : (List Int)) (b1_1 : Int) (b1_2 : A3) (b1_3 : Int) (b1_4 : Int) (b2_0 : (List Int)) (b2_1 : Int) (b2_2 : A3) (b2_3 : Int) (b2_4 : Int) (b3_0 : (List Int)) (b3_1 : Int) (b3_2 : A3) (b3_3 : Int) (b3_4 : Int) : Option ((A4 × Unit) × (TX × (TNN × (TNN × (TNN × Unit)))) × Unit) :=
 ((F27d5 b0_0 b0_1 b0_2 b1_0 b1_1 b1_2 b1_3 b1_4 b2_0 b2_1 b2_2 b2_3 b2_4 b3_0 b3_1 b3_2 b3_3 b3_4).bind fun y0 => ((L11d5_6 0 y0.2.1.1.1 y0.2.1.1.2.1 y0.2.1.1.2.2.1 ([] : List DEv) y0.2.1.2.2.2.1.1 y0.2.1.2.2.2.1.2.1 y0.2.1.2.2.2.1.2.2.1 y0.2.1.2.2.2.1.2.2.2.1 y0.2.1.2.2.2.1.2.2.2.2.1 y0.2.1.2.1.1 y0.2.1.2.1.2.1 y0.2.1.2.1.2.2.1 y0.2.1.2.1.2.2.2.1 y0.2.1.2.1.2.2.2.2.1 y0.2.1.2.2.1.1 y0.2.1.2.2.1.2.1 y0.2.1.2.2.1.2.2.1 y0.2.1.2.2.1.2.2.2.1 y0.2.1.2.2.1.2.2.2.2.1).bind fun y1 => ((F32 y1.2.1.2.2.2.2.2.1.1).bind fun y2 => (some ((y2.2.1.1.1, ()), (y1.2.1.1, y1.2.1.2.2.2.1, (y1.2.1.2.2.2.2.1.1, y1.2.1.2.2.2.2.1.2.1, y1.2.1.2.2.2.2.1.2.2.1, y1.2.1.2.2.2.2.1.2.2.2.1, y1.2.1.2.2.2.2.1.2.2.2.2.1, (), ()), y1.2.1.2.2.1, ()), ())))))
noncomputable def F11d5sd (s : (TX × (TNN × (TNN × (TNN × Unit))))) : Option ((A4 × Unit) × (TX × (TNN × (TNN × (TNN × Unit)))) × Unit) := F11d5 s.1.1 s.1.2.1 s.1.2.2.1 s.2.1.1 s.2.1.2.1 s.2.1.2.2.1 s.2.1.2.2.2.1 s.2.1.2.2.2.2.1 s.2.2.1.1 s.2.2.1.2.1 s.2.2.1.2.2.1 s.2.2.1.2.2.2.1 s.2.2.1.2.2.2.2.1 s.2.2.2.1.1 s.2.2.2.1.2.1 s.2.2.2.1.2.2.1 s.2.2.2.1.2.2.2.1 s.2.2.2.1.2.2.2.2.1
noncomputable def c11d5 : Con := ⟨i11d5, o11d5, fun x => F11d5 x.2.1.1.1 x.2.1.1.2.1 x.2.1.1.2.2.1 x.2.1.2.1.1 x.2.1.2.1.2.1 x.2.1.2.1.2.2.1 x.2.1.2.1.2.2.2.1 x.2.1.2.1.2.2.2.2.1 x.2.1.2.2.1.1 x.2.1.2.2.1.2.1 x.2.1.2.2.1.2.2.1 x.2.1.2.2.1.2.2.2.1 x.2.1.2.2.1.2.2.2.2.1 x.2.1.2.2.2.1.1 x.2.1.2.2.2.1.2.1 x.2.1.2.2.2.1.2.2.1 x.2.1.2.2.2.1.2.2.2.1 x.2.1.2.2.2.1.2.2.2.2.1⟩
theorem e11d5 (x : i11d5.E) : vfn Try.prog C11d5 LO11d5 Try.f11 b11d5 i11d5 o11d5 x = c11d5.F x := by kernel_rfl
theorem c11d5_ok : Con.OK Try.prog 11 c11d5 := (fn_ok C11d5_ok (fun _ => rfl) Try.func11 body11d5 (loops_of (l := [l11d5_6]) (by kernel_rfl) (show LoopsOK Try.prog Try.f11.ntmps [l11d5_6] LO11d5 from ⟨k11d5_6_ok, trivial⟩)) i11d5 o11d5).congr fun x => (e11d5 x).symm
noncomputable def l40d5_5 : Code := (.seq (.region 5 (regOf Try.f40 5) false) (.seq (.cond (.tmp 22) .skip (.exit 0)) (.seq (.block 1 (.seq (.region 6 (regOf Try.f40 6) false) (.region 7 (regOf Try.f40 7) false))) (.region 8 (regOf Try.f40 8) false))))
noncomputable def b40d5 : Code := (.seq (.region 0 (regOf Try.f40 0) false) (.seq (.seq (.region 1 (regOf Try.f40 1) false) (.cond (.tmp 11) (.seq (.region 2 (regOf Try.f40 2) false) .ret) .skip)) (.seq (.region 3 (regOf Try.f40 3) false) (.seq (.seq (.region 4 (regOf Try.f40 4) false) (.block 0 (.loop l40d5_5))) (.seq (.region 9 (regOf Try.f40 9) false) .ret)))))
theorem body40d5 : Try.f40.body = some b40d5 := by kernel_rfl
noncomputable def C40d5_5 : Tab := [(56, c56)]
theorem C40d5_5_ok : TabOK Try.prog C40d5_5 := ⟨c56_ok, trivial⟩
noncomputable def LO40d5_5 : Tab := []
noncomputable def i40d5_5 : Tm := { sl := [(5, .p 0 0), (19, .v (.l tDEv)), (20, .v (.i .i64)), (21, .v (.i .i64))], bx := [[.mv 1, .sg 64 .b, .sg 64 .b, .v (.l (.i .u64)), .v (.i .u64), .v (.i .i64), .v (.i .u64)], [.mx 0 []]], bf := [] }
noncomputable def o40d5_5 : OT := (.exit 0 { sl := [], bx := [[.mv 1, .sg 64 .b, .sg 64 .b, .v (.l (.i .u64)), .v (.i .u64), .v (.i .i64), .v (.i .u64)], [.mx 0 []]], bf := [] })
noncomputable def T40d5_5 (a19 : A4) (a20 : Int) (a21 : Int) (b0_1 : (List Bool)) (b0_2 : (List Bool)) (b0_3 : (List Int)) (b0_4 : Int) (b0_5 : Int) (b0_6 : Int) : Option (((Unit × (A4 × (Int × (Int × Unit)))) × ((Unit × ((List Bool) × ((List Bool) × ((List Int) × (Int × (Int × (Int × Unit))))))) × ((Unit × Unit) × Unit)) × Unit) ⊕ (Unit × ((Unit × ((List Bool) × ((List Bool) × ((List Int) × (Int × (Int × (Int × Unit))))))) × ((Unit × Unit) × Unit)) × Unit)) :=
 (bif (decide ((a21 : Int) < a20)) then (bif (decide (0 ≤ (a21 : Int) ∧ (a21 : Int) < (((a19).length : Nat) : Int))) then ((F56 ((a19).getD (a21 : Int).toNat zE) b0_1 b0_2 b0_3 b0_4 b0_5 b0_6).bind fun y0 => (some (.inl (((), a19, a20, (IntKind.wrap .i64 (a21 + 1)), ()), (((), y0.2.1.1.2.1, y0.2.1.1.2.2.1, y0.2.1.1.2.2.2.1, y0.2.1.1.2.2.2.2.1, y0.2.1.1.2.2.2.2.2.1, y0.2.1.1.2.2.2.2.2.2.1, ()), ((), ()), ()), ())))) else none) else (some (.inr ((), (((), b0_1, b0_2, b0_3, b0_4, b0_5, b0_6, ()), ((), ()), ()), ()))))
noncomputable def L40d5_5 (a19 : A4) (a20 : Int) (a21 : Int) (b0_1 : (List Bool)) (b0_2 : (List Bool)) (b0_3 : (List Int)) (b0_4 : Int) (b0_5 : Int) (b0_6 : Int) : Option (Unit × ((Unit × ((List Bool) × ((List Bool) × ((List Int) × (Int × (Int × (Int × Unit))))))) × ((Unit × Unit) × Unit)) × Unit) := iter (fun x : ((Unit × (A4 × (Int × (Int × Unit)))) × ((Unit × ((List Bool) × ((List Bool) × ((List Int) × (Int × (Int × (Int × Unit))))))) × ((Unit × Unit) × Unit)) × Unit) => T40d5_5 x.1.2.1 x.1.2.2.1 x.1.2.2.2.1 x.2.1.1.2.1 x.2.1.1.2.2.1 x.2.1.1.2.2.2.1 x.2.1.1.2.2.2.2.1 x.2.1.1.2.2.2.2.2.1 x.2.1.1.2.2.2.2.2.2.1) 300 (((), a19, a20, a21, ()), (((), b0_1, b0_2, b0_3, b0_4, b0_5, b0_6, ()), ((), ()), ()), ())
noncomputable def k40d5_5 : Con := ⟨i40d5_5, o40d5_5, fun x => L40d5_5 x.1.2.1 x.1.2.2.1 x.1.2.2.2.1 x.2.1.1.2.1 x.2.1.1.2.2.1 x.2.1.1.2.2.2.1 x.2.1.1.2.2.2.2.1 x.2.1.1.2.2.2.2.2.1 x.2.1.1.2.2.2.2.2.2.1⟩
theorem e40d5_5 (x : i40d5_5.E) : vround Try.prog C40d5_5 LO40d5_5 Try.f40.ntmps l40d5_5 i40d5_5 o40d5_5 x = T40d5_5 x.1.2.1 x.1.2.2.1 x.1.2.2.2.1 x.2.1.1.2.1 x.2.1.1.2.2.1 x.2.1.1.2.2.2.1 x.2.1.1.2.2.2.2.1 x.2.1.1.2.2.2.2.2.1 x.2.1.1.2.2.2.2.2.2.1 := by kernel_rfl
theorem k40d5_5_ok : Con.LOK Try.prog Try.f40.ntmps l40d5_5 k40d5_5 := Con.LOK.fuel (loop_ok C40d5_5_ok (noL (by kernel_rfl)) i40d5_5 o40d5_5) 300 (funext e40d5_5)
noncomputable def C40d5 : Tab := [(11, c11d5), (27, c27d5), (55, c55), (56, c56)]
theorem C40d5_ok : TabOK Try.prog C40d5 := ⟨c11d5_ok, c27d5_ok, c55_ok, c56_ok, trivial⟩
noncomputable def LO40d5 : Tab := [(5, k40d5_5)]
noncomputable def i40d5 : Tm := { sl := [(0, .p 0 0), (1, .ki .i64 5)], bx := [PXd, PNN, PNN, PNN], bf := [] }
noncomputable def o40d5 : OT := (.ret { sl := [(0, .p 4 0)], bx := [PXd, PNN, PNN, PNN, [.mv 5, .sg 64 .b, .sg 64 .b, .v (.l (.i .u64)), .v (.i .u64), .v (.i .i64), .v (.i .u64)], [.mx 0 []]], bf := [] })
noncomputable def F40d5 (b0_0 : Int) (b0_1 : A1) (b0_2 : A2) (b1_0 : (List Int)) (b1_1 : Int) (b1_2 : A3) (b1_3 : Int) (b1_4 : Int) (b2_0 : (List Int)) (b2_1 : Int) (b2_2 : A3) (b2_3 : Int) (b2_4 : Int) (b3_0 : (List Int)) (b3_1 : Int) (b3_2 : A3) (b3_3 : Int) (b3_4 : Int) : Option ((Unit × Unit) × (TX × (TNN × (TNN × (TNN × ((Unit × ((List Bool) × ((List Bool) × ((List Int) × (Int × (Int × (Int × Unit))))))) × ((Unit × Unit) × Unit)))))) × Unit) :=
 ((F27d5 b0_0 b0_1 b0_2 b1_0 b1_1 b1_2 b1_3 b1_4 b2_0 b2_1 b2_2 b2_3 b2_4 b3_0 b3_1 b3_2 b3_3 b3_4).bind fun y0 => ((F55 y0.2.1.1.1).bind fun y1 => ((F11d5sd y0.2.1).bind fun y2 => ((L40d5_5 y2.1.1 (((y2.1.1).length : Nat) : Int) 0 y1.2.1.1.2.1 y1.2.1.1.2.2.1 y1.2.1.1.2.2.2.1 y1.2.1.1.2.2.2.2.1 y1.2.1.1.2.2.2.2.2.1 y1.2.1.1.2.2.2.2.2.2.1).bind fun y3 => (some (((), ()), (y2.2.1.1, y2.2.1.2.1, y2.2.1.2.2.1, y2.2.1.2.2.2.1, ((), y3.2.1.1.2.1, y3.2.1.1.2.2.1, y3.2.1.1.2.2.2.1, y3.2.1.1.2.2.2.2.1, y3.2.1.1.2.2.2.2.2.1, y3.2.1.1.2.2.2.2.2.2.1, ()), ((), ()), ()), ()))))))
noncomputable def F40d5sd (s : (TX × (TNN × (TNN × (TNN × Unit))))) : Option ((Unit × Unit) × (TX × (TNN × (TNN × (TNN × ((Unit × ((List Bool) × ((List Bool) × ((List Int) × (Int × (Int × (Int × Unit))))))) × ((Unit × Unit) × Unit)))))) × Unit) := F40d5 s.1.1 s.1.2.1 s.1.2.2.1 s.2.1.1 s.2.1.2.1 s.2.1.2.2.1 s.2.1.2.2.2.1 s.2.1.2.2.2.2.1 s.2.2.1.1 s.2.2.1.2.1 s.2.2.1.2.2.1 s.2.2.1.2.2.2.1 s.2.2.1.2.2.2.2.1 s.2.2.2.1.1 s.2.2.2.1.2.1 s.2.2.2.1.2.2.1 s.2.2.2.1.2.2.2.1 s.2.2.2.1.2.2.2.2.1
noncomputable def c40d5 : Con := ⟨i40d5, o40d5, fun x => F40d5 x.2.1.1.1 x.2.1.1.2.1 x.2.1.1.2.2.1 x.2.1.2.1.1 x.2.1.2.1.2.1 x.2.1.2.1.2.2.1 x.2.1.2.1.2.2.2.1 x.2.1.2.1.2.2.2.2.1 x.2.1.2.2.1.1 x.2.1.2.2.1.2.1 x.2.1.2.2.1.2.2.1 x.2.1.2.2.1.2.2.2.1 x.2.1.2.2.1.2.2.2.2.1 x.2.1.2.2.2.1.1 x.2.1.2.2.2.1.2.1 x.2.1.2.2.2.1.2.2.1 x.2.1.2.2.2.1.2.2.2.1 x.2.1.2.2.2.1.2.2.2.2.1⟩
theorem e40d5 (x : i40d5.E) : vfn Try.prog C40d5 LO40d5 Try.f40 b40d5 i40d5 o40d5 x = c40d5.F x := by kernel_rfl
theorem c40d5_ok : Con.OK Try.prog 40 c40d5 := (fn_ok C40d5_ok (fun _ => rfl) Try.func40 body40d5 (loops_of (l := [l40d5_5]) (by kernel_rfl) (show LoopsOK Try.prog Try.f40.ntmps [l40d5_5] LO40d5 from ⟨k40d5_5_ok, trivial⟩)) i40d5 o40d5).congr fun x => (e40d5 x).symm
noncomputable def b43d5 : Code := b43b0
theorem body43d5 : Try.f43.body = some b43d5 := by kernel_rfl
noncomputable def C43d5 : Tab := [(31, c31), (57, c57)]
theorem C43d5_ok : TabOK Try.prog C43d5 := ⟨c31_ok, c57_ok, trivial⟩
noncomputable def LO43d5 : Tab := []
noncomputable def i43d5 : Tm := { sl := [(0, .p 0 0), (1, .ki .i64 5), (2, .v tDEv)], bx := [PXd, PNN, PNN, PNN], bf := [] }
noncomputable def o43d5 : OT := (.ret { sl := [(0, .v tDEv)], bx := [PXd, PNN, PNN, PNN], bf := [] })
noncomputable def F43d5 (a2 : DEv) (b0_0 : Int) (b0_1 : A1) (b0_2 : A2) (b1_0 : (List Int)) (b1_1 : Int) (b1_2 : A3) (b1_3 : Int) (b1_4 : Int) (b2_0 : (List Int)) (b2_1 : Int) (b2_2 : A3) (b2_3 : Int) (b2_4 : Int) (b3_0 : (List Int)) (b3_1 : Int) (b3_2 : A3) (b3_3 : Int) (b3_4 : Int) : Option ((DEv × Unit) × (TX × (TNN × (TNN × (TNN × Unit)))) × Unit) :=
 ((F31 b3_0 5).bind fun y0 => ((F57 (5, ((IntKind.wrap .u64 (y0.1.1 + 1)), ((IntKind.wrap .u64 (b3_1 + 1)), (a2.2.2.2.1, (a2.2.2.2.2.1, (a2.2.2.2.2.2.1, (a2.2.2.2.2.2.2.1, (a2.2.2.2.2.2.2.2.1, ()))))))))).bind fun y1 => (some ((y1.1.1, ()), ((b0_0, b0_1, b0_2, UU), (b1_0, b1_1, b1_2, b1_3, b1_4, (), ()), (b2_0, b2_1, b2_2, b2_3, b2_4, (), ()), (b3_0, b3_1, b3_2, b3_3, b3_4, (), ()), ()), ()))))
noncomputable def c43d5 : Con := ⟨i43d5, o43d5, fun x => F43d5 x.1.2.2.1 x.2.1.1.1 x.2.1.1.2.1 x.2.1.1.2.2.1 x.2.1.2.1.1 x.2.1.2.1.2.1 x.2.1.2.1.2.2.1 x.2.1.2.1.2.2.2.1 x.2.1.2.1.2.2.2.2.1 x.2.1.2.2.1.1 x.2.1.2.2.1.2.1 x.2.1.2.2.1.2.2.1 x.2.1.2.2.1.2.2.2.1 x.2.1.2.2.1.2.2.2.2.1 x.2.1.2.2.2.1.1 x.2.1.2.2.2.1.2.1 x.2.1.2.2.2.1.2.2.1 x.2.1.2.2.2.1.2.2.2.1 x.2.1.2.2.2.1.2.2.2.2.1⟩
theorem e43d5 (x : i43d5.E) : vfn Try.prog C43d5 LO43d5 Try.f43 b43d5 i43d5 o43d5 x = c43d5.F x := by kernel_rfl
theorem c43d5_ok : Con.OK Try.prog 43 c43d5 := (fn_ok C43d5_ok (fun _ => rfl) Try.func43 body43d5 (noL (by kernel_rfl)) i43d5 o43d5).congr fun x => (e43d5 x).symm
noncomputable def b16d5 : Code := b16b0
theorem body16d5 : Try.f16.body = some b16d5 := by kernel_rfl
noncomputable def C16d5 : Tab := [(12, c12), (27, c27d5), (40, c40d5), (41, c41), (42, c42), (43, c43d5)]
theorem C16d5_ok : TabOK Try.prog C16d5 := ⟨c12_ok, c27d5_ok, c40d5_ok, c41_ok, c42_ok, c43d5_ok, trivial⟩
noncomputable def LO16d5 : Tab := []
noncomputable def i16d5 : Tm := { sl := [(0, .p 0 0), (1, .ki .i64 5), (2, .v tDEv)], bx := [PXd, PNN, PNN, PNN], bf := [] }
noncomputable def o16d5 : OT := (.ret { sl := [(0, .v tDEv), (1, .v (.i .i64))], bx := [PXd, PNN, PNN, PNN], bf := [] })
noncomputable def F16d5 (a2 : DEv) (b0_0 : Int) (b0_1 : A1) (b0_2 : A2) (b1_0 : (List Int)) (b1_1 : Int) (b1_2 : A3) (b1_3 : Int) (b1_4 : Int) (b2_0 : (List Int)) (b2_1 : Int) (b2_2 : A3) (b2_3 : Int) (b2_4 : Int) (b3_0 : (List Int)) (b3_1 : Int) (b3_2 : A3) (b3_3 : Int) (b3_4 : Int) : Option ((DEv × (Int × Unit)) × (TX × (TNN × (TNN × (TNN × Unit)))) × Unit) :=
 ((F27d5 b0_0 b0_1 b0_2 b1_0 b1_1 b1_2 b1_3 b1_4 b2_0 b2_1 b2_2 b2_3 b2_4 b3_0 b3_1 b3_2 b3_3 b3_4).bind fun y0 => ((F40d5sd y0.2.1).bind fun y1 => ((F41 5 y1.2.1.2.2.2.2.1.2.1 y1.2.1.2.2.2.2.1.2.2.1 y1.2.1.2.2.2.2.1.2.2.2.1 y1.2.1.2.2.2.2.1.2.2.2.2.1 y1.2.1.2.2.2.2.1.2.2.2.2.2.1 y1.2.1.2.2.2.2.1.2.2.2.2.2.2.1).bind fun y2 => (bif (!y2.1.1) then (some (((0, (0, (0, (0, (ByteArray.empty, (([] : List Int), (0, (0, ())))))))), 11, ()), (y1.2.1.1, y1.2.1.2.1, y1.2.1.2.2.1, y1.2.1.2.2.2.1, ()), ())) else ((F42 5 y2.2.1.1.2.1 y2.2.1.1.2.2.1 y2.2.1.1.2.2.2.1 y2.2.1.1.2.2.2.2.1 y2.2.1.1.2.2.2.2.2.1 y2.2.1.1.2.2.2.2.2.2.1).bind fun y3 => (bif y3.1.1 then (some (((0, (0, (0, (0, (ByteArray.empty, (([] : List Int), (0, (0, ())))))))), 12, ()), (y1.2.1.1, y1.2.1.2.1, y1.2.1.2.2.1, y1.2.1.2.2.2.1, ()), ())) else ((F43d5 a2 y1.2.1.1.1 y1.2.1.1.2.1 y1.2.1.1.2.2.1 y1.2.1.2.1.1 y1.2.1.2.1.2.1 y1.2.1.2.1.2.2.1 y1.2.1.2.1.2.2.2.1 y1.2.1.2.1.2.2.2.2.1 y1.2.1.2.2.1.1 y1.2.1.2.2.1.2.1 y1.2.1.2.2.1.2.2.1 y1.2.1.2.2.1.2.2.2.1 y1.2.1.2.2.1.2.2.2.2.1 y1.2.1.2.2.2.1.1 y1.2.1.2.2.2.1.2.1 y1.2.1.2.2.2.1.2.2.1 y1.2.1.2.2.2.1.2.2.2.1 y1.2.1.2.2.2.1.2.2.2.2.1).bind fun y4 => ((F12 y4.1.1).bind fun y5 => (bif ((y5.1.1 : Int) != 0) then (some (((0, (0, (0, (0, (ByteArray.empty, (([] : List Int), (0, (0, ())))))))), y5.1.1, ()), y4.2.1, ())) else (bif ((y4.1.1.2.2.2.1 : Int) == 5) then ((F41 y4.1.1.2.2.2.2.2.2.2.1 y3.2.1.1.2.1 y3.2.1.1.2.2.1 y3.2.1.1.2.2.2.1 y3.2.1.1.2.2.2.2.1 y3.2.1.1.2.2.2.2.2.1 y3.2.1.1.2.2.2.2.2.2.1).bind fun y6 => (bif y6.1.1 then (some (((0, (0, (0, (0, (ByteArray.empty, (([] : List Int), (0, (0, ())))))))), 10, ()), y4.2.1, ())) else (some ((y4.1.1, 0, ()), y4.2.1, ())))) else (some ((y4.1.1, 0, ()), y4.2.1, ()))))))))))))
noncomputable def F16d5sd (a2 : DEv) (s : (TX × (TNN × (TNN × (TNN × Unit))))) : Option ((DEv × (Int × Unit)) × (TX × (TNN × (TNN × (TNN × Unit)))) × Unit) := F16d5 a2 s.1.1 s.1.2.1 s.1.2.2.1 s.2.1.1 s.2.1.2.1 s.2.1.2.2.1 s.2.1.2.2.2.1 s.2.1.2.2.2.2.1 s.2.2.1.1 s.2.2.1.2.1 s.2.2.1.2.2.1 s.2.2.1.2.2.2.1 s.2.2.1.2.2.2.2.1 s.2.2.2.1.1 s.2.2.2.1.2.1 s.2.2.2.1.2.2.1 s.2.2.2.1.2.2.2.1 s.2.2.2.1.2.2.2.2.1
noncomputable def c16d5 : Con := ⟨i16d5, o16d5, fun x => F16d5 x.1.2.2.1 x.2.1.1.1 x.2.1.1.2.1 x.2.1.1.2.2.1 x.2.1.2.1.1 x.2.1.2.1.2.1 x.2.1.2.1.2.2.1 x.2.1.2.1.2.2.2.1 x.2.1.2.1.2.2.2.2.1 x.2.1.2.2.1.1 x.2.1.2.2.1.2.1 x.2.1.2.2.1.2.2.1 x.2.1.2.2.1.2.2.2.1 x.2.1.2.2.1.2.2.2.2.1 x.2.1.2.2.2.1.1 x.2.1.2.2.2.1.2.1 x.2.1.2.2.2.1.2.2.1 x.2.1.2.2.2.1.2.2.2.1 x.2.1.2.2.2.1.2.2.2.2.1⟩
theorem e16d5 (x : i16d5.E) : vfn Try.prog C16d5 LO16d5 Try.f16 b16d5 i16d5 o16d5 x = c16d5.F x := by kernel_rfl
theorem c16d5_ok : Con.OK Try.prog 16 c16d5 := (fn_ok C16d5_ok (fun _ => rfl) Try.func16 body16d5 (noL (by kernel_rfl)) i16d5 o16d5).congr fun x => (e16d5 x).symm
noncomputable def b14d5 : Code := b14d1
theorem body14d5 : Try.f14.body = some b14d5 := by kernel_rfl
noncomputable def C14d5 : Tab := [(27, c27d5), (38, c38)]
theorem C14d5_ok : TabOK Try.prog C14d5 := ⟨c27d5_ok, c38_ok, trivial⟩
noncomputable def LO14d5 : Tab := []
noncomputable def i14d5 : Tm := { sl := [(0, .p 0 0), (1, .ki .i64 5)], bx := [PXd, PNN, PNN, PNN], bf := [] }
noncomputable def o14d5 : OT := (.ret { sl := [(0, .v (.l (.i .u64)))], bx := [PXd, PNN, PNN, PNN], bf := [] })
noncomputable def F14d5 (b0_0 : Int) (b0_1 : A1) (b0_2 : A2) (b1_0 : (List Int)) (b1_1 : Int) (b1_2 : A3) (b1_3 : Int) (b1_4 : Int) (b2_0 : (List Int)) (b2_1 : Int) (b2_2 : A3) (b2_3 : Int) (b2_4 : Int) (b3_0 : (List Int)) (b3_1 : Int) (b3_2 : A3) (b3_3 : Int) (b3_4 : Int) : Option (((List Int) × Unit) × (TX × (TNN × (TNN × (TNN × Unit)))) × Unit) :=
 ((F27d5 b0_0 b0_1 b0_2 b1_0 b1_1 b1_2 b1_3 b1_4 b2_0 b2_1 b2_2 b2_3 b2_4 b3_0 b3_1 b3_2 b3_3 b3_4).bind fun y0 => ((F38 y0.2.1.2.2.2.1.1).bind fun y1 => (some ((y1.1.1, ()), y0.2.1, ()))))
noncomputable def F14d5sd (s : (TX × (TNN × (TNN × (TNN × Unit))))) : Option (((List Int) × Unit) × (TX × (TNN × (TNN × (TNN × Unit)))) × Unit) := F14d5 s.1.1 s.1.2.1 s.1.2.2.1 s.2.1.1 s.2.1.2.1 s.2.1.2.2.1 s.2.1.2.2.2.1 s.2.1.2.2.2.2.1 s.2.2.1.1 s.2.2.1.2.1 s.2.2.1.2.2.1 s.2.2.1.2.2.2.1 s.2.2.1.2.2.2.2.1 s.2.2.2.1.1 s.2.2.2.1.2.1 s.2.2.2.1.2.2.1 s.2.2.2.1.2.2.2.1 s.2.2.2.1.2.2.2.2.1
noncomputable def c14d5 : Con := ⟨i14d5, o14d5, fun x => F14d5 x.2.1.1.1 x.2.1.1.2.1 x.2.1.1.2.2.1 x.2.1.2.1.1 x.2.1.2.1.2.1 x.2.1.2.1.2.2.1 x.2.1.2.1.2.2.2.1 x.2.1.2.1.2.2.2.2.1 x.2.1.2.2.1.1 x.2.1.2.2.1.2.1 x.2.1.2.2.1.2.2.1 x.2.1.2.2.1.2.2.2.1 x.2.1.2.2.1.2.2.2.2.1 x.2.1.2.2.2.1.1 x.2.1.2.2.2.1.2.1 x.2.1.2.2.2.1.2.2.1 x.2.1.2.2.2.1.2.2.2.1 x.2.1.2.2.2.1.2.2.2.2.1⟩
theorem e14d5 (x : i14d5.E) : vfn Try.prog C14d5 LO14d5 Try.f14 b14d5 i14d5 o14d5 x = c14d5.F x := by kernel_rfl
theorem c14d5_ok : Con.OK Try.prog 14 c14d5 := (fn_ok C14d5_ok (fun _ => rfl) Try.func14 body14d5 (noL (by kernel_rfl)) i14d5 o14d5).congr fun x => (e14d5 x).symm
noncomputable def l24d5_15 : Code := (.seq (.region 15 (regOf Try.f24 15) false) (.seq (.cond (.tmp 51) .skip (.exit 2)) (.seq (.block 3 (.seq (.region 16 (regOf Try.f24 16) false) (.seq (.region 17 (regOf Try.f24 17) true) (.cond (.tmp 60) (.region 18 (regOf Try.f24 18) false) .skip)))) (.region 19 (regOf Try.f24 19) false))))
noncomputable def l24d5_9 : Code := (.seq (.region 9 (regOf Try.f24 9) false) (.seq (.cond (.tmp 33) .skip (.exit 0)) (.seq (.block 1 (.seq (.region 10 (regOf Try.f24 10) false) (.seq (.region 11 (regOf Try.f24 11) false) (.seq (.region 12 (regOf Try.f24 12) false) (.seq (.region 13 (regOf Try.f24 13) false) (.seq (.seq (.region 14 (regOf Try.f24 14) false) (.block 2 (.loop l24d5_15))) (.seq (.region 20 (regOf Try.f24 20) true) (.cond (.tmp 76) (.region 21 (regOf Try.f24 21) false) .skip)))))))) (.region 22 (regOf Try.f24 22) false))))
noncomputable def b24d5 : Code := (.seq (.region 0 (regOf Try.f24 0) false) (.seq (.region 1 (regOf Try.f24 1) false) (.seq (.seq (.region 2 (regOf Try.f24 2) false) (.cond (.tmp 19) (.seq (.region 3 (regOf Try.f24 3) false) .ret) .skip)) (.seq (.region 4 (regOf Try.f24 4) false) (.seq (.region 5 (regOf Try.f24 5) false) (.seq (.region 6 (regOf Try.f24 6) false) (.seq (.region 7 (regOf Try.f24 7) false) (.seq (.seq (.region 8 (regOf Try.f24 8) false) (.block 0 (.loop l24d5_9))) (.seq (.seq (.region 23 (regOf Try.f24 23) false) (.cond (.tmp 80) (.region 24 (regOf Try.f24 24) false) .skip)) (.seq (.region 25 (regOf Try.f24 25) false) .ret))))))))))
theorem body24d5 : Try.f24.body = some b24d5 := by kernel_rfl
noncomputable def C24d5_15 : Tab := [(31, c31)]
theorem C24d5_15_ok : TabOK Try.prog C24d5_15 := ⟨c31_ok, trivial⟩
noncomputable def LO24d5_15 : Tab := []
noncomputable def i24d5_15 : Tm := { sl := [(5, .p 0 0), (6, .v (.i .u64)), (7, .v (.l (.i .i64))), (8, .v (.l tDEv)), (10, .v (.i .i64)), (12, .v (.l (.i .u64))), (30, .v (.l (.i .i64))), (31, .v (.i .i64)), (32, .v (.i .i64)), (48, .v (.l tDEv)), (49, .v (.i .i64)), (50, .v (.i .i64))], bx := [PNN], bf := [] }
noncomputable def o24d5_15 : OT := (.exit 2 { sl := [(6, .v (.i .u64))], bx := [PNN], bf := [] })
noncomputable def T24d5_15 (a6 : Int) (a7 : (List Int)) (a8 : A4) (a10 : Int) (a12 : (List Int)) (a30 : (List Int)) (a31 : Int) (a32 : Int) (a48 : A4) (a49 : Int) (a50 : Int) (b0_0 : (List Int)) (b0_1 : Int) (b0_2 : A3) (b0_3 : Int) (b0_4 : Int) : Option (((Unit × (Int × ((List Int) × (A4 × (Int × ((List Int) × ((List Int) × (Int × (Int × (A4 × (Int × (Int × Unit)))))))))))) × (TNN × Unit) × Unit) ⊕ ((Int × Unit) × (TNN × Unit) × Unit)) :=
 (bif (decide ((a50 : Int) < a49)) then (bif (decide (0 ≤ (a50 : Int) ∧ (a50 : Int) < (((a48).length : Nat) : Int))) then ((F31 a12 (((a48).getD (a50 : Int).toNat zE).1)).bind fun y0 => (bif (decide ((((a48).getD (a50 : Int).toNat zE).2.1 : Int) > y0.1.1)) then (some (.inl (((), (if ((IntKind.wrap .u64 (((a48).getD (a50 : Int).toNat zE).2.2.1 - 1)) : Int) < a6 then (IntKind.wrap .u64 (((a48).getD (a50 : Int).toNat zE).2.2.1 - 1)) else a6), a7, a8, a10, a12, a30, a31, a32, a48, a49, (IntKind.wrap .i64 (a50 + 1)), ()), ((b0_0, b0_1, b0_2, b0_3, b0_4, (), ()), ()), ()))) else (some (.inl (((), a6, a7, a8, a10, a12, a30, a31, a32, a48, a49, (IntKind.wrap .i64 (a50 + 1)), ()), ((b0_0, b0_1, b0_2, b0_3, b0_4, (), ()), ()), ()))))) else none) else (some (.inr ((a6, ()), ((b0_0, b0_1, b0_2, b0_3, b0_4, (), ()), ()), ()))))
noncomputable def L24d5_15 (a6 : Int) (a7 : (List Int)) (a8 : A4) (a10 : Int) (a12 : (List Int)) (a30 : (List Int)) (a31 : Int) (a32 : Int) (a48 : A4) (a49 : Int) (a50 : Int) (b0_0 : (List Int)) (b0_1 : Int) (b0_2 : A3) (b0_3 : Int) (b0_4 : Int) : Option ((Int × Unit) × (TNN × Unit) × Unit) := iter (fun x : ((Unit × (Int × ((List Int) × (A4 × (Int × ((List Int) × ((List Int) × (Int × (Int × (A4 × (Int × (Int × Unit)))))))))))) × (TNN × Unit) × Unit) => T24d5_15 x.1.2.1 x.1.2.2.1 x.1.2.2.2.1 x.1.2.2.2.2.1 x.1.2.2.2.2.2.1 x.1.2.2.2.2.2.2.1 x.1.2.2.2.2.2.2.2.1 x.1.2.2.2.2.2.2.2.2.1 x.1.2.2.2.2.2.2.2.2.2.1 x.1.2.2.2.2.2.2.2.2.2.2.1 x.1.2.2.2.2.2.2.2.2.2.2.2.1 x.2.1.1.1 x.2.1.1.2.1 x.2.1.1.2.2.1 x.2.1.1.2.2.2.1 x.2.1.1.2.2.2.2.1) 300 (((), a6, a7, a8, a10, a12, a30, a31, a32, a48, a49, a50, ()), ((b0_0, b0_1, b0_2, b0_3, b0_4, (), ()), ()), ())
noncomputable def k24d5_15 : Con := ⟨i24d5_15, o24d5_15, fun x => L24d5_15 x.1.2.1 x.1.2.2.1 x.1.2.2.2.1 x.1.2.2.2.2.1 x.1.2.2.2.2.2.1 x.1.2.2.2.2.2.2.1 x.1.2.2.2.2.2.2.2.1 x.1.2.2.2.2.2.2.2.2.1 x.1.2.2.2.2.2.2.2.2.2.1 x.1.2.2.2.2.2.2.2.2.2.2.1 x.1.2.2.2.2.2.2.2.2.2.2.2.1 x.2.1.1.1 x.2.1.1.2.1 x.2.1.1.2.2.1 x.2.1.1.2.2.2.1 x.2.1.1.2.2.2.2.1⟩
theorem e24d5_15 (x : i24d5_15.E) : vround Try.prog C24d5_15 LO24d5_15 Try.f24.ntmps l24d5_15 i24d5_15 o24d5_15 x = T24d5_15 x.1.2.1 x.1.2.2.1 x.1.2.2.2.1 x.1.2.2.2.2.1 x.1.2.2.2.2.2.1 x.1.2.2.2.2.2.2.1 x.1.2.2.2.2.2.2.2.1 x.1.2.2.2.2.2.2.2.2.1 x.1.2.2.2.2.2.2.2.2.2.1 x.1.2.2.2.2.2.2.2.2.2.2.1 x.1.2.2.2.2.2.2.2.2.2.2.2.1 x.2.1.1.1 x.2.1.1.2.1 x.2.1.1.2.2.1 x.2.1.1.2.2.2.1 x.2.1.1.2.2.2.2.1 := by kernel_rfl
theorem k24d5_15_ok : Con.LOK Try.prog Try.f24.ntmps l24d5_15 k24d5_15 := Con.LOK.fuel (loop_ok C24d5_15_ok (noL (by kernel_rfl)) i24d5_15 o24d5_15) 300 (funext e24d5_15)
noncomputable def C24d5_9 : Tab := [(31, c31)]
theorem C24d5_9_ok : TabOK Try.prog C24d5_9 := ⟨c31_ok, trivial⟩
noncomputable def LO24d5_9 : Tab := [(15, k24d5_15)]
noncomputable def i24d5_9 : Tm := { sl := [(5, .p 0 0), (6, .v (.i .u64)), (7, .v (.l (.i .i64))), (8, .v (.l tDEv)), (30, .v (.l (.i .i64))), (31, .v (.i .i64)), (32, .v (.i .i64))], bx := [PNN], bf := [] }
noncomputable def o24d5_9 : OT := (.exit 0 { sl := [(6, .v (.i .u64))], bx := [PNN], bf := [] })
noncomputable def T24d5_9 (a6 : Int) (a7 : (List Int)) (a8 : A4) (a30 : (List Int)) (a31 : Int) (a32 : Int) (b0_0 : (List Int)) (b0_1 : Int) (b0_2 : A3) (b0_3 : Int) (b0_4 : Int) : Option (((Unit × (Int × ((List Int) × (A4 × ((List Int) × (Int × (Int × Unit))))))) × (TNN × Unit) × Unit) ⊕ ((Int × Unit) × (TNN × Unit) × Unit)) :=
 (bif (decide ((a32 : Int) < a31)) then (bif (decide (0 ≤ (a32 : Int) ∧ (a32 : Int) < (((a30).length : Nat) : Int))) then (bif (decide (0 ≤ (((a30).getD (a32 : Int).toNat (0 : Int)) : Int) ∧ (((a30).getD (a32 : Int).toNat (0 : Int)) : Int) < ((64 : Nat) : Int))) then (bif (decide ((((a30).getD (a32 : Int).toNat (0 : Int)) : Int).toNat < 64)) then ((L24d5_15 (if (((b0_2).getD (((a30).getD (a32 : Int).toNat (0 : Int)) : Int).toNat ((0 : Int), ([], ((0 : Int), ())))).2.2.1 : Int) < a6 then ((b0_2).getD (((a30).getD (a32 : Int).toNat (0 : Int)) : Int).toNat ((0 : Int), ([], ((0 : Int), ())))).2.2.1 else a6) a7 a8 ((a30).getD (a32 : Int).toNat (0 : Int)) (((b0_2).getD (((a30).getD (a32 : Int).toNat (0 : Int)) : Int).toNat ((0 : Int), ([], ((0 : Int), ())))).2.1) a30 a31 a32 a8 (((a8).length : Nat) : Int) 0 b0_0 b0_1 b0_2 b0_3 b0_4).bind fun y0 => ((F31 (((b0_2).getD (((a30).getD (a32 : Int).toNat (0 : Int)) : Int).toNat ((0 : Int), ([], ((0 : Int), ())))).2.1) ((a30).getD (a32 : Int).toNat (0 : Int))).bind fun y1 => ((F31 y0.2.1.1.1 ((a30).getD (a32 : Int).toNat (0 : Int))).bind fun y2 => (bif (decide ((y1.1.1 : Int) > y2.1.1)) then (some (.inl (((), 0, a7, a8, a30, a31, (IntKind.wrap .i64 (a32 + 1)), ()), ((y0.2.1.1.1, y0.2.1.1.2.1, y0.2.1.1.2.2.1, y0.2.1.1.2.2.2.1, y0.2.1.1.2.2.2.2.1, (), ()), ()), ()))) else (some (.inl (((), y0.1.1, a7, a8, a30, a31, (IntKind.wrap .i64 (a32 + 1)), ()), ((y0.2.1.1.1, y0.2.1.1.2.1, y0.2.1.1.2.2.1, y0.2.1.1.2.2.2.1, y0.2.1.1.2.2.2.2.1, (), ()), ()), ()))))))) else none) else none) else none) else (some (.inr ((a6, ()), ((b0_0, b0_1, b0_2, b0_3, b0_4, (), ()), ()), ()))))
noncomputable def L24d5_9 (a6 : Int) (a7 : (List Int)) (a8 : A4) (a30 : (List Int)) (a31 : Int) (a32 : Int) (b0_0 : (List Int)) (b0_1 : Int) (b0_2 : A3) (b0_3 : Int) (b0_4 : Int) : Option ((Int × Unit) × (TNN × Unit) × Unit) := iter (fun x : ((Unit × (Int × ((List Int) × (A4 × ((List Int) × (Int × (Int × Unit))))))) × (TNN × Unit) × Unit) => T24d5_9 x.1.2.1 x.1.2.2.1 x.1.2.2.2.1 x.1.2.2.2.2.1 x.1.2.2.2.2.2.1 x.1.2.2.2.2.2.2.1 x.2.1.1.1 x.2.1.1.2.1 x.2.1.1.2.2.1 x.2.1.1.2.2.2.1 x.2.1.1.2.2.2.2.1) 300 (((), a6, a7, a8, a30, a31, a32, ()), ((b0_0, b0_1, b0_2, b0_3, b0_4, (), ()), ()), ())
noncomputable def k24d5_9 : Con := ⟨i24d5_9, o24d5_9, fun x => L24d5_9 x.1.2.1 x.1.2.2.1 x.1.2.2.2.1 x.1.2.2.2.2.1 x.1.2.2.2.2.2.1 x.1.2.2.2.2.2.2.1 x.2.1.1.1 x.2.1.1.2.1 x.2.1.1.2.2.1 x.2.1.1.2.2.2.1 x.2.1.1.2.2.2.2.1⟩
theorem e24d5_9 (x : i24d5_9.E) : vround Try.prog C24d5_9 LO24d5_9 Try.f24.ntmps l24d5_9 i24d5_9 o24d5_9 x = T24d5_9 x.1.2.1 x.1.2.2.1 x.1.2.2.2.1 x.1.2.2.2.2.1 x.1.2.2.2.2.2.1 x.1.2.2.2.2.2.2.1 x.2.1.1.1 x.2.1.1.2.1 x.2.1.1.2.2.1 x.2.1.1.2.2.2.1 x.2.1.1.2.2.2.2.1 := by kernel_rfl
theorem k24d5_9_ok : Con.LOK Try.prog Try.f24.ntmps l24d5_9 k24d5_9 := Con.LOK.fuel (loop_ok C24d5_9_ok (loops_of (l := [l24d5_15]) (by kernel_rfl) (show LoopsOK Try.prog Try.f24.ntmps [l24d5_15] LO24d5_9 from ⟨k24d5_15_ok, trivial⟩)) i24d5_9 o24d5_9) 300 (funext e24d5_9)
noncomputable def C24d5 : Tab := [(11, c11d5), (26, c26d5), (27, c27d5), (31, c31), (40, c40d5), (47, c47)]
theorem C24d5_ok : TabOK Try.prog C24d5 := ⟨c11d5_ok, c26d5_ok, c27d5_ok, c31_ok, c40d5_ok, c47_ok, trivial⟩
noncomputable def LO24d5 : Tab := [(9, k24d5_9)]
noncomputable def i24d5 : Tm := { sl := [(0, .p 0 0), (1, .ki .i64 5)], bx := [PXd, PNN, PNN, PNN], bf := [] }
noncomputable def o24d5 : OT := (.ret { sl := [(0, .v (.i .u64))], bx := [PXd, PNN, PNN, PNN], bf := [] })
noncomputable def F24d5 (b0_0 : Int) (b0_1 : A1) (b0_2 : A2) (b1_0 : (List Int)) (b1_1 : Int) (b1_2 : A3) (b1_3 : Int) (b1_4 : Int) (b2_0 : (List Int)) (b2_1 : Int) (b2_2 : A3) (b2_3 : Int) (b2_4 : Int) (b3_0 : (List Int)) (b3_1 : Int) (b3_2 : A3) (b3_3 : Int) (b3_4 : Int) : Option ((Int × Unit) × (TX × (TNN × (TNN × (TNN × Unit)))) × Unit) :=
 ((F27d5 b0_0 b0_1 b0_2 b1_0 b1_1 b1_2 b1_3 b1_4 b2_0 b2_1 b2_2 b2_3 b2_4 b3_0 b3_1 b3_2 b3_3 b3_4).bind fun y0 => ((F26d5sd y0.2.1).bind fun y1 => ((F40d5sd y1.2.1).bind fun y2 => ((F47 y2.2.1.2.2.2.2.1.2.1 y2.2.1.2.2.2.2.1.2.2.1 y2.2.1.2.2.2.2.1.2.2.2.1 y2.2.1.2.2.2.2.1.2.2.2.2.1 y2.2.1.2.2.2.2.1.2.2.2.2.2.1 y2.2.1.2.2.2.2.1.2.2.2.2.2.2.1).bind fun y3 => ((F11d5 y2.2.1.1.1 y2.2.1.1.2.1 y2.2.1.1.2.2.1 y2.2.1.2.1.1 y2.2.1.2.1.2.1 y2.2.1.2.1.2.2.1 y2.2.1.2.1.2.2.2.1 y2.2.1.2.1.2.2.2.2.1 y2.2.1.2.2.1.1 y2.2.1.2.2.1.2.1 y2.2.1.2.2.1.2.2.1 y2.2.1.2.2.1.2.2.2.1 y2.2.1.2.2.1.2.2.2.2.1 y2.2.1.2.2.2.1.1 y2.2.1.2.2.2.1.2.1 y2.2.1.2.2.2.1.2.2.1 y2.2.1.2.2.2.1.2.2.2.1 y2.2.1.2.2.2.1.2.2.2.2.1).bind fun y4 => ((L24d5_9 9223372036854775807 y3.1.1 y4.1.1 y3.1.1 (((y3.1.1).length : Nat) : Int) 0 y4.2.1.2.2.2.1.1 y4.2.1.2.2.2.1.2.1 y4.2.1.2.2.2.1.2.2.1 y4.2.1.2.2.2.1.2.2.2.1 y4.2.1.2.2.2.1.2.2.2.2.1).bind fun y5 => (bif (decide (((((y3.1.1).length : Nat) : Int) : Int) > 0)) then (some (((if (y5.1.1 : Int) > y5.2.1.1.2.2.2.1 then y5.1.1 else y5.2.1.1.2.2.2.1), ()), (y4.2.1.1, y4.2.1.2.1, y4.2.1.2.2.1, (y5.2.1.1.1, y5.2.1.1.2.1, y5.2.1.1.2.2.1, (if (y5.1.1 : Int) > y5.2.1.1.2.2.2.1 then y5.1.1 else y5.2.1.1.2.2.2.1), y5.2.1.1.2.2.2.2.1, (), ()), ()), ())) else (some ((y5.2.1.1.2.2.2.1, ()), (y4.2.1.1, y4.2.1.2.1, y4.2.1.2.2.1, (y5.2.1.1.1, y5.2.1.1.2.1, y5.2.1.1.2.2.1, y5.2.1.1.2.2.2.1, y5.2.1.1.2.2.2.2.1, (), ()), ()), ())))))))))
noncomputable def F24d5sd (s : (TX × (TNN × (TNN × (TNN × Unit))))) : Option ((Int × Unit) × (TX × (TNN × (TNN × (TNN × Unit)))) × Unit) := F24d5 s.1.1 s.1.2.1 s.1.2.2.1 s.2.1.1 s.2.1.2.1 s.2.1.2.2.1 s.2.1.2.2.2.1 s.2.1.2.2.2.2.1 s.2.2.1.1 s.2.2.1.2.1 s.2.2.1.2.2.1 s.2.2.1.2.2.2.1 s.2.2.1.2.2.2.2.1 s.2.2.2.1.1 s.2.2.2.1.2.1 s.2.2.2.1.2.2.1 s.2.2.2.1.2.2.2.1 s.2.2.2.1.2.2.2.2.1
noncomputable def c24d5 : Con := ⟨i24d5, o24d5, fun x => F24d5 x.2.1.1.1 x.2.1.1.2.1 x.2.1.1.2.2.1 x.2.1.2.1.1 x.2.1.2.1.2.1 x.2.1.2.1.2.2.1 x.2.1.2.1.2.2.2.1 x.2.1.2.1.2.2.2.2.1 x.2.1.2.2.1.1 x.2.1.2.2.1.2.1 x.2.1.2.2.1.2.2.1 x.2.1.2.2.1.2.2.2.1 x.2.1.2.2.1.2.2.2.2.1 x.2.1.2.2.2.1.1 x.2.1.2.2.2.1.2.1 x.2.1.2.2.2.1.2.2.1 x.2.1.2.2.2.1.2.2.2.1 x.2.1.2.2.2.1.2.2.2.2.1⟩
theorem e24d5 (x : i24d5.E) : vfn Try.prog C24d5 LO24d5 Try.f24 b24d5 i24d5 o24d5 x = c24d5.F x := by kernel_rfl
theorem c24d5_ok : Con.OK Try.prog 24 c24d5 := (fn_ok C24d5_ok (fun _ => rfl) Try.func24 body24d5 (loops_of (l := [l24d5_9]) (by kernel_rfl) (show LoopsOK Try.prog Try.f24.ntmps [l24d5_9] LO24d5 from ⟨k24d5_9_ok, trivial⟩)) i24d5 o24d5).congr fun x => (e24d5 x).symm
noncomputable def b23d5 : Code := (.seq (.region 0 (regOf Try.f23 0) false) (.seq (.seq (.region 1 (regOf Try.f23 1) false) (.seq (.region 2 (regOf Try.f23 2) false) (.cond (.tmp 10) (.seq (.region 3 (regOf Try.f23 3) false) .ret) .skip))) (.seq (.region 4 (regOf Try.f23 4) false) .ret)))
theorem body23d5 : Try.f23.body = some b23d5 := by kernel_rfl
noncomputable def C23d5 : Tab := [(27, c27d5)]
theorem C23d5_ok : TabOK Try.prog C23d5 := ⟨c27d5_ok, trivial⟩
noncomputable def LO23d5 : Tab := []
noncomputable def i23d5 : Tm := { sl := [(0, .p 0 0), (1, .ki .i64 5)], bx := [PXd, PNN, PNN, PNN], bf := [] }
noncomputable def o23d5 : OT := (.ret { sl := [(0, .v (.i .u64))], bx := [PXd, PNN, PNN, PNN], bf := [] })
noncomputable def F23d5 (b0_0 : Int) (b0_1 : A1) (b0_2 : A2) (b1_0 : (List Int)) (b1_1 : Int) (b1_2 : A3) (b1_3 : Int) (b1_4 : Int) (b2_0 : (List Int)) (b2_1 : Int) (b2_2 : A3) (b2_3 : Int) (b2_4 : Int) (b3_0 : (List Int)) (b3_1 : Int) (b3_2 : A3) (b3_3 : Int) (b3_4 : Int) : Option ((Int × Unit) × (TX × (TNN × (TNN × (TNN × Unit)))) × Unit) :=
 ((F27d5 b0_0 b0_1 b0_2 b1_0 b1_1 b1_2 b1_3 b1_4 b2_0 b2_1 b2_2 b2_3 b2_4 b3_0 b3_1 b3_2 b3_3 b3_4).bind fun y0 => (some ((y0.2.1.2.2.2.1.2.2.2.2.1, ()), y0.2.1, ())))
noncomputable def F23d5sd (s : (TX × (TNN × (TNN × (TNN × Unit))))) : Option ((Int × Unit) × (TX × (TNN × (TNN × (TNN × Unit)))) × Unit) := F23d5 s.1.1 s.1.2.1 s.1.2.2.1 s.2.1.1 s.2.1.2.1 s.2.1.2.2.1 s.2.1.2.2.2.1 s.2.1.2.2.2.2.1 s.2.2.1.1 s.2.2.1.2.1 s.2.2.1.2.2.1 s.2.2.1.2.2.2.1 s.2.2.1.2.2.2.2.1 s.2.2.2.1.1 s.2.2.2.1.2.1 s.2.2.2.1.2.2.1 s.2.2.2.1.2.2.2.1 s.2.2.2.1.2.2.2.2.1
noncomputable def c23d5 : Con := ⟨i23d5, o23d5, fun x => F23d5 x.2.1.1.1 x.2.1.1.2.1 x.2.1.1.2.2.1 x.2.1.2.1.1 x.2.1.2.1.2.1 x.2.1.2.1.2.2.1 x.2.1.2.1.2.2.2.1 x.2.1.2.1.2.2.2.2.1 x.2.1.2.2.1.1 x.2.1.2.2.1.2.1 x.2.1.2.2.1.2.2.1 x.2.1.2.2.1.2.2.2.1 x.2.1.2.2.1.2.2.2.2.1 x.2.1.2.2.2.1.1 x.2.1.2.2.2.1.2.1 x.2.1.2.2.2.1.2.2.1 x.2.1.2.2.2.1.2.2.2.1 x.2.1.2.2.2.1.2.2.2.2.1⟩
theorem e23d5 (x : i23d5.E) : vfn Try.prog C23d5 LO23d5 Try.f23 b23d5 i23d5 o23d5 x = c23d5.F x := by kernel_rfl
theorem c23d5_ok : Con.OK Try.prog 23 c23d5 := (fn_ok C23d5_ok (fun _ => rfl) Try.func23 body23d5 (noL (by kernel_rfl)) i23d5 o23d5).congr fun x => (e23d5 x).symm
noncomputable def l22d5_7 : Code := (.seq (.region 7 (regOf Try.f22 7) false) (.seq (.cond (.tmp 28) .skip (.exit 1)) (.seq (.block 2 (.seq (.region 8 (regOf Try.f22 8) false) (.seq (.region 9 (regOf Try.f22 9) false) (.cond (.tmp 41) (.seq (.region 10 (regOf Try.f22 10) false) .ret) .skip)))) (.region 11 (regOf Try.f22 11) false))))
noncomputable def b22d5 : Code := (.seq (.region 0 (regOf Try.f22 0) false) (.seq (.region 1 (regOf Try.f22 1) false) (.seq (.block 0 (.seq (.region 2 (regOf Try.f22 2) false) (.cond (.tmp 15) (.seq (.region 3 (regOf Try.f22 3) false) .ret) (.seq (.region 4 (regOf Try.f22 4) false) (.cond (.tmp 18) (.seq (.region 5 (regOf Try.f22 5) false) .ret) .skip))))) (.seq (.seq (.region 6 (regOf Try.f22 6) false) (.block 1 (.loop l22d5_7))) (.seq (.region 12 (regOf Try.f22 12) false) (.seq (.region 13 (regOf Try.f22 13) true) (.seq (.region 14 (regOf Try.f22 14) false) (.seq (.region 15 (regOf Try.f22 15) false) .ret))))))))
theorem body22d5 : Try.f22.body = some b22d5 := by kernel_rfl
noncomputable def C22d5_7 : Tab := []
theorem C22d5_7_ok : TabOK Try.prog C22d5_7 := trivial
noncomputable def LO22d5_7 : Tab := []
noncomputable def i22d5_7 : Tm := { sl := [(0, .p 0 0), (1, .v (.i .i64)), (2, .v (.l (.i .u64))), (3, .v (.i .u64)), (9, .p 1 0), (25, .v (.l (.i .u64))), (26, .v (.i .i64)), (27, .v (.i .i64))], bx := [[.v (.i .i64), .sg 64 (.l tDEv), .sg 64 (.l (.l (.i .u64))), .p 2 0, .p 3 0, .nl, .nl, .nl, .p 1 0, .nl, .nl, .nl, .nl, .nl, .nl, .nl, .nl, .nl, .nl, .nl, .nl, .nl, .nl, .nl, .nl, .nl, .nl, .nl, .nl, .nl, .nl, .nl, .nl, .nl, .nl, .nl, .nl, .nl, .nl, .nl, .nl, .nl, .nl, .nl, .nl, .nl, .nl, .nl, .nl, .nl, .nl, .nl, .nl, .nl, .nl, .nl, .nl, .nl, .nl, .nl, .nl, .nl, .nl, .nl, .nl, .nl, .nl], PNN, PNN, PNN], bf := [] }
noncomputable def o22d5_7 : OT := (.two (.ret { sl := [(8, .v (.i .i64))], bx := [[.v (.i .i64), .sg 64 (.l tDEv), .sg 64 (.l (.l (.i .u64))), .p 2 0, .p 3 0, .nl, .nl, .nl, .p 1 0, .nl, .nl, .nl, .nl, .nl, .nl, .nl, .nl, .nl, .nl, .nl, .nl, .nl, .nl, .nl, .nl, .nl, .nl, .nl, .nl, .nl, .nl, .nl, .nl, .nl, .nl, .nl, .nl, .nl, .nl, .nl, .nl, .nl, .nl, .nl, .nl, .nl, .nl, .nl, .nl, .nl, .nl, .nl, .nl, .nl, .nl, .nl, .nl, .nl, .nl, .nl, .nl, .nl, .nl, .nl, .nl, .nl, .nl], PNN, PNN, PNN], bf := [] }) (.exit 1 { sl := [], bx := [[.v (.i .i64), .sg 64 (.l tDEv), .sg 64 (.l (.l (.i .u64))), .p 2 0, .p 3 0, .nl, .nl, .nl, .p 1 0, .nl, .nl, .nl, .nl, .nl, .nl, .nl, .nl, .nl, .nl, .nl, .nl, .nl, .nl, .nl, .nl, .nl, .nl, .nl, .nl, .nl, .nl, .nl, .nl, .nl, .nl, .nl, .nl, .nl, .nl, .nl, .nl, .nl, .nl, .nl, .nl, .nl, .nl, .nl, .nl, .nl, .nl, .nl, .nl, .nl, .nl, .nl, .nl, .nl, .nl, .nl, .nl, .nl, .nl, .nl, .nl, .nl, .nl], PNN, PNN, PNN], bf := [] }))
noncomputable def T22d5_7 (a1 : Int) (a2 : (List Int)) (a3 : Int) (a25 : (List Int)) (a26 : Int) (a27 : Int) (b0_0 : Int) (b0_1 : A1) (b0_2 : A2) (b1_0 : (List Int)) (b1_1 : Int) (b1_2 : A3) (b1_3 : Int) (b1_4 : Int) (b2_0 : (List Int)) (b2_1 : Int) (b2_2 : A3) (b2_3 : Int) (b2_4 : Int) (b3_0 : (List Int)) (b3_1 : Int) (b3_2 : A3) (b3_3 : Int) (b3_4 : Int) : Option (((Unit × (Int × ((List Int) × (Int × (Unit × ((List Int) × (Int × (Int × Unit)))))))) × (TX × (TNN × (TNN × (TNN × Unit)))) × Unit) ⊕ (((Int × Unit) × (TX × (TNN × (TNN × (TNN × Unit)))) × Unit) ⊕ (Unit × (TX × (TNN × (TNN × (TNN × Unit)))) × Unit))) :=
 (bif (decide ((a27 : Int) < a26)) then (bif (decide (0 ≤ (a27 : Int) ∧ (a27 : Int) < (((a25).length : Nat) : Int))) then (bif (decide (0 ≤ (a27 : Int) ∧ (a27 : Int) < ((64 : Nat) : Int))) then (bif (decide ((a27 : Int).toNat < 64)) then (bif (decide ((((a25).getD (a27 : Int).toNat (0 : Int)) : Int) > (IntKind.wrap .u64 (((((b0_1).getD (a27 : Int).toNat [])).length : Nat) : Int)))) then (some (.inr (.inl ((9, ()), ((b0_0, b0_1, b0_2, UU), (b1_0, b1_1, b1_2, b1_3, b1_4, (), ()), (b2_0, b2_1, b2_2, b2_3, b2_4, (), ()), (b3_0, b3_1, b3_2, b3_3, b3_4, (), ()), ()), ())))) else (some (.inl (((), a1, a2, a3, (), a25, a26, (IntKind.wrap .i64 (a27 + 1)), ()), ((b0_0, b0_1, b0_2, UU), (b1_0, b1_1, b1_2, b1_3, b1_4, (), ()), (b2_0, b2_1, b2_2, b2_3, b2_4, (), ()), (b3_0, b3_1, b3_2, b3_3, b3_4, (), ()), ()), ())))) else none) else none) else none) else (some (.inr (.inr ((), ((b0_0, b0_1, b0_2, UU), (b1_0, b1_1, b1_2, b1_3, b1_4, (), ()), (b2_0, b2_1, b2_2, b2_3, b2_4, (), ()), (b3_0, b3_1, b3_2, b3_3, b3_4, (), ()), ()), ())))))
noncomputable def L22d5_7 (a1 : Int) (a2 : (List Int)) (a3 : Int) (a25 : (List Int)) (a26 : Int) (a27 : Int) (b0_0 : Int) (b0_1 : A1) (b0_2 : A2) (b1_0 : (List Int)) (b1_1 : Int) (b1_2 : A3) (b1_3 : Int) (b1_4 : Int) (b2_0 : (List Int)) (b2_1 : Int) (b2_2 : A3) (b2_3 : Int) (b2_4 : Int) (b3_0 : (List Int)) (b3_1 : Int) (b3_2 : A3) (b3_3 : Int) (b3_4 : Int) : Option (((Int × Unit) × (TX × (TNN × (TNN × (TNN × Unit)))) × Unit) ⊕ (Unit × (TX × (TNN × (TNN × (TNN × Unit)))) × Unit)) := iter (fun x : ((Unit × (Int × ((List Int) × (Int × (Unit × ((List Int) × (Int × (Int × Unit)))))))) × (TX × (TNN × (TNN × (TNN × Unit)))) × Unit) => T22d5_7 x.1.2.1 x.1.2.2.1 x.1.2.2.2.1 x.1.2.2.2.2.2.1 x.1.2.2.2.2.2.2.1 x.1.2.2.2.2.2.2.2.1 x.2.1.1.1 x.2.1.1.2.1 x.2.1.1.2.2.1 x.2.1.2.1.1 x.2.1.2.1.2.1 x.2.1.2.1.2.2.1 x.2.1.2.1.2.2.2.1 x.2.1.2.1.2.2.2.2.1 x.2.1.2.2.1.1 x.2.1.2.2.1.2.1 x.2.1.2.2.1.2.2.1 x.2.1.2.2.1.2.2.2.1 x.2.1.2.2.1.2.2.2.2.1 x.2.1.2.2.2.1.1 x.2.1.2.2.2.1.2.1 x.2.1.2.2.2.1.2.2.1 x.2.1.2.2.2.1.2.2.2.1 x.2.1.2.2.2.1.2.2.2.2.1) 300 (((), a1, a2, a3, (), a25, a26, a27, ()), ((b0_0, b0_1, b0_2, UU), (b1_0, b1_1, b1_2, b1_3, b1_4, (), ()), (b2_0, b2_1, b2_2, b2_3, b2_4, (), ()), (b3_0, b3_1, b3_2, b3_3, b3_4, (), ()), ()), ())
noncomputable def k22d5_7 : Con := ⟨i22d5_7, o22d5_7, fun x => L22d5_7 x.1.2.1 x.1.2.2.1 x.1.2.2.2.1 x.1.2.2.2.2.2.1 x.1.2.2.2.2.2.2.1 x.1.2.2.2.2.2.2.2.1 x.2.1.1.1 x.2.1.1.2.1 x.2.1.1.2.2.1 x.2.1.2.1.1 x.2.1.2.1.2.1 x.2.1.2.1.2.2.1 x.2.1.2.1.2.2.2.1 x.2.1.2.1.2.2.2.2.1 x.2.1.2.2.1.1 x.2.1.2.2.1.2.1 x.2.1.2.2.1.2.2.1 x.2.1.2.2.1.2.2.2.1 x.2.1.2.2.1.2.2.2.2.1 x.2.1.2.2.2.1.1 x.2.1.2.2.2.1.2.1 x.2.1.2.2.2.1.2.2.1 x.2.1.2.2.2.1.2.2.2.1 x.2.1.2.2.2.1.2.2.2.2.1⟩
theorem e22d5_7 (x : i22d5_7.E) : vround Try.prog C22d5_7 LO22d5_7 Try.f22.ntmps l22d5_7 i22d5_7 o22d5_7 x = T22d5_7 x.1.2.1 x.1.2.2.1 x.1.2.2.2.1 x.1.2.2.2.2.2.1 x.1.2.2.2.2.2.2.1 x.1.2.2.2.2.2.2.2.1 x.2.1.1.1 x.2.1.1.2.1 x.2.1.1.2.2.1 x.2.1.2.1.1 x.2.1.2.1.2.1 x.2.1.2.1.2.2.1 x.2.1.2.1.2.2.2.1 x.2.1.2.1.2.2.2.2.1 x.2.1.2.2.1.1 x.2.1.2.2.1.2.1 x.2.1.2.2.1.2.2.1 x.2.1.2.2.1.2.2.2.1 x.2.1.2.2.1.2.2.2.2.1 x.2.1.2.2.2.1.1 x.2.1.2.2.2.1.2.1 x.2.1.2.2.2.1.2.2.1 x.2.1.2.2.2.1.2.2.2.1 x.2.1.2.2.2.1.2.2.2.2.1 := by kernel_rfl
theorem k22d5_7_ok : Con.LOK Try.prog Try.f22.ntmps l22d5_7 k22d5_7 := Con.LOK.fuel (loop_ok C22d5_7_ok (noL (by kernel_rfl)) i22d5_7 o22d5_7) 300 (funext e22d5_7)
noncomputable def C22d5 : Tab := [(26, c26d5), (27, c27d5), (28, c28), (46, c46)]
theorem C22d5_ok : TabOK Try.prog C22d5 := ⟨c26d5_ok, c27d5_ok, c28_ok, c46_ok, trivial⟩
noncomputable def LO22d5 : Tab := [(7, k22d5_7)]
noncomputable def i22d5 : Tm := { sl := [(0, .p 0 0), (1, .ki .i64 5), (2, .v (.l (.i .u64))), (3, .v (.i .u64))], bx := [PXd, PNN, PNN, PNN], bf := [] }
noncomputable def o22d5 : OT := (.ret { sl := [(0, .v (.i .i64))], bx := [PXd, PNN, PNN, PNN], bf := [] })
noncomputable def F22d5 (a2 : (List Int)) (a3 : Int) (b0_0 : Int) (b0_1 : A1) (b0_2 : A2) (b1_0 : (List Int)) (b1_1 : Int) (b1_2 : A3) (b1_3 : Int) (b1_4 : Int) (b2_0 : (List Int)) (b2_1 : Int) (b2_2 : A3) (b2_3 : Int) (b2_4 : Int) (b3_0 : (List Int)) (b3_1 : Int) (b3_2 : A3) (b3_3 : Int) (b3_4 : Int) : Option ((Int × Unit) × (TX × (TNN × (TNN × (TNN × Unit)))) × Unit) :=
 ((F27d5 b0_0 b0_1 b0_2 b1_0 b1_1 b1_2 b1_3 b1_4 b2_0 b2_1 b2_2 b2_3 b2_4 b3_0 b3_1 b3_2 b3_3 b3_4).bind fun y0 => ((F28 a2 y0.2.1.2.2.2.1.1).bind fun y1 => (bif y1.1.1 then (some ((10, ()), y0.2.1, ())) else ((L22d5_7 5 a2 a3 a2 (((a2).length : Nat) : Int) 0 y0.2.1.1.1 y0.2.1.1.2.1 y0.2.1.1.2.2.1 y0.2.1.2.2.2.1.1 y0.2.1.2.2.2.1.2.1 y0.2.1.2.2.2.1.2.2.1 y0.2.1.2.2.2.1.2.2.2.1 y0.2.1.2.2.2.1.2.2.2.2.1 y0.2.1.2.1.1 y0.2.1.2.1.2.1 y0.2.1.2.1.2.2.1 y0.2.1.2.1.2.2.2.1 y0.2.1.2.1.2.2.2.2.1 y0.2.1.2.2.1.1 y0.2.1.2.2.1.2.1 y0.2.1.2.2.1.2.2.1 y0.2.1.2.2.1.2.2.2.1 y0.2.1.2.2.1.2.2.2.2.1).bind fun y2 => (Sum.elim (fun y3 => (some ((y3.1.1, ()), (y3.2.1.1, y3.2.1.2.2.1, y3.2.1.2.2.2.1, y3.2.1.2.1, ()), ()))) (fun y3 => ((F46 y3.2.1.2.1.1 a2).bind fun y4 => ((F26d5 y3.2.1.1.1 y3.2.1.1.2.1 y3.2.1.1.2.2.1 y3.2.1.2.2.1.1 y3.2.1.2.2.1.2.1 y3.2.1.2.2.1.2.2.1 y3.2.1.2.2.1.2.2.2.1 y3.2.1.2.2.1.2.2.2.2.1 y3.2.1.2.2.2.1.1 y3.2.1.2.2.2.1.2.1 y3.2.1.2.2.2.1.2.2.1 y3.2.1.2.2.2.1.2.2.2.1 y3.2.1.2.2.2.1.2.2.2.2.1 y4.1.1 (if (a3 : Int) > y3.2.1.2.1.2.1 then a3 else y3.2.1.2.1.2.1) y3.2.1.2.1.2.2.1 (if (a3 : Int) > y3.2.1.2.1.2.2.2.1 then a3 else y3.2.1.2.1.2.2.2.1) a3).bind fun y5 => (some ((0, ()), y5.2.1, ()))))) y2)))))
noncomputable def F22d5sd (a2 : (List Int)) (a3 : Int) (s : (TX × (TNN × (TNN × (TNN × Unit))))) : Option ((Int × Unit) × (TX × (TNN × (TNN × (TNN × Unit)))) × Unit) := F22d5 a2 a3 s.1.1 s.1.2.1 s.1.2.2.1 s.2.1.1 s.2.1.2.1 s.2.1.2.2.1 s.2.1.2.2.2.1 s.2.1.2.2.2.2.1 s.2.2.1.1 s.2.2.1.2.1 s.2.2.1.2.2.1 s.2.2.1.2.2.2.1 s.2.2.1.2.2.2.2.1 s.2.2.2.1.1 s.2.2.2.1.2.1 s.2.2.2.1.2.2.1 s.2.2.2.1.2.2.2.1 s.2.2.2.1.2.2.2.2.1
noncomputable def c22d5 : Con := ⟨i22d5, o22d5, fun x => F22d5 x.1.2.2.1 x.1.2.2.2.1 x.2.1.1.1 x.2.1.1.2.1 x.2.1.1.2.2.1 x.2.1.2.1.1 x.2.1.2.1.2.1 x.2.1.2.1.2.2.1 x.2.1.2.1.2.2.2.1 x.2.1.2.1.2.2.2.2.1 x.2.1.2.2.1.1 x.2.1.2.2.1.2.1 x.2.1.2.2.1.2.2.1 x.2.1.2.2.1.2.2.2.1 x.2.1.2.2.1.2.2.2.2.1 x.2.1.2.2.2.1.1 x.2.1.2.2.2.1.2.1 x.2.1.2.2.2.1.2.2.1 x.2.1.2.2.2.1.2.2.2.1 x.2.1.2.2.2.1.2.2.2.2.1⟩
theorem e22d5 (x : i22d5.E) : vfn Try.prog C22d5 LO22d5 Try.f22 b22d5 i22d5 o22d5 x = c22d5.F x := by kernel_rfl
theorem c22d5_ok : Con.OK Try.prog 22 c22d5 := (fn_ok C22d5_ok (fun _ => rfl) Try.func22 body22d5 (loops_of (l := [l22d5_7]) (by kernel_rfl) (show LoopsOK Try.prog Try.f22.ntmps [l22d5_7] LO22d5 from ⟨k22d5_7_ok, trivial⟩)) i22d5 o22d5).congr fun x => (e22d5 x).symm
noncomputable def b21b5 : Code := (.seq (.region 0 (regOf Try.f21 0) false) (.seq (.block 0 (.seq (.region 1 (regOf Try.f21 1) false) (.cond (.tmp 5) (.seq (.region 2 (regOf Try.f21 2) false) .ret) (.seq (.region 3 (regOf Try.f21 3) false) (.cond (.tmp 16) (.seq (.region 4 (regOf Try.f21 4) false) .ret) .skip))))) (.seq (.region 5 (regOf Try.f21 5) false) (.seq (.region 6 (regOf Try.f21 6) false) (.seq (.region 7 (regOf Try.f21 7) false) .ret)))))
theorem body21b5 : Try.f21.body = some b21b5 := by kernel_rfl
noncomputable def C21b5 : Tab := [(26, c26d5), (900027, cHot)]
theorem C21b5_ok : TabOK Try.prog C21b5 := ⟨c26d5_ok, cHot_ok, trivial⟩
noncomputable def LO21b5 : Tab := []
noncomputable def i21b5 : Tm := { sl := [(0, .p 0 0), (1, .ki .i64 5)], bx := [PXb, PNN, PNN], bf := [] }
noncomputable def o21b5 : OT := (.ret { sl := [(0, .v (.i .i64))], bx := [PXd, PNN, PNN, PNN], bf := [] })
noncomputable def F21b5 (b0_0 : Int) (b0_1 : A1) (b0_2 : A2) (b1_0 : (List Int)) (b1_1 : Int) (b1_2 : A3) (b1_3 : Int) (b1_4 : Int) (b2_0 : (List Int)) (b2_1 : Int) (b2_2 : A3) (b2_3 : Int) (b2_4 : Int) : Option ((Int × Unit) × (TX × (TNN × (TNN × (TNN × Unit)))) × Unit) :=
 ((F26d5 b0_0 b0_1 b0_2 b1_0 b1_1 b1_2 b1_3 b1_4 b2_0 b2_1 b2_2 b2_3 b2_4 ([] : List Int) 0 (List.replicate 64 ((0, (([] : List Int), (0, ()))) : (Int × ((List Int) × (Int × Unit))))) 0 0).bind fun y0 => (some ((0, ()), y0.2.1, ())))
noncomputable def F21b5sb (s : (TX × (TNN × (TNN × Unit)))) : Option ((Int × Unit) × (TX × (TNN × (TNN × (TNN × Unit)))) × Unit) := F21b5 s.1.1 s.1.2.1 s.1.2.2.1 s.2.1.1 s.2.1.2.1 s.2.1.2.2.1 s.2.1.2.2.2.1 s.2.1.2.2.2.2.1 s.2.2.1.1 s.2.2.1.2.1 s.2.2.1.2.2.1 s.2.2.1.2.2.2.1 s.2.2.1.2.2.2.2.1
noncomputable def c21b5 : Con := ⟨i21b5, o21b5, fun x => F21b5 x.2.1.1.1 x.2.1.1.2.1 x.2.1.1.2.2.1 x.2.1.2.1.1 x.2.1.2.1.2.1 x.2.1.2.1.2.2.1 x.2.1.2.1.2.2.2.1 x.2.1.2.1.2.2.2.2.1 x.2.1.2.2.1.1 x.2.1.2.2.1.2.1 x.2.1.2.2.1.2.2.1 x.2.1.2.2.1.2.2.2.1 x.2.1.2.2.1.2.2.2.2.1⟩
theorem e21b5 (x : i21b5.E) : vfn Try.prog C21b5 LO21b5 Try.f21 b21b5 i21b5 o21b5 x = c21b5.F x := by kernel_rfl
theorem c21b5_ok : Con.OK Try.prog 21 c21b5 := (fn_ok C21b5_ok (fun _ => rfl) Try.func21 body21b5 (noL (by kernel_rfl)) i21b5 o21b5).congr fun x => (e21b5 x).symm
noncomputable def b21d5 : Code := b21b5
theorem body21d5 : Try.f21.body = some b21d5 := by kernel_rfl
noncomputable def C21d5 : Tab := [(900027, cHot)]
theorem C21d5_ok : TabOK Try.prog C21d5 := ⟨cHot_ok, trivial⟩
noncomputable def LO21d5 : Tab := []
noncomputable def i21d5 : Tm := { sl := [(0, .p 0 0), (1, .ki .i64 5)], bx := [PXd, PNN, PNN, PNN], bf := [] }
noncomputable def o21d5 : OT := (.ret { sl := [(0, .v (.i .i64))], bx := [PXd, PNN, PNN, PNN], bf := [] })
noncomputable def F21d5 (b0_0 : Int) (b0_1 : A1) (b0_2 : A2) (b1_0 : (List Int)) (b1_1 : Int) (b1_2 : A3) (b1_3 : Int) (b1_4 : Int) (b2_0 : (List Int)) (b2_1 : Int) (b2_2 : A3) (b2_3 : Int) (b2_4 : Int) (b3_0 : (List Int)) (b3_1 : Int) (b3_2 : A3) (b3_3 : Int) (b3_4 : Int) : Option ((Int × Unit) × (TX × (TNN × (TNN × (TNN × Unit)))) × Unit) :=
 (some ((10, ()), ((b0_0, b0_1, b0_2, UU), (b1_0, b1_1, b1_2, b1_3, b1_4, (), ()), (b2_0, b2_1, b2_2, b2_3, b2_4, (), ()), (b3_0, b3_1, b3_2, b3_3, b3_4, (), ()), ()), ()))
noncomputable def F21d5sd (s : (TX × (TNN × (TNN × (TNN × Unit))))) : Option ((Int × Unit) × (TX × (TNN × (TNN × (TNN × Unit)))) × Unit) := F21d5 s.1.1 s.1.2.1 s.1.2.2.1 s.2.1.1 s.2.1.2.1 s.2.1.2.2.1 s.2.1.2.2.2.1 s.2.1.2.2.2.2.1 s.2.2.1.1 s.2.2.1.2.1 s.2.2.1.2.2.1 s.2.2.1.2.2.2.1 s.2.2.1.2.2.2.2.1 s.2.2.2.1.1 s.2.2.2.1.2.1 s.2.2.2.1.2.2.1 s.2.2.2.1.2.2.2.1 s.2.2.2.1.2.2.2.2.1
noncomputable def c21d5 : Con := ⟨i21d5, o21d5, fun x => F21d5 x.2.1.1.1 x.2.1.1.2.1 x.2.1.1.2.2.1 x.2.1.2.1.1 x.2.1.2.1.2.1 x.2.1.2.1.2.2.1 x.2.1.2.1.2.2.2.1 x.2.1.2.1.2.2.2.2.1 x.2.1.2.2.1.1 x.2.1.2.2.1.2.1 x.2.1.2.2.1.2.2.1 x.2.1.2.2.1.2.2.2.1 x.2.1.2.2.1.2.2.2.2.1 x.2.1.2.2.2.1.1 x.2.1.2.2.2.1.2.1 x.2.1.2.2.2.1.2.2.1 x.2.1.2.2.2.1.2.2.2.1 x.2.1.2.2.2.1.2.2.2.2.1⟩
theorem e21d5 (x : i21d5.E) : vfn Try.prog C21d5 LO21d5 Try.f21 b21d5 i21d5 o21d5 x = c21d5.F x := by kernel_rfl
theorem c21d5_ok : Con.OK Try.prog 21 c21d5 := (fn_ok C21d5_ok (fun _ => rfl) Try.func21 body21d5 (noL (by kernel_rfl)) i21d5 o21d5).congr fun x => (e21d5 x).symm
noncomputable def b21d64 : Code := b21b5
theorem body21d64 : Try.f21.body = some b21d64 := by kernel_rfl
noncomputable def C21d64 : Tab := [(900027, cHot)]
theorem C21d64_ok : TabOK Try.prog C21d64 := ⟨cHot_ok, trivial⟩
noncomputable def LO21d64 : Tab := []
noncomputable def i21d64 : Tm := { sl := [(0, .p 0 0), (1, .ki .i64 64)], bx := [PXd, PNN, PNN, PNN], bf := [] }
noncomputable def o21d64 : OT := (.ret { sl := [(0, .v (.i .i64))], bx := [PXd, PNN, PNN, PNN], bf := [] })
noncomputable def F21d64 (b0_0 : Int) (b0_1 : A1) (b0_2 : A2) (b1_0 : (List Int)) (b1_1 : Int) (b1_2 : A3) (b1_3 : Int) (b1_4 : Int) (b2_0 : (List Int)) (b2_1 : Int) (b2_2 : A3) (b2_3 : Int) (b2_4 : Int) (b3_0 : (List Int)) (b3_1 : Int) (b3_2 : A3) (b3_3 : Int) (b3_4 : Int) : Option ((Int × Unit) × (TX × (TNN × (TNN × (TNN × Unit)))) × Unit) :=
 (some ((1, ()), ((b0_0, b0_1, b0_2, UU), (b1_0, b1_1, b1_2, b1_3, b1_4, (), ()), (b2_0, b2_1, b2_2, b2_3, b2_4, (), ()), (b3_0, b3_1, b3_2, b3_3, b3_4, (), ()), ()), ()))
noncomputable def F21d64sd (s : (TX × (TNN × (TNN × (TNN × Unit))))) : Option ((Int × Unit) × (TX × (TNN × (TNN × (TNN × Unit)))) × Unit) := F21d64 s.1.1 s.1.2.1 s.1.2.2.1 s.2.1.1 s.2.1.2.1 s.2.1.2.2.1 s.2.1.2.2.2.1 s.2.1.2.2.2.2.1 s.2.2.1.1 s.2.2.1.2.1 s.2.2.1.2.2.1 s.2.2.1.2.2.2.1 s.2.2.1.2.2.2.2.1 s.2.2.2.1.1 s.2.2.2.1.2.1 s.2.2.2.1.2.2.1 s.2.2.2.1.2.2.2.1 s.2.2.2.1.2.2.2.2.1
noncomputable def c21d64 : Con := ⟨i21d64, o21d64, fun x => F21d64 x.2.1.1.1 x.2.1.1.2.1 x.2.1.1.2.2.1 x.2.1.2.1.1 x.2.1.2.1.2.1 x.2.1.2.1.2.2.1 x.2.1.2.1.2.2.2.1 x.2.1.2.1.2.2.2.2.1 x.2.1.2.2.1.1 x.2.1.2.2.1.2.1 x.2.1.2.2.1.2.2.1 x.2.1.2.2.1.2.2.2.1 x.2.1.2.2.1.2.2.2.2.1 x.2.1.2.2.2.1.1 x.2.1.2.2.2.1.2.1 x.2.1.2.2.2.1.2.2.1 x.2.1.2.2.2.1.2.2.2.1 x.2.1.2.2.2.1.2.2.2.2.1⟩
theorem e21d64 (x : i21d64.E) : vfn Try.prog C21d64 LO21d64 Try.f21 b21d64 i21d64 o21d64 x = c21d64.F x := by kernel_rfl
theorem c21d64_ok : Con.OK Try.prog 21 c21d64 := (fn_ok C21d64_ok (fun _ => rfl) Try.func21 body21d64 (noL (by kernel_rfl)) i21d64 o21d64).congr fun x => (e21d64 x).symm
noncomputable def b21dm : Code := b21b5
theorem body21dm : Try.f21.body = some b21dm := by kernel_rfl
noncomputable def C21dm : Tab := [(900027, cHot)]
theorem C21dm_ok : TabOK Try.prog C21dm := ⟨cHot_ok, trivial⟩
noncomputable def LO21dm : Tab := []
noncomputable def i21dm : Tm := { sl := [(0, .p 0 0), (1, .ki .i64 (-1))], bx := [PXd, PNN, PNN, PNN], bf := [] }
noncomputable def o21dm : OT := (.ret { sl := [(0, .v (.i .i64))], bx := [PXd, PNN, PNN, PNN], bf := [] })
noncomputable def F21dm (b0_0 : Int) (b0_1 : A1) (b0_2 : A2) (b1_0 : (List Int)) (b1_1 : Int) (b1_2 : A3) (b1_3 : Int) (b1_4 : Int) (b2_0 : (List Int)) (b2_1 : Int) (b2_2 : A3) (b2_3 : Int) (b2_4 : Int) (b3_0 : (List Int)) (b3_1 : Int) (b3_2 : A3) (b3_3 : Int) (b3_4 : Int) : Option ((Int × Unit) × (TX × (TNN × (TNN × (TNN × Unit)))) × Unit) :=
 (some ((1, ()), ((b0_0, b0_1, b0_2, UU), (b1_0, b1_1, b1_2, b1_3, b1_4, (), ()), (b2_0, b2_1, b2_2, b2_3, b2_4, (), ()), (b3_0, b3_1, b3_2, b3_3, b3_4, (), ()), ()), ()))
noncomputable def F21dmsd (s : (TX × (TNN × (TNN × (TNN × Unit))))) : Option ((Int × Unit) × (TX × (TNN × (TNN × (TNN × Unit)))) × Unit) := F21dm s.1.1 s.1.2.1 s.1.2.2.1 s.2.1.1 s.2.1.2.1 s.2.1.2.2.1 s.2.1.2.2.2.1 s.2.1.2.2.2.2.1 s.2.2.1.1 s.2.2.1.2.1 s.2.2.1.2.2.1 s.2.2.1.2.2.2.1 s.2.2.1.2.2.2.2.1 s.2.2.2.1.1 s.2.2.2.1.2.1 s.2.2.2.1.2.2.1 s.2.2.2.1.2.2.2.1 s.2.2.2.1.2.2.2.2.1
noncomputable def c21dm : Con := ⟨i21dm, o21dm, fun x => F21dm x.2.1.1.1 x.2.1.1.2.1 x.2.1.1.2.2.1 x.2.1.2.1.1 x.2.1.2.1.2.1 x.2.1.2.1.2.2.1 x.2.1.2.1.2.2.2.1 x.2.1.2.1.2.2.2.2.1 x.2.1.2.2.1.1 x.2.1.2.2.1.2.1 x.2.1.2.2.1.2.2.1 x.2.1.2.2.1.2.2.2.1 x.2.1.2.2.1.2.2.2.2.1 x.2.1.2.2.2.1.1 x.2.1.2.2.2.1.2.1 x.2.1.2.2.2.1.2.2.1 x.2.1.2.2.2.1.2.2.2.1 x.2.1.2.2.2.1.2.2.2.2.1⟩
theorem e21dm (x : i21dm.E) : vfn Try.prog C21dm LO21dm Try.f21 b21dm i21dm o21dm x = c21dm.F x := by kernel_rfl
theorem c21dm_ok : Con.OK Try.prog 21 c21dm := (fn_ok C21dm_ok (fun _ => rfl) Try.func21 body21dm (noL (by kernel_rfl)) i21dm o21dm).congr fun x => (e21dm x).symm
noncomputable def l5_6 : Code := (.seq (.seq (.region 6 (regOf Try.f5 6) false) (.cond (.tmp 24) .skip (.exit 0))) (.seq (.block 1 (.region 8 (regOf Try.f5 8) false)) (.region 7 (regOf Try.f5 7) false)))
noncomputable def b5 : Code := (.seq (.region 0 (regOf Try.f5 0) false) (.seq (.seq (.region 1 (regOf Try.f5 1) false) (.cond (.tmp 17) (.seq (.region 2 (regOf Try.f5 2) false) .ret) .skip)) (.seq (.region 3 (regOf Try.f5 3) false) (.seq (.region 4 (regOf Try.f5 4) false) (.seq (.seq (.region 5 (regOf Try.f5 5) false) (.block 0 (.loop l5_6))) (.seq (.seq (.region 9 (regOf Try.f5 9) false) (.cond (.tmp 47) (.seq (.region 10 (regOf Try.f5 10) false) .ret) .skip)) (.seq (.region 11 (regOf Try.f5 11) false) (.seq (.region 12 (regOf Try.f5 12) false) (.seq (.region 13 (regOf Try.f5 13) false) (.seq (.region 14 (regOf Try.f5 14) false) (.seq (.region 15 (regOf Try.f5 15) false) (.seq (.seq (.region 16 (regOf Try.f5 16) false) (.cond (.tmp 67) (.region 17 (regOf Try.f5 17) false) (.seq (.region 18 (regOf Try.f5 18) false) (.cond (.tmp 70) (.region 19 (regOf Try.f5 19) false) .skip)))) (.seq (.seq (.region 20 (regOf Try.f5 20) false) (.cond (.tmp 77) (.seq (.region 21 (regOf Try.f5 21) false) .ret) .skip)) (.seq (.seq (.region 22 (regOf Try.f5 22) false) (.cond (.tmp 79) (.seq (.region 23 (regOf Try.f5 23) false) .ret) .skip)) (.seq (.region 24 (regOf Try.f5 24) false) .ret)))))))))))))))
theorem body5 : Try.f5.body = some b5 := by kernel_rfl
noncomputable def C5_6 : Tab := [(9, c9b0)]
theorem C5_6_ok : TabOK Try.prog C5_6 := ⟨c9b0_ok, trivial⟩
noncomputable def LO5_6 : Tab := []
noncomputable def i5_6 : Tm := { sl := [(7, .p 0 0), (8, .v (.i .i64)), (9, .v (.i .i64))], bx := [PXb, PNN, PNN], bf := [] }
noncomputable def o5_6 : OT := (.exit 0 { sl := [], bx := [PXb, PNN, PNN], bf := [] })
noncomputable def T5_6 (a8 : Int) (a9 : Int) (b0_0 : Int) (b0_1 : A1) (b0_2 : A2) (b1_0 : (List Int)) (b1_1 : Int) (b1_2 : A3) (b1_3 : Int) (b1_4 : Int) (b2_0 : (List Int)) (b2_1 : Int) (b2_2 : A3) (b2_3 : Int) (b2_4 : Int) : Option (((Unit × (Int × (Int × Unit))) × (TX × (TNN × (TNN × Unit))) × Unit) ⊕ (Unit × (TX × (TNN × (TNN × Unit))) × Unit)) :=
 (bif (decide ((a9 : Int) < a8)) then ((F9b0 (0, (0, (0, (4, ((⟨#[97]⟩ : ByteArray), (([] : List Int), (0, (0, ())))))))) b0_0 b0_1 b0_2 b1_0 b1_1 b1_2 b1_3 b1_4 b2_0 b2_1 b2_2 b2_3 b2_4).bind fun y0 => (some (.inl (((), a8, (IntKind.wrap .i64 (a9 + 1)), ()), y0.2.1, ())))) else (some (.inr ((), ((b0_0, b0_1, b0_2, UU), (b1_0, b1_1, b1_2, b1_3, b1_4, (), ()), (b2_0, b2_1, b2_2, b2_3, b2_4, (), ()), ()), ()))))
noncomputable def L5_6 (a8 : Int) (a9 : Int) (b0_0 : Int) (b0_1 : A1) (b0_2 : A2) (b1_0 : (List Int)) (b1_1 : Int) (b1_2 : A3) (b1_3 : Int) (b1_4 : Int) (b2_0 : (List Int)) (b2_1 : Int) (b2_2 : A3) (b2_3 : Int) (b2_4 : Int) : Option (Unit × (TX × (TNN × (TNN × Unit))) × Unit) := iter (fun x : ((Unit × (Int × (Int × Unit))) × (TX × (TNN × (TNN × Unit))) × Unit) => T5_6 x.1.2.1 x.1.2.2.1 x.2.1.1.1 x.2.1.1.2.1 x.2.1.1.2.2.1 x.2.1.2.1.1 x.2.1.2.1.2.1 x.2.1.2.1.2.2.1 x.2.1.2.1.2.2.2.1 x.2.1.2.1.2.2.2.2.1 x.2.1.2.2.1.1 x.2.1.2.2.1.2.1 x.2.1.2.2.1.2.2.1 x.2.1.2.2.1.2.2.2.1 x.2.1.2.2.1.2.2.2.2.1) 300 (((), a8, a9, ()), ((b0_0, b0_1, b0_2, UU), (b1_0, b1_1, b1_2, b1_3, b1_4, (), ()), (b2_0, b2_1, b2_2, b2_3, b2_4, (), ()), ()), ())
noncomputable def L5_6sb (a8 : Int) (a9 : Int) (s : (TX × (TNN × (TNN × Unit)))) : Option (Unit × (TX × (TNN × (TNN × Unit))) × Unit) := L5_6 a8 a9 s.1.1 s.1.2.1 s.1.2.2.1 s.2.1.1 s.2.1.2.1 s.2.1.2.2.1 s.2.1.2.2.2.1 s.2.1.2.2.2.2.1 s.2.2.1.1 s.2.2.1.2.1 s.2.2.1.2.2.1 s.2.2.1.2.2.2.1 s.2.2.1.2.2.2.2.1
noncomputable def k5_6 : Con := ⟨i5_6, o5_6, fun x => L5_6 x.1.2.1 x.1.2.2.1 x.2.1.1.1 x.2.1.1.2.1 x.2.1.1.2.2.1 x.2.1.2.1.1 x.2.1.2.1.2.1 x.2.1.2.1.2.2.1 x.2.1.2.1.2.2.2.1 x.2.1.2.1.2.2.2.2.1 x.2.1.2.2.1.1 x.2.1.2.2.1.2.1 x.2.1.2.2.1.2.2.1 x.2.1.2.2.1.2.2.2.1 x.2.1.2.2.1.2.2.2.2.1⟩
theorem e5_6 (x : i5_6.E) : vround Try.prog C5_6 LO5_6 Try.f5.ntmps l5_6 i5_6 o5_6 x = T5_6 x.1.2.1 x.1.2.2.1 x.2.1.1.1 x.2.1.1.2.1 x.2.1.1.2.2.1 x.2.1.2.1.1 x.2.1.2.1.2.1 x.2.1.2.1.2.2.1 x.2.1.2.1.2.2.2.1 x.2.1.2.1.2.2.2.2.1 x.2.1.2.2.1.1 x.2.1.2.2.1.2.1 x.2.1.2.2.1.2.2.1 x.2.1.2.2.1.2.2.2.1 x.2.1.2.2.1.2.2.2.2.1 := by kernel_rfl
theorem k5_6_ok : Con.LOK Try.prog Try.f5.ntmps l5_6 k5_6 := Con.LOK.fuel (loop_ok C5_6_ok (noL (by kernel_rfl)) i5_6 o5_6) 300 (funext e5_6)
noncomputable def C5 : Tab := [(7, c7), (8, c8b), (9, c9b0), (14, c14d1), (14, c14d5), (15, c15), (16, c16d5), (18, c18), (21, c21b5), (21, c21d5), (21, c21d64), (21, c21dm), (22, c22d5), (23, c23d5), (24, c24d5)]
theorem C5_ok : TabOK Try.prog C5 := ⟨c7_ok, c8b_ok, c9b0_ok, c14d1_ok, c14d5_ok, c15_ok, c16d5_ok, c18_ok, c21b5_ok, c21d5_ok, c21d64_ok, c21dm_ok, c22d5_ok, c23d5_ok, c24d5_ok, trivial⟩
noncomputable def LO5 : Tab := [(6, k5_6)]
noncomputable def i5 : Tm := { sl := [(0, .v (.i .u8)), (1, .v (.i .u8)), (2, .v (.i .u64))], bx := [], bf := [] }
noncomputable def o5 : OT := (.ret { sl := [(0, .v .b)], bx := [], bf := [] })
noncomputable def F5 (a0 : Int) (a1 : Int) (a2 : Int) : Option ((Bool × Unit) × Unit × Unit) :=
 ((F7).bind fun y0 => (bif (!y0.1.1) then (some ((false, ()), (), ())) else ((F8b).bind fun y1 => ((L5_6sb (((IntKind.wrap .i64 a0) : Int).tmod 6) 0 y1.2.1).bind fun y2 => ((F21b5sb y2.2.1).bind fun y3 => (bif ((y3.1.1 : Int) != 0) then (some ((false, ()), (), ())) else ((F21d5sd y3.2.1).bind fun y4 => (bif ((y4.1.1 : Int) != 10) then (some ((false, ()), (), ())) else ((F21d64sd y4.2.1).bind fun y5 => (bif ((y5.1.1 : Int) != 1) then (some ((false, ()), (), ())) else ((F21dmsd y5.2.1).bind fun y6 => (bif ((y6.1.1 : Int) != 1) then (some ((false, ()), (), ())) else ((F16d5sd (0, (0, (0, (4, ((⟨#[97]⟩ : ByteArray), (([] : List Int), (0, (0, ())))))))) y6.2.1).bind fun y7 => ((F14d1sd y7.2.1).bind fun y8 => ((F18 y8.1.1 0 (IntKind.wrap .u64 (((IntKind.wrap .i64 a1) : Int).tmod 8))).bind fun y9 => ((F22d5sd y9.1.1 a2 y8.2.1).bind fun y10 => (bif (((((IntKind.wrap .i64 a1) : Int).tmod 8) : Int) == 0) then (bif ((y10.1.1 : Int) != 10) then (some ((false, ()), (), ())) else (bif ((y7.1.2.1 : Int) != 11) then (some ((false, ()), (), ())) else (bif ((y10.1.1 : Int) != 0) then ((F14d5sd y10.2.1).bind fun y11 => (bif (((((y11.1.1).length : Nat) : Int) : Int) == 0) then ((F23d5sd y11.2.1).bind fun y12 => (some ((((y12.1.1 : Int) == 0), ()), (), ()))) else (some ((false, ()), (), ())))) else ((F14d5sd y10.2.1).bind fun y13 => ((F15 y13.1.1 y9.1.1).bind fun y14 => (bif y14.1.1 then ((F23d5sd y13.2.1).bind fun y15 => (bif ((y15.1.1 : Int) == a2) then ((F22d5sd y9.1.1 a2 y15.2.1).bind fun y16 => (bif ((y16.1.1 : Int) == 10) then ((F24d5sd y16.2.1).bind fun y17 => (some (((decide ((y17.1.1 : Int) ≥ a2)), ()), (), ()))) else (some ((false, ()), (), ())))) else (some ((false, ()), (), ())))) else (some ((false, ()), (), ())))))))) else (bif (decide (((((IntKind.wrap .i64 a1) : Int).tmod 8) : Int) > (((IntKind.wrap .i64 a0) : Int).tmod 6))) then (bif ((y10.1.1 : Int) != 9) then (some ((false, ()), (), ())) else (bif ((y7.1.2.1 : Int) != 11) then (some ((false, ()), (), ())) else (bif ((y10.1.1 : Int) != 0) then ((F14d5sd y10.2.1).bind fun y18 => (bif (((((y18.1.1).length : Nat) : Int) : Int) == 0) then ((F23d5sd y18.2.1).bind fun y19 => (some ((((y19.1.1 : Int) == 0), ()), (), ()))) else (some ((false, ()), (), ())))) else ((F14d5sd y10.2.1).bind fun y20 => ((F15 y20.1.1 y9.1.1).bind fun y21 => (bif y21.1.1 then ((F23d5sd y20.2.1).bind fun y22 => (bif ((y22.1.1 : Int) == a2) then ((F22d5sd y9.1.1 a2 y22.2.1).bind fun y23 => (bif ((y23.1.1 : Int) == 10) then ((F24d5sd y23.2.1).bind fun y24 => (some (((decide ((y24.1.1 : Int) ≥ a2)), ()), (), ()))) else (some ((false, ()), (), ())))) else (some ((false, ()), (), ())))) else (some ((false, ()), (), ())))))))) else (bif ((y10.1.1 : Int) != 0) then (some ((false, ()), (), ())) else (bif ((y7.1.2.1 : Int) != 11) then (some ((false, ()), (), ())) else (bif ((y10.1.1 : Int) != 0) then ((F14d5sd y10.2.1).bind fun y25 => (bif (((((y25.1.1).length : Nat) : Int) : Int) == 0) then ((F23d5sd y25.2.1).bind fun y26 => (some ((((y26.1.1 : Int) == 0), ()), (), ()))) else (some ((false, ()), (), ())))) else ((F14d5sd y10.2.1).bind fun y27 => ((F15 y27.1.1 y9.1.1).bind fun y28 => (bif y28.1.1 then ((F23d5sd y27.2.1).bind fun y29 => (bif ((y29.1.1 : Int) == a2) then ((F22d5sd y9.1.1 a2 y29.2.1).bind fun y30 => (bif ((y30.1.1 : Int) == 10) then ((F24d5sd y30.2.1).bind fun y31 => (some (((decide ((y31.1.1 : Int) ≥ a2)), ()), (), ()))) else (some ((false, ()), (), ())))) else (some ((false, ()), (), ())))) else (some ((false, ()), (), ()))))))))))))))))))))))))))
noncomputable def c5 : Con := ⟨i5, o5, fun x => F5 x.1.1 x.1.2.1 x.1.2.2.1⟩
theorem e5 (x : i5.E) : vfn Try.prog C5 LO5 Try.f5 b5 i5 o5 x = c5.F x := by kernel_rfl
theorem c5_ok : Con.OK Try.prog 5 c5 := (fn_ok C5_ok (fun _ => rfl) Try.func5 body5 (loops_of (l := [l5_6]) (by kernel_rfl) (show LoopsOK Try.prog Try.f5.ntmps [l5_6] LO5 from ⟨k5_6_ok, trivial⟩)) i5 o5).congr fun x => (e5 x).symm
end Go.IM.V
namespace Go.IM.V
open Go Go.IM Go.Proofs
def mxI (t : Int) : Int := if (t : Int) > 0 then t else 0
def R5 (t : Int) : Option ((Bool × Unit) × Unit × Unit) := bif ((t : Int) == t) then some (((decide (((if (0 : Int) > mxI t then 0 else mxI t) : Int) ≥ t)), ()), (), ()) else some ((false, ()), (), ())
theorem R5_true (t : Int) (h : 0 ≤ t) : R5 t = some (r1 true) := by
 have h1 : mxI t = t := by unfold mxI; split <;> omega
 unfold R5
 rw [h1, if_neg (by omega), beq_self_eq_true, decide_eq_true (Int.le_refl t)]
 rfl
theorem ins00 (t : Int) (h : 0 ≤ t) : F5 0 0 t = some (r1 true) := by kernel_rfl
theorem ins01 (t : Int) (h : 0 ≤ t) : F5 0 1 t = some (r1 true) := by kernel_rfl
theorem ins02 (t : Int) (h : 0 ≤ t) : F5 0 2 t = some (r1 true) := by kernel_rfl
theorem ins03 (t : Int) (h : 0 ≤ t) : F5 0 3 t = some (r1 true) := by kernel_rfl
theorem ins04 (t : Int) (h : 0 ≤ t) : F5 0 4 t = some (r1 true) := by kernel_rfl
theorem ins05 (t : Int) (h : 0 ≤ t) : F5 0 5 t = some (r1 true) := by kernel_rfl
theorem ins06 (t : Int) (h : 0 ≤ t) : F5 0 6 t = some (r1 true) := by kernel_rfl
theorem ins07 (t : Int) (h : 0 ≤ t) : F5 0 7 t = some (r1 true) := by kernel_rfl
theorem ins10 (t : Int) (h : 0 ≤ t) : F5 1 0 t = some (r1 true) := by kernel_rfl
theorem ins11 (t : Int) (h : 0 ≤ t) : F5 1 1 t = some (r1 true) := (show F5 1 1 t = R5 t by kernel_rfl).trans (R5_true t h)
theorem ins12 (t : Int) (h : 0 ≤ t) : F5 1 2 t = some (r1 true) := by kernel_rfl
theorem ins13 (t : Int) (h : 0 ≤ t) : F5 1 3 t = some (r1 true) := by kernel_rfl
theorem ins14 (t : Int) (h : 0 ≤ t) : F5 1 4 t = some (r1 true) := by kernel_rfl
theorem ins15 (t : Int) (h : 0 ≤ t) : F5 1 5 t = some (r1 true) := by kernel_rfl
theorem ins16 (t : Int) (h : 0 ≤ t) : F5 1 6 t = some (r1 true) := by kernel_rfl
theorem ins17 (t : Int) (h : 0 ≤ t) : F5 1 7 t = some (r1 true) := by kernel_rfl
theorem ins20 (t : Int) (h : 0 ≤ t) : F5 2 0 t = some (r1 true) := by kernel_rfl
theorem ins21 (t : Int) (h : 0 ≤ t) : F5 2 1 t = some (r1 true) := (show F5 2 1 t = R5 t by kernel_rfl).trans (R5_true t h)
theorem ins22 (t : Int) (h : 0 ≤ t) : F5 2 2 t = some (r1 true) := (show F5 2 2 t = R5 t by kernel_rfl).trans (R5_true t h)
theorem ins23 (t : Int) (h : 0 ≤ t) : F5 2 3 t = some (r1 true) := by kernel_rfl
theorem ins24 (t : Int) (h : 0 ≤ t) : F5 2 4 t = some (r1 true) := by kernel_rfl
theorem ins25 (t : Int) (h : 0 ≤ t) : F5 2 5 t = some (r1 true) := by kernel_rfl
theorem ins26 (t : Int) (h : 0 ≤ t) : F5 2 6 t = some (r1 true) := by kernel_rfl
theorem ins27 (t : Int) (h : 0 ≤ t) : F5 2 7 t = some (r1 true) := by kernel_rfl
theorem ins30 (t : Int) (h : 0 ≤ t) : F5 3 0 t = some (r1 true) := by kernel_rfl
theorem ins31 (t : Int) (h : 0 ≤ t) : F5 3 1 t = some (r1 true) := (show F5 3 1 t = R5 t by kernel_rfl).trans (R5_true t h)
theorem ins32 (t : Int) (h : 0 ≤ t) : F5 3 2 t = some (r1 true) := (show F5 3 2 t = R5 t by kernel_rfl).trans (R5_true t h)
theorem ins33 (t : Int) (h : 0 ≤ t) : F5 3 3 t = some (r1 true) := (show F5 3 3 t = R5 t by kernel_rfl).trans (R5_true t h)
theorem ins34 (t : Int) (h : 0 ≤ t) : F5 3 4 t = some (r1 true) := by kernel_rfl
theorem ins35 (t : Int) (h : 0 ≤ t) : F5 3 5 t = some (r1 true) := by kernel_rfl
theorem ins36 (t : Int) (h : 0 ≤ t) : F5 3 6 t = some (r1 true) := by kernel_rfl
theorem ins37 (t : Int) (h : 0 ≤ t) : F5 3 7 t = some (r1 true) := by kernel_rfl
theorem ins40 (t : Int) (h : 0 ≤ t) : F5 4 0 t = some (r1 true) := by kernel_rfl
theorem ins41 (t : Int) (h : 0 ≤ t) : F5 4 1 t = some (r1 true) := (show F5 4 1 t = R5 t by kernel_rfl).trans (R5_true t h)
theorem ins42 (t : Int) (h : 0 ≤ t) : F5 4 2 t = some (r1 true) := (show F5 4 2 t = R5 t by kernel_rfl).trans (R5_true t h)
theorem ins43 (t : Int) (h : 0 ≤ t) : F5 4 3 t = some (r1 true) := (show F5 4 3 t = R5 t by kernel_rfl).trans (R5_true t h)
theorem ins44 (t : Int) (h : 0 ≤ t) : F5 4 4 t = some (r1 true) := (show F5 4 4 t = R5 t by kernel_rfl).trans (R5_true t h)
theorem ins45 (t : Int) (h : 0 ≤ t) : F5 4 5 t = some (r1 true) := by kernel_rfl
theorem ins46 (t : Int) (h : 0 ≤ t) : F5 4 6 t = some (r1 true) := by kernel_rfl
theorem ins47 (t : Int) (h : 0 ≤ t) : F5 4 7 t = some (r1 true) := by kernel_rfl
theorem ins50 (t : Int) (h : 0 ≤ t) : F5 5 0 t = some (r1 true) := by kernel_rfl
theorem ins51 (t : Int) (h : 0 ≤ t) : F5 5 1 t = some (r1 true) := (show F5 5 1 t = R5 t by kernel_rfl).trans (R5_true t h)
theorem ins52 (t : Int) (h : 0 ≤ t) : F5 5 2 t = some (r1 true) := (show F5 5 2 t = R5 t by kernel_rfl).trans (R5_true t h)
theorem ins53 (t : Int) (h : 0 ≤ t) : F5 5 3 t = some (r1 true) := (show F5 5 3 t = R5 t by kernel_rfl).trans (R5_true t h)
theorem ins54 (t : Int) (h : 0 ≤ t) : F5 5 4 t = some (r1 true) := (show F5 5 4 t = R5 t by kernel_rfl).trans (R5_true t h)
theorem ins55 (t : Int) (h : 0 ≤ t) : F5 5 5 t = some (r1 true) := (show F5 5 5 t = R5 t by kernel_rfl).trans (R5_true t h)
theorem ins56 (t : Int) (h : 0 ≤ t) : F5 5 6 t = some (r1 true) := by kernel_rfl
theorem ins57 (t : Int) (h : 0 ≤ t) : F5 5 7 t = some (r1 true) := by kernel_rfl
theorem installs_at (n k m j t : Int) (h0 : (IntKind.wrap .i64 n).tmod 6 = (IntKind.wrap .i64 k).tmod 6) (h1 : (IntKind.wrap .i64 m).tmod 8 = (IntKind.wrap .i64 j).tmod 8) : F5 n m t = F5 k j t := by
 unfold F5
 rw [h0, h1]
theorem installs_pure (n m t : Int) (hn : 0 ≤ n ∧ n < 256) (hm : 0 ≤ m ∧ m < 256) (ht : 0 ≤ t ∧ t < 18446744073709551616) : F5 n m t = some (r1 true) := by
 have w : ∀ x : Int, 0 ≤ x ∧ x < 256 → IntKind.wrap .i64 x = x := fun x hx => by rw [IntKind.wrap_i64]; omega
 have key : ∀ (k j : Int), (F5 k j t = some (r1 true)) → 0 ≤ k ∧ k < 6 ∧ 0 ≤ j ∧ j < 8 → n % 6 = k → m % 8 = j → F5 n m t = some (r1 true) := by
  intro k j hF hkj e1 e2
  obtain ⟨k0, k1, j0, j1⟩ := hkj
  refine (installs_at n k m j t ?_ ?_).trans hF
  ·rw [w n hn, w k ⟨k0, by omega⟩, Int.tmod_eq_emod_of_nonneg hn.1, Int.tmod_eq_emod_of_nonneg k0]; omega
  ·rw [w m hm, w j ⟨j0, by omega⟩, Int.tmod_eq_emod_of_nonneg hm.1, Int.tmod_eq_emod_of_nonneg j0]; omega
 have hk : n % 6 = 0 ∨ n % 6 = 1 ∨ n % 6 = 2 ∨ n % 6 = 3 ∨ n % 6 = 4 ∨ n % 6 = 5 := by omega
 have hj : m % 8 = 0 ∨ m % 8 = 1 ∨ m % 8 = 2 ∨ m % 8 = 3 ∨ m % 8 = 4 ∨ m % 8 = 5 ∨ m % 8 = 6 ∨ m % 8 = 7 := by omega
 rcases hk with hk | hk | hk | hk | hk | hk <;> rcases hj with hj | hj | hj | hj | hj | hj | hj | hj
 ·exact key _ _ (ins00 t ht.1) (by omega) hk hj
 ·exact key _ _ (ins01 t ht.1) (by omega) hk hj
 ·exact key _ _ (ins02 t ht.1) (by omega) hk hj
 ·exact key _ _ (ins03 t ht.1) (by omega) hk hj
 ·exact key _ _ (ins04 t ht.1) (by omega) hk hj
 ·exact key _ _ (ins05 t ht.1) (by omega) hk hj
 ·exact key _ _ (ins06 t ht.1) (by omega) hk hj
 ·exact key _ _ (ins07 t ht.1) (by omega) hk hj
 ·exact key _ _ (ins10 t ht.1) (by omega) hk hj
 ·exact key _ _ (ins11 t ht.1) (by omega) hk hj
 ·exact key _ _ (ins12 t ht.1) (by omega) hk hj
 ·exact key _ _ (ins13 t ht.1) (by omega) hk hj
 ·exact key _ _ (ins14 t ht.1) (by omega) hk hj
 ·exact key _ _ (ins15 t ht.1) (by omega) hk hj
 ·exact key _ _ (ins16 t ht.1) (by omega) hk hj
 ·exact key _ _ (ins17 t ht.1) (by omega) hk hj
 ·exact key _ _ (ins20 t ht.1) (by omega) hk hj
 ·exact key _ _ (ins21 t ht.1) (by omega) hk hj
 ·exact key _ _ (ins22 t ht.1) (by omega) hk hj
 ·exact key _ _ (ins23 t ht.1) (by omega) hk hj
 ·exact key _ _ (ins24 t ht.1) (by omega) hk hj
 ·exact key _ _ (ins25 t ht.1) (by omega) hk hj
 ·exact key _ _ (ins26 t ht.1) (by omega) hk hj
 ·exact key _ _ (ins27 t ht.1) (by omega) hk hj
 ·exact key _ _ (ins30 t ht.1) (by omega) hk hj
 ·exact key _ _ (ins31 t ht.1) (by omega) hk hj
 ·exact key _ _ (ins32 t ht.1) (by omega) hk hj
 ·exact key _ _ (ins33 t ht.1) (by omega) hk hj
 ·exact key _ _ (ins34 t ht.1) (by omega) hk hj
 ·exact key _ _ (ins35 t ht.1) (by omega) hk hj
 ·exact key _ _ (ins36 t ht.1) (by omega) hk hj
 ·exact key _ _ (ins37 t ht.1) (by omega) hk hj
 ·exact key _ _ (ins40 t ht.1) (by omega) hk hj
 ·exact key _ _ (ins41 t ht.1) (by omega) hk hj
 ·exact key _ _ (ins42 t ht.1) (by omega) hk hj
 ·exact key _ _ (ins43 t ht.1) (by omega) hk hj
 ·exact key _ _ (ins44 t ht.1) (by omega) hk hj
 ·exact key _ _ (ins45 t ht.1) (by omega) hk hj
 ·exact key _ _ (ins46 t ht.1) (by omega) hk hj
 ·exact key _ _ (ins47 t ht.1) (by omega) hk hj
 ·exact key _ _ (ins50 t ht.1) (by omega) hk hj
 ·exact key _ _ (ins51 t ht.1) (by omega) hk hj
 ·exact key _ _ (ins52 t ht.1) (by omega) hk hj
 ·exact key _ _ (ins53 t ht.1) (by omega) hk hj
 ·exact key _ _ (ins54 t ht.1) (by omega) hk hj
 ·exact key _ _ (ins55 t ht.1) (by omega) hk hj
 ·exact key _ _ (ins56 t ht.1) (by omega) hk hj
 ·exact key _ _ (ins57 t ht.1) (by omega) hk hj
end Go.IM.V