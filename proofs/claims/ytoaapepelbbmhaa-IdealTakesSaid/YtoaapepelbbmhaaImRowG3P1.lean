/- What the code of a law comes to, and what that tells: part 1. Lemmas alone; no conditions. -/
import Derived.Test.YtoaapepelbbmhaaProg
import Derived.KernelRfl
import Derived.Test.YtoaapepelbbmhaaImM5
import Derived.Test.YtoaapepelbbmhaaImM2
set_option linter.unusedVariables false
set_option linter.unusedSimpArgs false
set_option linter.constructorNameAsVariable false
namespace Go.IM.V
open Go Go.IM
variable {P : Program} {m m1 : M} {S0 : Nat → Prop} {env env1 : Env} {X Y : Cx}
def iT : Tm := { sl := [] }
def oT : Tm := { sl := [(0, .v .b)] }
def cT : Con := ⟨iT, .ret oT, fun _ => some ((true, ()), (), ())⟩
theorem orc_ok [Orc P] {k : FuncId} (h : ∀ args : Array Value, args.size = 0 → Orc.O P k args = some (.bool true)) : Con.OK P k cT := by
 intro x y hF S0 env m args hT hB hsl hnil
 have hs : args.size = 0 := hnil
 have hy : y = ((true, ()), (), ()) := by have : some ((true, ()), (), ()) = some y := hF; cases this; rfl
 subst hy
 refine ⟨.ret (.bool true), m, env, ⟨0, fun n _ => ?_⟩, ⟨Fr2.refl hT.free, hT, fun j hj => absurd hj (Nat.not_lt_zero _), fun i w => .inl w, fun i w => .inl w, fun j hj => absurd hj (Nat.not_lt_zero _), fun j L hj => absurd hj (Nat.not_lt_zero _), fun i w => w⟩, ⟨.bool true, rfl, ofV_rep (.bool true)⟩⟩
 unfold callF
 rw [h args hs]
theorem noL [Orc P] {N : Nat} {c : Code} {LO : Tab} (h : loopsOf c = []) : ∀ b ∈ loopsOf c, ∀ con, lookC LO (headReg b) = some con → con.LOK P N b := loops_of (l := []) h trivial
end Go.IM.V
namespace Go.IM.V
open Go Go.IM Go.Proofs
set_option maxRecDepth 100000 in
theorem run7 : isT (run0 Try.prog 400 7 #[]) = true := by kernel_rfl
instance orc7 : Orc Try.prog := Orc.one Try.prog 7 400 run7
noncomputable def F7 : Option (OT.ret oT).E := some ((true, ()), (), ())
noncomputable def c7 : Con := ⟨iT, .ret oT, fun _ => F7⟩
theorem c7_ok : Con.OK Try.prog 7 c7 := orc_ok (fun _ h => if_pos ⟨rfl, h⟩)
end Go.IM.V
namespace Go.IM.V
open Go Go.IM
variable {P : Program}
theorem Con.LOK.fuel [Orc P] {N : Nat} {b : Code} {ins : Tm} {out : OT} {T : ins.E → Option (ins.E ⊕ out.E)} (h : Con.LOK P N b ⟨ins, out, loopF T⟩) {G : ins.E → Option (ins.E ⊕ out.E)} (n : Nat) (hG : T = G) : Con.LOK P N b ⟨ins, out, fun x => iter G n x⟩ := by
 subst hG
 exact fun x y hy => h x y (loopF_of hy)
end Go.IM.V
namespace Go.IM.V
open Go Go.IM Go.Proofs
abbrev DEv : Type := (Int × (Int × (Int × (Int × (ByteArray × ((List Int) × (Nat × (Int × Unit))))))))
abbrev tDEv : Ty := (.p (.i .i64) (.p (.i .u64) (.p (.i .u64) (.p (.i .u8) (.p .s (.p (.l (.i .u8)) (.p (.f .f64) (.p (.i .i64) .u))))))))
noncomputable def b71 : Code := (.seq (.region 0 (regOf Try.f71 0) false) (.seq (.region 1 (regOf Try.f71 1) false) .ret))
theorem body71 : Try.f71.body = some b71 := by kernel_rfl
noncomputable def C71 : Tab := []
theorem C71_ok : TabOK Try.prog C71 := trivial
noncomputable def LO71 : Tab := []
noncomputable def i71 : Tm := { sl := [(0, .v (.i .u64))], bx := [], bf := [] }
noncomputable def o71 : OT := (.ret { sl := [(0, .v .b)], bx := [], bf := [] })
noncomputable def F71 (a0 : Int) : Option ((Bool × Unit) × Unit × Unit) :=
 (some ((((a0 : Int) != a0), ()), (), ()))
noncomputable def c71 : Con := ⟨i71, o71, fun x => F71 x.1.1⟩
theorem e71 (x : i71.E) : vfn Try.prog C71 LO71 Try.f71 b71 i71 o71 x = c71.F x := by kernel_rfl
theorem c71_ok : Con.OK Try.prog 71 c71 := (fn_ok C71_ok (fun _ => rfl) Try.func71 body71 (noL (by kernel_rfl)) i71 o71).congr fun x => (e71 x).symm
noncomputable def b72 : Code := (.seq (.region 0 (regOf Try.f72 0) false) (.seq (.region 1 (regOf Try.f72 1) false) .ret))
theorem body72 : Try.f72.body = some b72 := by kernel_rfl
noncomputable def C72 : Tab := []
theorem C72_ok : TabOK Try.prog C72 := trivial
noncomputable def LO72 : Tab := []
noncomputable def i72 : Tm := { sl := [(0, .v (.i .i64))], bx := [], bf := [] }
noncomputable def o72 : OT := (.ret { sl := [(0, .v .b)], bx := [], bf := [] })
noncomputable def F72 (a0 : Int) : Option ((Bool × Unit) × Unit × Unit) :=
 (some ((((a0 : Int) != a0), ()), (), ()))
noncomputable def c72 : Con := ⟨i72, o72, fun x => F72 x.1.1⟩
theorem e72 (x : i72.E) : vfn Try.prog C72 LO72 Try.f72 b72 i72 o72 x = c72.F x := by kernel_rfl
theorem c72_ok : Con.OK Try.prog 72 c72 := (fn_ok C72_ok (fun _ => rfl) Try.func72 body72 (noL (by kernel_rfl)) i72 o72).congr fun x => (e72 x).symm
noncomputable def b52 : Code := (.seq (.region 0 (regOf Try.f52 0) false) (.seq (.region 1 (regOf Try.f52 1) false) (.seq (.region 2 (regOf Try.f52 2) false) (.seq (.seq (.region 3 (regOf Try.f52 3) false) (.cond (.tmp 11) (.seq (.seq (.region 4 (regOf Try.f52 4) false) (.cond (.tmp 12) (.seq (.region 5 (regOf Try.f52 5) false) .ret) .skip)) (.seq (.region 6 (regOf Try.f52 6) false) .ret)) .skip)) (.seq (.seq (.region 7 (regOf Try.f52 7) false) (.cond (.tmp 13) (.seq (.region 8 (regOf Try.f52 8) false) .ret) .skip)) (.seq (.seq (.region 9 (regOf Try.f52 9) false) (.cond (.tmp 16) (.seq (.region 10 (regOf Try.f52 10) false) .ret) .skip)) (.seq (.seq (.region 11 (regOf Try.f52 11) false) (.cond (.tmp 19) (.seq (.region 12 (regOf Try.f52 12) false) .ret) .skip)) (.seq (.region 13 (regOf Try.f52 13) false) .ret))))))))
theorem body52 : Try.f52.body = some b52 := by kernel_rfl
noncomputable def C52 : Tab := [(71, c71)]
theorem C52_ok : TabOK Try.prog C52 := ⟨c71_ok, trivial⟩
noncomputable def LO52 : Tab := []
noncomputable def i52 : Tm := { sl := [(0, .v (.i .u64)), (1, .v (.i .u64))], bx := [], bf := [] }
noncomputable def o52 : OT := (.ret { sl := [(0, .v (.i .i64))], bx := [], bf := [] })
noncomputable def F52 (a0 : Int) (a1 : Int) : Option ((Int × Unit) × Unit × Unit) :=
 ((F71 a0).bind fun y0 => ((F71 a1).bind fun y1 => (bif y0.1.1 then (bif y1.1.1 then (some ((0, ()), (), ())) else (some (((-1), ()), (), ()))) else (bif y1.1.1 then (some ((1, ()), (), ())) else (bif (decide ((a0 : Int) < a1)) then (some (((-1), ()), (), ())) else (bif (decide ((a0 : Int) > a1)) then (some ((1, ()), (), ())) else (some ((0, ()), (), ()))))))))
noncomputable def c52 : Con := ⟨i52, o52, fun x => F52 x.1.1 x.1.2.1⟩
theorem e52 (x : i52.E) : vfn Try.prog C52 LO52 Try.f52 b52 i52 o52 x = c52.F x := by kernel_rfl
theorem c52_ok : Con.OK Try.prog 52 c52 := (fn_ok C52_ok (fun _ => rfl) Try.func52 body52 (noL (by kernel_rfl)) i52 o52).congr fun x => (e52 x).symm
noncomputable def b53 : Code := (.seq (.region 0 (regOf Try.f53 0) false) (.seq (.region 1 (regOf Try.f53 1) false) (.seq (.region 2 (regOf Try.f53 2) false) (.seq (.seq (.region 3 (regOf Try.f53 3) false) (.cond (.tmp 11) (.seq (.seq (.region 4 (regOf Try.f53 4) false) (.cond (.tmp 12) (.seq (.region 5 (regOf Try.f53 5) false) .ret) .skip)) (.seq (.region 6 (regOf Try.f53 6) false) .ret)) .skip)) (.seq (.seq (.region 7 (regOf Try.f53 7) false) (.cond (.tmp 13) (.seq (.region 8 (regOf Try.f53 8) false) .ret) .skip)) (.seq (.seq (.region 9 (regOf Try.f53 9) false) (.cond (.tmp 16) (.seq (.region 10 (regOf Try.f53 10) false) .ret) .skip)) (.seq (.seq (.region 11 (regOf Try.f53 11) false) (.cond (.tmp 19) (.seq (.region 12 (regOf Try.f53 12) false) .ret) .skip)) (.seq (.region 13 (regOf Try.f53 13) false) .ret))))))))
theorem body53 : Try.f53.body = some b53 := by kernel_rfl
noncomputable def C53 : Tab := [(72, c72)]
theorem C53_ok : TabOK Try.prog C53 := ⟨c72_ok, trivial⟩
noncomputable def LO53 : Tab := []
noncomputable def i53 : Tm := { sl := [(0, .v (.i .i64)), (1, .v (.i .i64))], bx := [], bf := [] }
noncomputable def o53 : OT := (.ret { sl := [(0, .v (.i .i64))], bx := [], bf := [] })
noncomputable def F53 (a0 : Int) (a1 : Int) : Option ((Int × Unit) × Unit × Unit) :=
 ((F72 a0).bind fun y0 => ((F72 a1).bind fun y1 => (bif y0.1.1 then (bif y1.1.1 then (some ((0, ()), (), ())) else (some (((-1), ()), (), ()))) else (bif y1.1.1 then (some ((1, ()), (), ())) else (bif (decide ((a0 : Int) < a1)) then (some (((-1), ()), (), ())) else (bif (decide ((a0 : Int) > a1)) then (some ((1, ()), (), ())) else (some ((0, ()), (), ()))))))))
noncomputable def c53 : Con := ⟨i53, o53, fun x => F53 x.1.1 x.1.2.1⟩
theorem e53 (x : i53.E) : vfn Try.prog C53 LO53 Try.f53 b53 i53 o53 x = c53.F x := by kernel_rfl
theorem c53_ok : Con.OK Try.prog 53 c53 := (fn_ok C53_ok (fun _ => rfl) Try.func53 body53 (noL (by kernel_rfl)) i53 o53).congr fun x => (e53 x).symm
noncomputable def l51_3 : Code := (.seq (.region 3 (regOf Try.f51 3) false) (.seq (.cond (.tmp 9) .skip (.exit 0)) (.seq (.block 1 (.seq (.region 4 (regOf Try.f51 4) false) (.seq (.region 5 (regOf Try.f51 5) false) (.cond (.tmp 14) (.seq (.region 6 (regOf Try.f51 6) false) .ret) .skip)))) (.region 7 (regOf Try.f51 7) false))))
noncomputable def b51 : Code := (.seq (.region 0 (regOf Try.f51 0) false) (.seq (.region 1 (regOf Try.f51 1) false) (.seq (.seq (.region 2 (regOf Try.f51 2) false) (.block 0 (.loop l51_3))) (.seq (.region 8 (regOf Try.f51 8) false) .ret))))
theorem body51 : Try.f51.body = some b51 := by kernel_rfl
noncomputable def C51_3 : Tab := []
theorem C51_3_ok : TabOK Try.prog C51_3 := trivial
noncomputable def LO51_3 : Tab := []
noncomputable def i51_3 : Tm := { sl := [(3, .v (.i .i64)), (6, .v (.l (.i .i64))), (7, .v (.i .i64)), (8, .v (.i .i64))], bx := [], bf := [] }
noncomputable def o51_3 : OT := (.two (.ret { sl := [(2, .v (.i .i64))], bx := [], bf := [] }) (.exit 0 { sl := [], bx := [], bf := [] }))
noncomputable def T51_3 (a3 : Int) (a6 : (List Int)) (a7 : Int) (a8 : Int) : Option (((Int × ((List Int) × (Int × (Int × Unit)))) × Unit × Unit) ⊕ (((Int × Unit) × Unit × Unit) ⊕ (Unit × Unit × Unit))) :=
 (bif (decide ((a8 : Int) < a7)) then (bif (decide (0 ≤ (a8 : Int) ∧ (a8 : Int) < (((a6).length : Nat) : Int))) then (bif ((((a6).getD (a8 : Int).toNat (0 : Int)) : Int) != a3) then (some (.inr (.inl ((((a6).getD (a8 : Int).toNat (0 : Int)), ()), (), ())))) else (some (.inl ((a3, a6, a7, (IntKind.wrap .i64 (a8 + 1)), ()), (), ())))) else none) else (some (.inr (.inr ((), (), ())))))
noncomputable def L51_3 (a3 : Int) (a6 : (List Int)) (a7 : Int) (a8 : Int) : Option (((Int × Unit) × Unit × Unit) ⊕ (Unit × Unit × Unit)) := iter (fun x : ((Int × ((List Int) × (Int × (Int × Unit)))) × Unit × Unit) => T51_3 x.1.1 x.1.2.1 x.1.2.2.1 x.1.2.2.2.1) 300 ((a3, a6, a7, a8, ()), (), ())
noncomputable def k51_3 : Con := ⟨i51_3, o51_3, fun x => L51_3 x.1.1 x.1.2.1 x.1.2.2.1 x.1.2.2.2.1⟩
theorem e51_3 (x : i51_3.E) : vround Try.prog C51_3 LO51_3 Try.f51.ntmps l51_3 i51_3 o51_3 x = T51_3 x.1.1 x.1.2.1 x.1.2.2.1 x.1.2.2.2.1 := by kernel_rfl
theorem k51_3_ok : Con.LOK Try.prog Try.f51.ntmps l51_3 k51_3 := Con.LOK.fuel (loop_ok C51_3_ok (noL (by kernel_rfl)) i51_3 o51_3) 300 (funext e51_3)
noncomputable def C51 : Tab := []
theorem C51_ok : TabOK Try.prog C51 := trivial
noncomputable def LO51 : Tab := [(3, k51_3)]
noncomputable def i51 : Tm := { sl := [(0, .v (.l (.i .i64)))], bx := [], bf := [] }
noncomputable def o51 : OT := (.ret { sl := [(0, .v (.i .i64))], bx := [], bf := [] })
noncomputable def F51 (a0 : (List Int)) : Option ((Int × Unit) × Unit × Unit) :=
 ((L51_3 0 a0 (((a0).length : Nat) : Int) 0).bind fun y0 => (Sum.elim (fun y1 => (some ((y1.1.1, ()), (), ()))) (fun y1 => (some ((0, ()), (), ()))) y0))
noncomputable def c51 : Con := ⟨i51, o51, fun x => F51 x.1.1⟩
theorem e51 (x : i51.E) : vfn Try.prog C51 LO51 Try.f51 b51 i51 o51 x = c51.F x := by kernel_rfl
theorem c51_ok : Con.OK Try.prog 51 c51 := (fn_ok C51_ok (fun _ => rfl) Try.func51 body51 (loops_of (l := [l51_3]) (by kernel_rfl) (show LoopsOK Try.prog Try.f51.ntmps [l51_3] LO51 from ⟨k51_3_ok, trivial⟩)) i51 o51).congr fun x => (e51 x).symm
noncomputable def b35 : Code := (.seq (.region 0 (regOf Try.f35 0) false) (.seq (.region 1 (regOf Try.f35 1) false) .ret))
theorem body35 : Try.f35.body = some b35 := by kernel_rfl
noncomputable def C35 : Tab := []
theorem C35_ok : TabOK Try.prog C35 := trivial
noncomputable def LO35 : Tab := []
noncomputable def i35 : Tm := { sl := [(0, .v tDEv)], bx := [], bf := [] }
noncomputable def o35 : OT := (.ret { sl := [(0, .v (.p (.i .u64) (.p (.i .i64) .u)))], bx := [], bf := [] })
noncomputable def F35 (a0 : DEv) : Option (((Int × (Int × Unit)) × Unit) × Unit × Unit) :=
 (some (((a0.2.2.1, (a0.1, ())), ()), (), ()))
noncomputable def c35 : Con := ⟨i35, o35, fun x => F35 x.1.1⟩
theorem e35 (x : i35.E) : vfn Try.prog C35 LO35 Try.f35 b35 i35 o35 x = c35.F x := by kernel_rfl
theorem c35_ok : Con.OK Try.prog 35 c35 := (fn_ok C35_ok (fun _ => rfl) Try.func35 body35 (noL (by kernel_rfl)) i35 o35).congr fun x => (e35 x).symm
noncomputable def b34 : Code := (.seq (.region 0 (regOf Try.f34 0) false) (.seq (.region 1 (regOf Try.f34 1) true) .ret))
theorem body34 : Try.f34.body = some b34 := by kernel_rfl
noncomputable def C34 : Tab := [(51, c51), (52, c52), (53, c53)]
theorem C34_ok : TabOK Try.prog C34 := ⟨c51_ok, c52_ok, c53_ok, trivial⟩
noncomputable def LO34 : Tab := []
noncomputable def i34 : Tm := { sl := [(0, .v (.p (.i .u64) (.p (.i .i64) .u))), (1, .v (.p (.i .u64) (.p (.i .i64) .u)))], bx := [], bf := [] }
noncomputable def o34 : OT := (.ret { sl := [(0, .v (.i .i64))], bx := [], bf := [] })
noncomputable def F34 (a0 : (Int × (Int × Unit))) (a1 : (Int × (Int × Unit))) : Option ((Int × Unit) × Unit × Unit) :=
 ((F52 a0.1 a1.1).bind fun y0 => ((F53 a0.2.1 a1.2.1).bind fun y1 => ((F51 [y0.1.1, y1.1.1]).bind fun y2 => (some ((y2.1.1, ()), (), ())))))
noncomputable def c34 : Con := ⟨i34, o34, fun x => F34 x.1.1 x.1.2.1⟩
theorem e34 (x : i34.E) : vfn Try.prog C34 LO34 Try.f34 b34 i34 o34 x = c34.F x := by kernel_rfl
theorem c34_ok : Con.OK Try.prog 34 c34 := (fn_ok C34_ok (fun _ => rfl) Try.func34 body34 (noL (by kernel_rfl)) i34 o34).congr fun x => (e34 x).symm
noncomputable def b36 : Code := (.seq (.region 0 (regOf Try.f36 0) false) (.seq (.region 1 (regOf Try.f36 1) false) .ret))
theorem body36 : Try.f36.body = some b36 := by kernel_rfl
noncomputable def C36 : Tab := []
theorem C36_ok : TabOK Try.prog C36 := trivial
noncomputable def LO36 : Tab := []
noncomputable def i36 : Tm := { sl := [(0, .v (.i .i64))], bx := [], bf := [] }
noncomputable def o36 : OT := (.ret { sl := [(0, .v .b)], bx := [], bf := [] })
noncomputable def F36 (a0 : Int) : Option ((Bool × Unit) × Unit × Unit) :=
 (bif (decide ((a0 : Int) ≥ 0)) then (some (((decide ((a0 : Int) < 64)), ()), (), ())) else (some ((false, ()), (), ())))
noncomputable def c36 : Con := ⟨i36, o36, fun x => F36 x.1.1⟩
theorem e36 (x : i36.E) : vfn Try.prog C36 LO36 Try.f36 b36 i36 o36 x = c36.F x := by kernel_rfl
theorem c36_ok : Con.OK Try.prog 36 c36 := (fn_ok C36_ok (fun _ => rfl) Try.func36 body36 (noL (by kernel_rfl)) i36 o36).congr fun x => (e36 x).symm
noncomputable def b12 : Code := (.seq (.region 0 (regOf Try.f12 0) false) (.seq (.region 1 (regOf Try.f12 1) false) (.seq (.block 0 (.seq (.region 2 (regOf Try.f12 2) false) (.cond (.tmp 12) (.seq (.region 3 (regOf Try.f12 3) false) .ret) (.seq (.region 4 (regOf Try.f12 4) false) (.cond (.tmp 48) (.seq (.region 5 (regOf Try.f12 5) false) .ret) (.seq (.region 6 (regOf Try.f12 6) false) (.cond (.tmp 73) (.seq (.region 7 (regOf Try.f12 7) false) .ret) .skip))))))) (.seq (.region 8 (regOf Try.f12 8) false) .ret))))
theorem body12 : Try.f12.body = some b12 := by kernel_rfl
noncomputable def C12 : Tab := [(36, c36)]
theorem C12_ok : TabOK Try.prog C12 := ⟨c36_ok, trivial⟩
noncomputable def LO12 : Tab := []
noncomputable def i12 : Tm := { sl := [(0, .v tDEv)], bx := [], bf := [] }
noncomputable def o12 : OT := (.ret { sl := [(0, .v (.i .i64))], bx := [], bf := [] })
noncomputable def F12 (a0 : DEv) : Option ((Int × Unit) × Unit × Unit) :=
 (bif (decide ((a0.2.2.2.1 : Int) ≥ 1)) then ((F36 a0.1).bind fun y0 => (bif (!y0.1.1) then (some ((1, ()), (), ())) else (bif ((a0.2.1 : Int) == 0) then (some ((1, ()), (), ())) else (bif ((a0.2.2.1 : Int) == 0) then (some ((1, ()), (), ())) else (bif (decide ((a0.2.2.2.1 : Int) < 1)) then (some ((1, ()), (), ())) else (bif (decide ((a0.2.2.2.1 : Int) > 6)) then (some ((1, ()), (), ())) else (bif ((a0.2.2.2.1 : Int) == 5) then ((F36 a0.2.2.2.2.2.2.2.1).bind fun y1 => (bif (!y1.1.1) then (some ((1, ()), (), ())) else (bif (decide ((a0.2.2.2.1 : Int) ≤ 4)) then (bif ((((a0.2.2.2.2.1.size : Nat) : Int) : Int) == 0) then (some ((6, ()), (), ())) else (bif (decide ((((a0.2.2.2.2.1.size : Nat) : Int) : Int) > 64)) then (some ((6, ()), (), ())) else (bif ((a0.2.2.2.1 : Int) == 1) then (bif (decide (((((a0.2.2.2.2.2.1).length : Nat) : Int) : Int) > 1048576)) then (some ((6, ()), (), ())) else (bif (decide ((a0.2.1 : Int) > 9223372036854775807)) then (some ((8, ()), (), ())) else (bif (decide ((a0.2.2.1 : Int) > 9223372036854775807)) then (some ((8, ()), (), ())) else (some ((0, ()), (), ()))))) else (bif (decide ((a0.2.1 : Int) > 9223372036854775807)) then (some ((8, ()), (), ())) else (bif (decide ((a0.2.2.1 : Int) > 9223372036854775807)) then (some ((8, ()), (), ())) else (some ((0, ()), (), ()))))))) else (bif ((a0.2.2.2.1 : Int) == 1) then (bif (decide (((((a0.2.2.2.2.2.1).length : Nat) : Int) : Int) > 1048576)) then (some ((6, ()), (), ())) else (bif (decide ((a0.2.1 : Int) > 9223372036854775807)) then (some ((8, ()), (), ())) else (bif (decide ((a0.2.2.1 : Int) > 9223372036854775807)) then (some ((8, ()), (), ())) else (some ((0, ()), (), ()))))) else (bif (decide ((a0.2.1 : Int) > 9223372036854775807)) then (some ((8, ()), (), ())) else (bif (decide ((a0.2.2.1 : Int) > 9223372036854775807)) then (some ((8, ()), (), ())) else (some ((0, ()), (), ())))))))) else (bif (decide ((a0.2.2.2.1 : Int) ≤ 4)) then (bif ((((a0.2.2.2.2.1.size : Nat) : Int) : Int) == 0) then (some ((6, ()), (), ())) else (bif (decide ((((a0.2.2.2.2.1.size : Nat) : Int) : Int) > 64)) then (some ((6, ()), (), ())) else (bif ((a0.2.2.2.1 : Int) == 1) then (bif (decide (((((a0.2.2.2.2.2.1).length : Nat) : Int) : Int) > 1048576)) then (some ((6, ()), (), ())) else (bif (decide ((a0.2.1 : Int) > 9223372036854775807)) then (some ((8, ()), (), ())) else (bif (decide ((a0.2.2.1 : Int) > 9223372036854775807)) then (some ((8, ()), (), ())) else (some ((0, ()), (), ()))))) else (bif (decide ((a0.2.1 : Int) > 9223372036854775807)) then (some ((8, ()), (), ())) else (bif (decide ((a0.2.2.1 : Int) > 9223372036854775807)) then (some ((8, ()), (), ())) else (some ((0, ()), (), ()))))))) else (bif ((a0.2.2.2.1 : Int) == 1) then (bif (decide (((((a0.2.2.2.2.2.1).length : Nat) : Int) : Int) > 1048576)) then (some ((6, ()), (), ())) else (bif (decide ((a0.2.1 : Int) > 9223372036854775807)) then (some ((8, ()), (), ())) else (bif (decide ((a0.2.2.1 : Int) > 9223372036854775807)) then (some ((8, ()), (), ())) else (some ((0, ()), (), ()))))) else (bif (decide ((a0.2.1 : Int) > 9223372036854775807)) then (some ((8, ()), (), ())) else (bif (decide ((a0.2.2.1 : Int) > 9223372036854775807)) then (some ((8, ()), (), ())) else (some ((0, ()), (), ()))))))))))))) else ((F36 a0.1).bind fun y2 => (bif (!y2.1.1) then (some ((1, ()), (), ())) else (bif ((a0.2.1 : Int) == 0) then (some ((1, ()), (), ())) else (bif ((a0.2.2.1 : Int) == 0) then (some ((1, ()), (), ())) else (bif (decide ((a0.2.2.2.1 : Int) < 1)) then (some ((1, ()), (), ())) else (bif (decide ((a0.2.2.2.1 : Int) > 6)) then (some ((1, ()), (), ())) else (bif ((a0.2.2.2.1 : Int) == 5) then ((F36 a0.2.2.2.2.2.2.2.1).bind fun y3 => (bif (!y3.1.1) then (some ((1, ()), (), ())) else (bif ((a0.2.2.2.1 : Int) == 1) then (bif (decide (((((a0.2.2.2.2.2.1).length : Nat) : Int) : Int) > 1048576)) then (some ((6, ()), (), ())) else (bif (decide ((a0.2.1 : Int) > 9223372036854775807)) then (some ((8, ()), (), ())) else (bif (decide ((a0.2.2.1 : Int) > 9223372036854775807)) then (some ((8, ()), (), ())) else (some ((0, ()), (), ()))))) else (bif (decide ((a0.2.1 : Int) > 9223372036854775807)) then (some ((8, ()), (), ())) else (bif (decide ((a0.2.2.1 : Int) > 9223372036854775807)) then (some ((8, ()), (), ())) else (some ((0, ()), (), ()))))))) else (bif ((a0.2.2.2.1 : Int) == 1) then (bif (decide (((((a0.2.2.2.2.2.1).length : Nat) : Int) : Int) > 1048576)) then (some ((6, ()), (), ())) else (bif (decide ((a0.2.1 : Int) > 9223372036854775807)) then (some ((8, ()), (), ())) else (bif (decide ((a0.2.2.1 : Int) > 9223372036854775807)) then (some ((8, ()), (), ())) else (some ((0, ()), (), ()))))) else (bif (decide ((a0.2.1 : Int) > 9223372036854775807)) then (some ((8, ()), (), ())) else (bif (decide ((a0.2.2.1 : Int) > 9223372036854775807)) then (some ((8, ()), (), ())) else (some ((0, ()), (), ())))))))))))))
noncomputable def c12 : Con := ⟨i12, o12, fun x => F12 x.1.1⟩
theorem e12 (x : i12.E) : vfn Try.prog C12 LO12 Try.f12 b12 i12 o12 x = c12.F x := by kernel_rfl
theorem c12_ok : Con.OK Try.prog 12 c12 := (fn_ok C12_ok (fun _ => rfl) Try.func12 body12 (noL (by kernel_rfl)) i12 o12).congr fun x => (e12 x).symm
noncomputable def b31 : Code := (.seq (.region 0 (regOf Try.f31 0) false) (.seq (.seq (.region 1 (regOf Try.f31 1) false) (.cond (.tmp 12) (.seq (.region 2 (regOf Try.f31 2) false) .ret) .skip)) (.seq (.region 3 (regOf Try.f31 3) false) .ret)))
theorem body31 : Try.f31.body = some b31 := by kernel_rfl
noncomputable def C31 : Tab := []
theorem C31_ok : TabOK Try.prog C31 := trivial
noncomputable def LO31 : Tab := []
noncomputable def i31 : Tm := { sl := [(0, .v (.l (.i .u64))), (1, .v (.i .i64))], bx := [], bf := [] }
noncomputable def o31 : OT := (.ret { sl := [(0, .v (.i .u64))], bx := [], bf := [] })
noncomputable def F31 (a0 : (List Int)) (a1 : Int) : Option ((Int × Unit) × Unit × Unit) :=
 (bif (decide ((a1 : Int) < 0)) then (some ((0, ()), (), ())) else (bif (decide ((a1 : Int) ≥ (((a0).length : Nat) : Int))) then (some ((0, ()), (), ())) else (bif (decide (0 ≤ (a1 : Int) ∧ (a1 : Int) < (((a0).length : Nat) : Int))) then (some ((((a0).getD (a1 : Int).toNat (0 : Int)), ()), (), ())) else none)))
noncomputable def c31 : Con := ⟨i31, o31, fun x => F31 x.1.1 x.1.2.1⟩
theorem e31 (x : i31.E) : vfn Try.prog C31 LO31 Try.f31 b31 i31 o31 x = c31.F x := by kernel_rfl
theorem c31_ok : Con.OK Try.prog 31 c31 := (fn_ok C31_ok (fun _ => rfl) Try.func31 body31 (noL (by kernel_rfl)) i31 o31).congr fun x => (e31 x).symm
noncomputable def l28_2 : Code := (.seq (.region 2 (regOf Try.f28 2) false) (.seq (.cond (.tmp 10) .skip (.exit 0)) (.seq (.block 1 (.seq (.region 3 (regOf Try.f28 3) false) (.seq (.region 4 (regOf Try.f28 4) false) (.cond (.tmp 18) (.seq (.region 5 (regOf Try.f28 5) false) .ret) .skip)))) (.region 6 (regOf Try.f28 6) false))))
noncomputable def b28 : Code := (.seq (.region 0 (regOf Try.f28 0) false) (.seq (.seq (.region 1 (regOf Try.f28 1) false) (.block 0 (.loop l28_2))) (.seq (.region 7 (regOf Try.f28 7) false) .ret)))
theorem body28 : Try.f28.body = some b28 := by kernel_rfl
noncomputable def C28_2 : Tab := [(31, c31)]
theorem C28_2_ok : TabOK Try.prog C28_2 := ⟨c31_ok, trivial⟩
noncomputable def LO28_2 : Tab := []
noncomputable def i28_2 : Tm := { sl := [(1, .v (.l (.i .u64))), (7, .v (.l (.i .u64))), (8, .v (.i .i64)), (9, .v (.i .i64))], bx := [], bf := [] }
noncomputable def o28_2 : OT := (.two (.ret { sl := [(4, .v .b)], bx := [], bf := [] }) (.exit 0 { sl := [], bx := [], bf := [] }))
noncomputable def T28_2 (a1 : (List Int)) (a7 : (List Int)) (a8 : Int) (a9 : Int) : Option ((((List Int) × ((List Int) × (Int × (Int × Unit)))) × Unit × Unit) ⊕ (((Bool × Unit) × Unit × Unit) ⊕ (Unit × Unit × Unit))) :=
 (bif (decide ((a9 : Int) < a8)) then (bif (decide (0 ≤ (a9 : Int) ∧ (a9 : Int) < (((a7).length : Nat) : Int))) then ((F31 a1 a9).bind fun y0 => (bif (decide ((((a7).getD (a9 : Int).toNat (0 : Int)) : Int) > y0.1.1)) then (some (.inr (.inl ((false, ()), (), ())))) else (some (.inl ((a1, a7, a8, (IntKind.wrap .i64 (a9 + 1)), ()), (), ()))))) else none) else (some (.inr (.inr ((), (), ())))))
noncomputable def L28_2 (a1 : (List Int)) (a7 : (List Int)) (a8 : Int) (a9 : Int) : Option (((Bool × Unit) × Unit × Unit) ⊕ (Unit × Unit × Unit)) := iter (fun x : (((List Int) × ((List Int) × (Int × (Int × Unit)))) × Unit × Unit) => T28_2 x.1.1 x.1.2.1 x.1.2.2.1 x.1.2.2.2.1) 300 ((a1, a7, a8, a9, ()), (), ())
noncomputable def k28_2 : Con := ⟨i28_2, o28_2, fun x => L28_2 x.1.1 x.1.2.1 x.1.2.2.1 x.1.2.2.2.1⟩
theorem e28_2 (x : i28_2.E) : vround Try.prog C28_2 LO28_2 Try.f28.ntmps l28_2 i28_2 o28_2 x = T28_2 x.1.1 x.1.2.1 x.1.2.2.1 x.1.2.2.2.1 := by kernel_rfl
theorem k28_2_ok : Con.LOK Try.prog Try.f28.ntmps l28_2 k28_2 := Con.LOK.fuel (loop_ok C28_2_ok (noL (by kernel_rfl)) i28_2 o28_2) 300 (funext e28_2)
noncomputable def C28 : Tab := [(31, c31)]
theorem C28_ok : TabOK Try.prog C28 := ⟨c31_ok, trivial⟩
noncomputable def LO28 : Tab := [(2, k28_2)]
noncomputable def i28 : Tm := { sl := [(0, .v (.l (.i .u64))), (1, .v (.l (.i .u64)))], bx := [], bf := [] }
noncomputable def o28 : OT := (.ret { sl := [(0, .v .b)], bx := [], bf := [] })
noncomputable def F28 (a0 : (List Int)) (a1 : (List Int)) : Option ((Bool × Unit) × Unit × Unit) :=
 ((L28_2 a1 a0 (((a0).length : Nat) : Int) 0).bind fun y0 => (Sum.elim (fun y1 => (some ((y1.1.1, ()), (), ()))) (fun y1 => (some ((true, ()), (), ()))) y0))
noncomputable def c28 : Con := ⟨i28, o28, fun x => F28 x.1.1 x.1.2.1⟩
theorem e28 (x : i28.E) : vfn Try.prog C28 LO28 Try.f28 b28 i28 o28 x = c28.F x := by kernel_rfl
theorem c28_ok : Con.OK Try.prog 28 c28 := (fn_ok C28_ok (fun _ => rfl) Try.func28 body28 (loops_of (l := [l28_2]) (by kernel_rfl) (show LoopsOK Try.prog Try.f28.ntmps [l28_2] LO28 from ⟨k28_2_ok, trivial⟩)) i28 o28).congr fun x => (e28 x).symm
noncomputable def b39 : Code := (.seq (.region 0 (regOf Try.f39 0) false) (.seq (.seq (.region 1 (regOf Try.f39 1) false) (.cond (.tmp 12) (.seq (.region 2 (regOf Try.f39 2) false) .ret) .skip)) (.seq (.region 3 (regOf Try.f39 3) false) .ret)))
theorem body39 : Try.f39.body = some b39 := by kernel_rfl
noncomputable def C39 : Tab := []
theorem C39_ok : TabOK Try.prog C39 := trivial
noncomputable def LO39 : Tab := []
noncomputable def i39 : Tm := { sl := [(0, .v (.l (.i .u64))), (1, .v (.i .i64))], bx := [], bf := [] }
noncomputable def o39 : OT := (.ret { sl := [(0, .v (.i .u64))], bx := [], bf := [] })
noncomputable def F39 (a0 : (List Int)) (a1 : Int) : Option ((Int × Unit) × Unit × Unit) :=
 (bif (decide ((a1 : Int) < 0)) then (some ((0, ()), (), ())) else (bif (decide ((a1 : Int) ≥ (((a0).length : Nat) : Int))) then (some ((0, ()), (), ())) else (bif (decide (0 ≤ (a1 : Int) ∧ (a1 : Int) < (((a0).length : Nat) : Int))) then (some ((((a0).getD (a1 : Int).toNat (0 : Int)), ()), (), ())) else none)))
noncomputable def c39 : Con := ⟨i39, o39, fun x => F39 x.1.1 x.1.2.1⟩
theorem e39 (x : i39.E) : vfn Try.prog C39 LO39 Try.f39 b39 i39 o39 x = c39.F x := by kernel_rfl
theorem c39_ok : Con.OK Try.prog 39 c39 := (fn_ok C39_ok (fun _ => rfl) Try.func39 body39 (noL (by kernel_rfl)) i39 o39).congr fun x => (e39 x).symm
noncomputable def l15_2 : Code := (.seq (.seq (.region 2 (regOf Try.f15 2) false) (.cond (.tmp 15) .skip (.exit 0))) (.seq (.block 1 (.seq (.region 4 (regOf Try.f15 4) false) (.cond (.tmp 24) (.seq (.region 5 (regOf Try.f15 5) false) .ret) .skip))) (.region 3 (regOf Try.f15 3) false)))
noncomputable def b15 : Code := (.seq (.region 0 (regOf Try.f15 0) false) (.seq (.seq (.region 1 (regOf Try.f15 1) false) (.block 0 (.loop l15_2))) (.seq (.region 6 (regOf Try.f15 6) false) .ret)))
theorem body15 : Try.f15.body = some b15 := by kernel_rfl
noncomputable def C15_2 : Tab := [(39, c39)]
theorem C15_2_ok : TabOK Try.prog C15_2 := ⟨c39_ok, trivial⟩
noncomputable def LO15_2 : Tab := []
noncomputable def i15_2 : Tm := { sl := [(0, .v (.l (.i .u64))), (1, .v (.l (.i .u64))), (5, .v (.i .i64))], bx := [], bf := [] }
noncomputable def o15_2 : OT := (.two (.ret { sl := [(4, .v .b)], bx := [], bf := [] }) (.exit 0 { sl := [], bx := [], bf := [] }))
noncomputable def T15_2 (a0 : (List Int)) (a1 : (List Int)) (a5 : Int) : Option ((((List Int) × ((List Int) × (Int × Unit))) × Unit × Unit) ⊕ (((Bool × Unit) × Unit × Unit) ⊕ (Unit × Unit × Unit))) :=
 (bif (decide ((a5 : Int) < (((a0).length : Nat) : Int))) then ((F39 a0 a5).bind fun y0 => ((F39 a1 a5).bind fun y1 => (bif ((y0.1.1 : Int) != y1.1.1) then (some (.inr (.inl ((false, ()), (), ())))) else (some (.inl ((a0, a1, (IntKind.wrap .i64 (a5 + 1)), ()), (), ())))))) else (bif (decide ((a5 : Int) < (((a1).length : Nat) : Int))) then ((F39 a0 a5).bind fun y2 => ((F39 a1 a5).bind fun y3 => (bif ((y2.1.1 : Int) != y3.1.1) then (some (.inr (.inl ((false, ()), (), ())))) else (some (.inl ((a0, a1, (IntKind.wrap .i64 (a5 + 1)), ()), (), ())))))) else (some (.inr (.inr ((), (), ()))))))
noncomputable def L15_2 (a0 : (List Int)) (a1 : (List Int)) (a5 : Int) : Option (((Bool × Unit) × Unit × Unit) ⊕ (Unit × Unit × Unit)) := iter (fun x : (((List Int) × ((List Int) × (Int × Unit))) × Unit × Unit) => T15_2 x.1.1 x.1.2.1 x.1.2.2.1) 300 ((a0, a1, a5, ()), (), ())
noncomputable def k15_2 : Con := ⟨i15_2, o15_2, fun x => L15_2 x.1.1 x.1.2.1 x.1.2.2.1⟩
theorem e15_2 (x : i15_2.E) : vround Try.prog C15_2 LO15_2 Try.f15.ntmps l15_2 i15_2 o15_2 x = T15_2 x.1.1 x.1.2.1 x.1.2.2.1 := by kernel_rfl
theorem k15_2_ok : Con.LOK Try.prog Try.f15.ntmps l15_2 k15_2 := Con.LOK.fuel (loop_ok C15_2_ok (noL (by kernel_rfl)) i15_2 o15_2) 300 (funext e15_2)
noncomputable def C15 : Tab := [(39, c39)]
theorem C15_ok : TabOK Try.prog C15 := ⟨c39_ok, trivial⟩
noncomputable def LO15 : Tab := [(2, k15_2)]
noncomputable def i15 : Tm := { sl := [(0, .v (.l (.i .u64))), (1, .v (.l (.i .u64)))], bx := [], bf := [] }
noncomputable def o15 : OT := (.ret { sl := [(0, .v .b)], bx := [], bf := [] })
noncomputable def F15 (a0 : (List Int)) (a1 : (List Int)) : Option ((Bool × Unit) × Unit × Unit) :=
 ((L15_2 a0 a1 0).bind fun y0 => (Sum.elim (fun y1 => (some ((y1.1.1, ()), (), ()))) (fun y1 => (some ((true, ()), (), ()))) y0))
noncomputable def c15 : Con := ⟨i15, o15, fun x => F15 x.1.1 x.1.2.1⟩
theorem e15 (x : i15.E) : vfn Try.prog C15 LO15 Try.f15 b15 i15 o15 x = c15.F x := by kernel_rfl
theorem c15_ok : Con.OK Try.prog 15 c15 := (fn_ok C15_ok (fun _ => rfl) Try.func15 body15 (loops_of (l := [l15_2]) (by kernel_rfl) (show LoopsOK Try.prog Try.f15.ntmps [l15_2] LO15 from ⟨k15_2_ok, trivial⟩)) i15 o15).congr fun x => (e15 x).symm
noncomputable def b85 : Code := (.seq (.region 0 (regOf Try.f85 0) false) (.seq (.region 1 (regOf Try.f85 1) false) .ret))
theorem body85 : Try.f85.body = some b85 := by kernel_rfl
noncomputable def C85 : Tab := []
theorem C85_ok : TabOK Try.prog C85 := trivial
noncomputable def LO85 : Tab := []
noncomputable def i85 : Tm := { sl := [(0, .v (.f .f64))], bx := [], bf := [] }
noncomputable def o85 : OT := (.ret { sl := [(0, .v .b)], bx := [], bf := [] })
noncomputable def F85 (a0 : Nat) : Option ((Bool × Unit) × Unit × Unit) :=
 (some ((((FloatKind.f64).format.order (a0) (a0) != some Ordering.eq), ()), (), ()))
noncomputable def c85 : Con := ⟨i85, o85, fun x => F85 x.1.1⟩
theorem e85 (x : i85.E) : vfn Try.prog C85 LO85 Try.f85 b85 i85 o85 x = c85.F x := by kernel_rfl
theorem c85_ok : Con.OK Try.prog 85 c85 := (fn_ok C85_ok (fun _ => rfl) Try.func85 body85 (noL (by kernel_rfl)) i85 o85).congr fun x => (e85 x).symm
noncomputable def b76 : Code := (.seq (.region 0 (regOf Try.f76 0) false) (.seq (.seq (.region 1 (regOf Try.f76 1) false) (.cond (.tmp 4) (.seq (.region 2 (regOf Try.f76 2) false) .ret) .skip)) (.seq (.region 3 (regOf Try.f76 3) false) .ret)))
theorem body76 : Try.f76.body = some b76 := by kernel_rfl
noncomputable def C76 : Tab := [(85, c85)]
theorem C76_ok : TabOK Try.prog C76 := ⟨c85_ok, trivial⟩
noncomputable def LO76 : Tab := []
noncomputable def i76 : Tm := { sl := [(0, .v (.f .f64))], bx := [], bf := [] }
noncomputable def o76 : OT := (.ret { sl := [(0, .v (.i .u64))], bx := [], bf := [] })
noncomputable def F76 (a0 : Nat) : Option ((Int × Unit) × Unit × Unit) :=
 ((F85 a0).bind fun y0 => (bif y0.1.1 then (some ((9221120237041090561, ()), (), ())) else (some (((((a0) : Nat) : Int), ()), (), ()))))
noncomputable def c76 : Con := ⟨i76, o76, fun x => F76 x.1.1⟩
theorem e76 (x : i76.E) : vfn Try.prog C76 LO76 Try.f76 b76 i76 o76 x = c76.F x := by kernel_rfl
theorem c76_ok : Con.OK Try.prog 76 c76 := (fn_ok C76_ok (fun _ => rfl) Try.func76 body76 (noL (by kernel_rfl)) i76 o76).congr fun x => (e76 x).symm
noncomputable def b78 : Code := (.seq (.region 0 (regOf Try.f78 0) false) (.seq (.region 1 (regOf Try.f78 1) false) .ret))
theorem body78 : Try.f78.body = some b78 := by kernel_rfl
noncomputable def C78 : Tab := [(76, c76)]
theorem C78_ok : TabOK Try.prog C78 := ⟨c76_ok, trivial⟩
noncomputable def LO78 : Tab := []
noncomputable def i78 : Tm := { sl := [(0, .v (.f .f64))], bx := [], bf := [] }
noncomputable def o78 : OT := (.ret { sl := [(0, .v (.f .f64))], bx := [], bf := [] })
noncomputable def F78 (a0 : Nat) : Option ((Nat × Unit) × Unit × Unit) :=
 ((F76 a0).bind fun y0 => (some (((y0.1.1 : Int).toNat, ()), (), ())))
noncomputable def c78 : Con := ⟨i78, o78, fun x => F78 x.1.1⟩
theorem e78 (x : i78.E) : vfn Try.prog C78 LO78 Try.f78 b78 i78 o78 x = c78.F x := by kernel_rfl
theorem c78_ok : Con.OK Try.prog 78 c78 := (fn_ok C78_ok (fun _ => rfl) Try.func78 body78 (noL (by kernel_rfl)) i78 o78).congr fun x => (e78 x).symm
noncomputable def b57 : Code := (.seq (.region 0 (regOf Try.f57 0) false) (.seq (.region 1 (regOf Try.f57 1) false) (.seq (.seq (.region 2 (regOf Try.f57 2) false) (.cond (.tmp 20) (.region 3 (regOf Try.f57 3) false) .skip)) (.seq (.seq (.region 4 (regOf Try.f57 4) false) (.block 0 (.seq (.region 5 (regOf Try.f57 5) false) (.cond (.tmp 26) (.region 6 (regOf Try.f57 6) false) (.seq (.seq (.region 7 (regOf Try.f57 7) false) (.cond (.tmp 32) .skip (.region 8 (regOf Try.f57 8) false))) (.cond (.tmp 32) (.region 9 (regOf Try.f57 9) false) (.seq (.region 10 (regOf Try.f57 10) false) (.cond (.tmp 39) (.region 11 (regOf Try.f57 11) false) .skip)))))))) (.seq (.region 12 (regOf Try.f57 12) false) .ret)))))
theorem body57 : Try.f57.body = some b57 := by kernel_rfl
noncomputable def C57 : Tab := [(78, c78)]
theorem C57_ok : TabOK Try.prog C57 := ⟨c78_ok, trivial⟩
noncomputable def LO57 : Tab := []
noncomputable def i57 : Tm := { sl := [(0, .v tDEv)], bx := [], bf := [] }
noncomputable def o57 : OT := (.ret { sl := [(0, .v tDEv)], bx := [], bf := [] })
noncomputable def F57 (a0 : DEv) : Option ((DEv × Unit) × Unit × Unit) :=
 (bif (decide ((a0.2.2.2.1 : Int) ≥ 1)) then (bif (decide ((a0.2.2.2.1 : Int) ≤ 4)) then (bif ((a0.2.2.2.1 : Int) == 1) then (bif (decide ((a0.2.2.2.2.2.1).length < lim)) then (some (((a0.1, (a0.2.1, (a0.2.2.1, (a0.2.2.2.1, (a0.2.2.2.2.1, (a0.2.2.2.2.2.1, (0, (0, ())))))))), ()), (), ())) else none) else (bif ((a0.2.2.2.1 : Int) == 2) then ((F78 a0.2.2.2.2.2.2.1).bind fun y0 => (some (((a0.1, (a0.2.1, (a0.2.2.1, (a0.2.2.2.1, (a0.2.2.2.2.1, (([] : List Int), (y0.1.1, (0, ())))))))), ()), (), ()))) else (bif ((a0.2.2.2.1 : Int) == 3) then ((F78 a0.2.2.2.2.2.2.1).bind fun y1 => (some (((a0.1, (a0.2.1, (a0.2.2.1, (a0.2.2.2.1, (a0.2.2.2.2.1, (([] : List Int), (y1.1.1, (0, ())))))))), ()), (), ()))) else (bif ((a0.2.2.2.1 : Int) == 5) then (some (((a0.1, (a0.2.1, (a0.2.2.1, (a0.2.2.2.1, (a0.2.2.2.2.1, (([] : List Int), (0, (a0.2.2.2.2.2.2.2.1, ())))))))), ()), (), ())) else (some (((a0.1, (a0.2.1, (a0.2.2.1, (a0.2.2.2.1, (a0.2.2.2.2.1, (([] : List Int), (0, (0, ())))))))), ()), (), ())))))) else (bif ((a0.2.2.2.1 : Int) == 1) then (bif (decide ((a0.2.2.2.2.2.1).length < lim)) then (some (((a0.1, (a0.2.1, (a0.2.2.1, (a0.2.2.2.1, (ByteArray.empty, (a0.2.2.2.2.2.1, (0, (0, ())))))))), ()), (), ())) else none) else (bif ((a0.2.2.2.1 : Int) == 2) then ((F78 a0.2.2.2.2.2.2.1).bind fun y2 => (some (((a0.1, (a0.2.1, (a0.2.2.1, (a0.2.2.2.1, (ByteArray.empty, (([] : List Int), (y2.1.1, (0, ())))))))), ()), (), ()))) else (bif ((a0.2.2.2.1 : Int) == 3) then ((F78 a0.2.2.2.2.2.2.1).bind fun y3 => (some (((a0.1, (a0.2.1, (a0.2.2.1, (a0.2.2.2.1, (ByteArray.empty, (([] : List Int), (y3.1.1, (0, ())))))))), ()), (), ()))) else (bif ((a0.2.2.2.1 : Int) == 5) then (some (((a0.1, (a0.2.1, (a0.2.2.1, (a0.2.2.2.1, (ByteArray.empty, (([] : List Int), (0, (a0.2.2.2.2.2.2.2.1, ())))))))), ()), (), ())) else (some (((a0.1, (a0.2.1, (a0.2.2.1, (a0.2.2.2.1, (ByteArray.empty, (([] : List Int), (0, (0, ())))))))), ()), (), ()))))))) else (bif ((a0.2.2.2.1 : Int) == 1) then (bif (decide ((a0.2.2.2.2.2.1).length < lim)) then (some (((a0.1, (a0.2.1, (a0.2.2.1, (a0.2.2.2.1, (ByteArray.empty, (a0.2.2.2.2.2.1, (0, (0, ())))))))), ()), (), ())) else none) else (bif ((a0.2.2.2.1 : Int) == 2) then ((F78 a0.2.2.2.2.2.2.1).bind fun y4 => (some (((a0.1, (a0.2.1, (a0.2.2.1, (a0.2.2.2.1, (ByteArray.empty, (([] : List Int), (y4.1.1, (0, ())))))))), ()), (), ()))) else (bif ((a0.2.2.2.1 : Int) == 3) then ((F78 a0.2.2.2.2.2.2.1).bind fun y5 => (some (((a0.1, (a0.2.1, (a0.2.2.1, (a0.2.2.2.1, (ByteArray.empty, (([] : List Int), (y5.1.1, (0, ())))))))), ()), (), ()))) else (bif ((a0.2.2.2.1 : Int) == 5) then (some (((a0.1, (a0.2.1, (a0.2.2.1, (a0.2.2.2.1, (ByteArray.empty, (([] : List Int), (0, (a0.2.2.2.2.2.2.2.1, ())))))))), ()), (), ())) else (some (((a0.1, (a0.2.1, (a0.2.2.1, (a0.2.2.2.1, (ByteArray.empty, (([] : List Int), (0, (0, ())))))))), ()), (), ())))))))
noncomputable def c57 : Con := ⟨i57, o57, fun x => F57 x.1.1⟩
theorem e57 (x : i57.E) : vfn Try.prog C57 LO57 Try.f57 b57 i57 o57 x = c57.F x := by kernel_rfl
theorem c57_ok : Con.OK Try.prog 57 c57 := (fn_ok C57_ok (fun _ => rfl) Try.func57 body57 (noL (by kernel_rfl)) i57 o57).congr fun x => (e57 x).symm
noncomputable def b77 : Code := (.seq (.region 0 (regOf Try.f77 0) false) (.seq (.seq (.region 1 (regOf Try.f77 1) false) (.cond (.tmp 4) (.seq (.region 2 (regOf Try.f77 2) false) .ret) .skip)) (.seq (.region 3 (regOf Try.f77 3) false) .ret)))
theorem body77 : Try.f77.body = some b77 := by kernel_rfl
noncomputable def C77 : Tab := []
theorem C77_ok : TabOK Try.prog C77 := trivial
noncomputable def LO77 : Tab := []
noncomputable def i77 : Tm := { sl := [(0, .v (.l (.i .u8)))], bx := [], bf := [] }
noncomputable def o77 : OT := (.ret { sl := [(0, .v (.l (.i .u8)))], bx := [], bf := [] })
noncomputable def F77 (a0 : (List Int)) : Option (((List Int) × Unit) × Unit × Unit) :=
 (nilBr (a0).length (some ((([] : List Int), ()), (), ())) (bif (decide ((([] : List Int)).length + (a0).length < lim)) then (some (((([] : List Int) ++ a0), ()), (), ())) else none))
noncomputable def c77 : Con := ⟨i77, o77, fun x => F77 x.1.1⟩
theorem e77 (x : i77.E) : vfn Try.prog C77 LO77 Try.f77 b77 i77 o77 x = c77.F x := by kernel_rfl
theorem c77_ok : Con.OK Try.prog 77 c77 := (fn_ok C77_ok (fun _ => rfl) Try.func77 body77 (noL (by kernel_rfl)) i77 o77).congr fun x => (e77 x).symm
noncomputable def l73_1 : Code := (.seq (.seq (.region 1 (regOf Try.f73 1) false) (.cond (.tmp 6) .skip (.exit 0))) (.seq (.block 1 (.region 3 (regOf Try.f73 3) false)) (.region 2 (regOf Try.f73 2) false)))
noncomputable def b73 : Code := (.seq (.region 0 (regOf Try.f73 0) false) (.seq (.block 0 (.loop l73_1)) (.seq (.region 4 (regOf Try.f73 4) false) .ret)))
theorem body73 : Try.f73.body = some b73 := by kernel_rfl
noncomputable def C73_1 : Tab := []
theorem C73_1_ok : TabOK Try.prog C73_1 := trivial
noncomputable def LO73_1 : Tab := []
noncomputable def i73_1 : Tm := { sl := [(0, .o 0), (1, .v (.i .u64))], bx := [], bf := [(.i .u8)] }
noncomputable def o73_1 : OT := (.exit 0 { sl := [(0, .o 0), (1, .v (.i .u64))], bx := [], bf := [(.i .u8)] })
noncomputable def T73_1 (a1 : Int) (q0 : (List Int)) : Option (((Unit × (Int × Unit)) × Unit × ((List Int) × Unit)) ⊕ ((Unit × (Int × Unit)) × Unit × ((List Int) × Unit))) :=
 (bif (decide ((a1 : Int) ≥ 128)) then (bif (decide ((q0).length + ([(iOr .u8 (IntKind.wrap .u8 a1) 128)]).length < lim)) then (some (.inl (((), (iShr .u64 a1 7), ()), (), ((q0 ++ [(iOr .u8 (IntKind.wrap .u8 a1) 128)]), ())))) else none) else (some (.inr (((), a1, ()), (), (q0, ())))))
noncomputable def L73_1 (a1 : Int) (q0 : (List Int)) : Option ((Unit × (Int × Unit)) × Unit × ((List Int) × Unit)) := iter (fun x : ((Unit × (Int × Unit)) × Unit × ((List Int) × Unit)) => T73_1 x.1.2.1 x.2.2.1) 300 (((), a1, ()), (), (q0, ()))
noncomputable def k73_1 : Con := ⟨i73_1, o73_1, fun x => L73_1 x.1.2.1 x.2.2.1⟩
theorem e73_1 (x : i73_1.E) : vround Try.prog C73_1 LO73_1 Try.f73.ntmps l73_1 i73_1 o73_1 x = T73_1 x.1.2.1 x.2.2.1 := by kernel_rfl
theorem k73_1_ok : Con.LOK Try.prog Try.f73.ntmps l73_1 k73_1 := Con.LOK.fuel (loop_ok C73_1_ok (noL (by kernel_rfl)) i73_1 o73_1) 300 (funext e73_1)
noncomputable def C73 : Tab := []
theorem C73_ok : TabOK Try.prog C73 := trivial
noncomputable def LO73 : Tab := [(1, k73_1)]
noncomputable def i73 : Tm := { sl := [(0, .o 0), (1, .v (.i .u64))], bx := [], bf := [(.i .u8)] }
noncomputable def o73 : OT := (.ret { sl := [(0, .o 0)], bx := [], bf := [(.i .u8)] })
noncomputable def F73 (a1 : Int) (q0 : (List Int)) : Option ((Unit × Unit) × Unit × ((List Int) × Unit)) :=
 ((L73_1 a1 q0).bind fun y0 => (bif (decide ((y0.2.2.1).length + ([(IntKind.wrap .u8 y0.1.2.1)]).length < lim)) then (some (((), ()), (), ((y0.2.2.1 ++ [(IntKind.wrap .u8 y0.1.2.1)]), ()))) else none))
noncomputable def c73 : Con := ⟨i73, o73, fun x => F73 x.1.2.1 x.2.2.1⟩
theorem e73 (x : i73.E) : vfn Try.prog C73 LO73 Try.f73 b73 i73 o73 x = c73.F x := by kernel_rfl
theorem c73_ok : Con.OK Try.prog 73 c73 := (fn_ok C73_ok (fun _ => rfl) Try.func73 body73 (loops_of (l := [l73_1]) (by kernel_rfl) (show LoopsOK Try.prog Try.f73.ntmps [l73_1] LO73 from ⟨k73_1_ok, trivial⟩)) i73 o73).congr fun x => (e73 x).symm
noncomputable def b74 : Code := (.seq (.region 0 (regOf Try.f74 0) false) (.seq (.region 1 (regOf Try.f74 1) false) .ret))
theorem body74 : Try.f74.body = some b74 := by kernel_rfl
noncomputable def C74 : Tab := [(73, c73)]
theorem C74_ok : TabOK Try.prog C74 := ⟨c73_ok, trivial⟩
noncomputable def LO74 : Tab := []
noncomputable def i74 : Tm := { sl := [(0, .o 0), (1, .v (.l (.i .u8)))], bx := [], bf := [(.i .u8)] }
noncomputable def o74 : OT := (.ret { sl := [(0, .o 0)], bx := [], bf := [(.i .u8)] })
noncomputable def F74 (a1 : (List Int)) (q0 : (List Int)) : Option ((Unit × Unit) × Unit × ((List Int) × Unit)) :=
 ((F73 (IntKind.wrap .u64 (((a1).length : Nat) : Int)) q0).bind fun y0 => (bif (decide ((y0.2.2.1).length + (a1).length < lim)) then (some (((), ()), (), ((y0.2.2.1 ++ a1), ()))) else none))
noncomputable def c74 : Con := ⟨i74, o74, fun x => F74 x.1.2.1 x.2.2.1⟩
theorem e74 (x : i74.E) : vfn Try.prog C74 LO74 Try.f74 b74 i74 o74 x = c74.F x := by kernel_rfl
theorem c74_ok : Con.OK Try.prog 74 c74 := (fn_ok C74_ok (fun _ => rfl) Try.func74 body74 (noL (by kernel_rfl)) i74 o74).congr fun x => (e74 x).symm
noncomputable def l75_2 : Code := (.seq (.seq (.region 2 (regOf Try.f75 2) false) (.cond (.tmp 7) .skip (.exit 0))) (.seq (.block 1 (.region 4 (regOf Try.f75 4) false)) (.region 3 (regOf Try.f75 3) false)))
noncomputable def b75 : Code := (.seq (.region 0 (regOf Try.f75 0) false) (.seq (.seq (.region 1 (regOf Try.f75 1) false) (.block 0 (.loop l75_2))) (.seq (.region 5 (regOf Try.f75 5) false) .ret)))
theorem body75 : Try.f75.body = some b75 := by kernel_rfl
noncomputable def C75_2 : Tab := []
theorem C75_2_ok : TabOK Try.prog C75_2 := trivial
noncomputable def LO75_2 : Tab := []
noncomputable def i75_2 : Tm := { sl := [(0, .o 0), (1, .v (.i .u64)), (5, .v (.i .i64))], bx := [], bf := [(.i .u8)] }
noncomputable def o75_2 : OT := (.exit 0 { sl := [(0, .o 0)], bx := [], bf := [(.i .u8)] })
noncomputable def T75_2 (a1 : Int) (a5 : Int) (q0 : (List Int)) : Option (((Unit × (Int × (Int × Unit))) × Unit × ((List Int) × Unit)) ⊕ ((Unit × Unit) × Unit × ((List Int) × Unit))) :=
 (bif (decide ((a5 : Int) ≥ 0)) then (bif (decide ((0 : Int) ≤ (IntKind.wrap .i64 (8 * a5)))) then (bif (decide ((q0).length + ([(IntKind.wrap .u8 (iShr .u64 a1 (IntKind.wrap .i64 (8 * a5))))]).length < lim)) then (some (.inl (((), a1, (IntKind.wrap .i64 (a5 - 1)), ()), (), ((q0 ++ [(IntKind.wrap .u8 (iShr .u64 a1 (IntKind.wrap .i64 (8 * a5))))]), ())))) else none) else none) else (some (.inr (((), ()), (), (q0, ())))))
noncomputable def L75_2 (a1 : Int) (a5 : Int) (q0 : (List Int)) : Option ((Unit × Unit) × Unit × ((List Int) × Unit)) := iter (fun x : ((Unit × (Int × (Int × Unit))) × Unit × ((List Int) × Unit)) => T75_2 x.1.2.1 x.1.2.2.1 x.2.2.1) 300 (((), a1, a5, ()), (), (q0, ()))
noncomputable def k75_2 : Con := ⟨i75_2, o75_2, fun x => L75_2 x.1.2.1 x.1.2.2.1 x.2.2.1⟩
theorem e75_2 (x : i75_2.E) : vround Try.prog C75_2 LO75_2 Try.f75.ntmps l75_2 i75_2 o75_2 x = T75_2 x.1.2.1 x.1.2.2.1 x.2.2.1 := by kernel_rfl
theorem k75_2_ok : Con.LOK Try.prog Try.f75.ntmps l75_2 k75_2 := Con.LOK.fuel (loop_ok C75_2_ok (noL (by kernel_rfl)) i75_2 o75_2) 300 (funext e75_2)
noncomputable def C75 : Tab := []
theorem C75_ok : TabOK Try.prog C75 := trivial
noncomputable def LO75 : Tab := [(2, k75_2)]
noncomputable def i75 : Tm := { sl := [(0, .o 0), (1, .v (.i .u64))], bx := [], bf := [(.i .u8)] }
noncomputable def o75 : OT := (.ret { sl := [(0, .o 0)], bx := [], bf := [(.i .u8)] })
noncomputable def F75 (a1 : Int) (q0 : (List Int)) : Option ((Unit × Unit) × Unit × ((List Int) × Unit)) :=
 ((L75_2 a1 7 q0).bind fun y0 => (some (((), ()), (), (y0.2.2.1, ()))))
noncomputable def c75 : Con := ⟨i75, o75, fun x => F75 x.1.2.1 x.2.2.1⟩
theorem e75 (x : i75.E) : vfn Try.prog C75 LO75 Try.f75 b75 i75 o75 x = c75.F x := by kernel_rfl
theorem c75_ok : Con.OK Try.prog 75 c75 := (fn_ok C75_ok (fun _ => rfl) Try.func75 body75 (loops_of (l := [l75_2]) (by kernel_rfl) (show LoopsOK Try.prog Try.f75.ntmps [l75_2] LO75 from ⟨k75_2_ok, trivial⟩)) i75 o75).congr fun x => (e75 x).symm
noncomputable def b54 : Code := (.seq (.region 0 (regOf Try.f54 0) false) (.seq (.region 1 (regOf Try.f54 1) false) (.seq (.region 2 (regOf Try.f54 2) true) (.seq (.seq (.region 3 (regOf Try.f54 3) false) (.cond (.tmp 26) (.region 4 (regOf Try.f54 4) false) .skip)) (.seq (.seq (.region 5 (regOf Try.f54 5) false) (.block 0 (.seq (.region 6 (regOf Try.f54 6) false) (.cond (.tmp 34) (.region 7 (regOf Try.f54 7) false) (.seq (.seq (.region 8 (regOf Try.f54 8) false) (.cond (.tmp 40) .skip (.region 9 (regOf Try.f54 9) false))) (.cond (.tmp 40) (.region 10 (regOf Try.f54 10) false) (.seq (.region 11 (regOf Try.f54 11) false) (.cond (.tmp 48) (.region 12 (regOf Try.f54 12) false) .skip)))))))) (.seq (.region 13 (regOf Try.f54 13) false) .ret))))))
theorem body54 : Try.f54.body = some b54 := by kernel_rfl
noncomputable def C54 : Tab := [(73, c73), (74, c74), (75, c75), (76, c76)]
theorem C54_ok : TabOK Try.prog C54 := ⟨c73_ok, c74_ok, c75_ok, c76_ok, trivial⟩
noncomputable def LO54 : Tab := []
noncomputable def i54 : Tm := { sl := [(0, .v tDEv)], bx := [], bf := [] }
noncomputable def o54 : OT := (.ret { sl := [(0, .o 0)], bx := [], bf := [(.i .u8)] })
noncomputable def F54 (a0 : DEv) : Option ((Unit × Unit) × Unit × ((List Int) × Unit)) :=
 ((F73 (IntKind.wrap .u64 a0.1) ([] : List Int)).bind fun y0 => ((F73 a0.2.1 y0.2.2.1).bind fun y1 => ((F73 a0.2.2.1 y1.2.2.1).bind fun y2 => (bif (decide ((y2.2.2.1).length + ([a0.2.2.2.1]).length < lim)) then (bif (decide ((a0.2.2.2.1 : Int) ≥ 1)) then (bif (decide ((a0.2.2.2.1 : Int) ≤ 4)) then ((F74 (bytesL a0.2.2.2.2.1) (y2.2.2.1 ++ [a0.2.2.2.1])).bind fun y3 => (bif ((a0.2.2.2.1 : Int) == 1) then ((F74 a0.2.2.2.2.2.1 y3.2.2.1).bind fun y4 => (some (((), ()), (), (y4.2.2.1, ())))) else (bif ((a0.2.2.2.1 : Int) == 2) then ((F76 a0.2.2.2.2.2.2.1).bind fun y5 => ((F75 y5.1.1 y3.2.2.1).bind fun y6 => (some (((), ()), (), (y6.2.2.1, ()))))) else (bif ((a0.2.2.2.1 : Int) == 3) then ((F76 a0.2.2.2.2.2.2.1).bind fun y7 => ((F75 y7.1.1 y3.2.2.1).bind fun y8 => (some (((), ()), (), (y8.2.2.1, ()))))) else (bif ((a0.2.2.2.1 : Int) == 5) then ((F73 (IntKind.wrap .u64 a0.2.2.2.2.2.2.2.1) y3.2.2.1).bind fun y9 => (some (((), ()), (), (y9.2.2.1, ())))) else (some (((), ()), (), (y3.2.2.1, ())))))))) else (bif ((a0.2.2.2.1 : Int) == 1) then ((F74 a0.2.2.2.2.2.1 (y2.2.2.1 ++ [a0.2.2.2.1])).bind fun y10 => (some (((), ()), (), (y10.2.2.1, ())))) else (bif ((a0.2.2.2.1 : Int) == 2) then ((F76 a0.2.2.2.2.2.2.1).bind fun y11 => ((F75 y11.1.1 (y2.2.2.1 ++ [a0.2.2.2.1])).bind fun y12 => (some (((), ()), (), (y12.2.2.1, ()))))) else (bif ((a0.2.2.2.1 : Int) == 3) then ((F76 a0.2.2.2.2.2.2.1).bind fun y13 => ((F75 y13.1.1 (y2.2.2.1 ++ [a0.2.2.2.1])).bind fun y14 => (some (((), ()), (), (y14.2.2.1, ()))))) else (bif ((a0.2.2.2.1 : Int) == 5) then ((F73 (IntKind.wrap .u64 a0.2.2.2.2.2.2.2.1) (y2.2.2.1 ++ [a0.2.2.2.1])).bind fun y15 => (some (((), ()), (), (y15.2.2.1, ())))) else (some (((), ()), (), ((y2.2.2.1 ++ [a0.2.2.2.1]), ())))))))) else (bif ((a0.2.2.2.1 : Int) == 1) then ((F74 a0.2.2.2.2.2.1 (y2.2.2.1 ++ [a0.2.2.2.1])).bind fun y16 => (some (((), ()), (), (y16.2.2.1, ())))) else (bif ((a0.2.2.2.1 : Int) == 2) then ((F76 a0.2.2.2.2.2.2.1).bind fun y17 => ((F75 y17.1.1 (y2.2.2.1 ++ [a0.2.2.2.1])).bind fun y18 => (some (((), ()), (), (y18.2.2.1, ()))))) else (bif ((a0.2.2.2.1 : Int) == 3) then ((F76 a0.2.2.2.2.2.2.1).bind fun y19 => ((F75 y19.1.1 (y2.2.2.1 ++ [a0.2.2.2.1])).bind fun y20 => (some (((), ()), (), (y20.2.2.1, ()))))) else (bif ((a0.2.2.2.1 : Int) == 5) then ((F73 (IntKind.wrap .u64 a0.2.2.2.2.2.2.2.1) (y2.2.2.1 ++ [a0.2.2.2.1])).bind fun y21 => (some (((), ()), (), (y21.2.2.1, ())))) else (some (((), ()), (), ((y2.2.2.1 ++ [a0.2.2.2.1]), ())))))))) else none))))
noncomputable def c54 : Con := ⟨i54, o54, fun x => F54 x.1.1⟩
theorem e54 (x : i54.E) : vfn Try.prog C54 LO54 Try.f54 b54 i54 o54 x = c54.F x := by kernel_rfl
theorem c54_ok : Con.OK Try.prog 54 c54 := (fn_ok C54_ok (fun _ => rfl) Try.func54 body54 (noL (by kernel_rfl)) i54 o54).congr fun x => (e54 x).symm
noncomputable def b37 : Code := (.seq (.region 0 (regOf Try.f37 0) false) (.seq (.region 1 (regOf Try.f37 1) true) .ret))
theorem body37 : Try.f37.body = some b37 := by kernel_rfl
noncomputable def C37 : Tab := [(54, c54)]
theorem C37_ok : TabOK Try.prog C37 := ⟨c54_ok, trivial⟩
noncomputable def LO37 : Tab := []
noncomputable def i37 : Tm := { sl := [(0, .v tDEv), (1, .v tDEv)], bx := [], bf := [] }
noncomputable def o37 : OT := (.ret { sl := [(0, .v .b)], bx := [], bf := [] })
noncomputable def F37 (a0 : DEv) (a1 : DEv) : Option ((Bool × Unit) × Unit × Unit) :=
 ((F54 a0).bind fun y0 => ((F54 a1).bind fun y1 => (some (((((strL y0.2.2.1) : ByteArray).toList == ((strL y1.2.2.1) : ByteArray).toList), ()), (), ()))))
noncomputable def c37 : Con := ⟨i37, o37, fun x => F37 x.1.1 x.1.2.1⟩
theorem e37 (x : i37.E) : vfn Try.prog C37 LO37 Try.f37 b37 i37 o37 x = c37.F x := by kernel_rfl
theorem c37_ok : Con.OK Try.prog 37 c37 := (fn_ok C37_ok (fun _ => rfl) Try.func37 body37 (noL (by kernel_rfl)) i37 o37).congr fun x => (e37 x).symm
noncomputable def b44 : Code := (.seq (.region 0 (regOf Try.f44 0) false) (.seq (.seq (.region 1 (regOf Try.f44 1) false) (.cond (.tmp 4) (.seq (.region 2 (regOf Try.f44 2) false) .ret) .skip)) (.seq (.region 3 (regOf Try.f44 3) false) .ret)))
theorem body44 : Try.f44.body = some b44 := by kernel_rfl
noncomputable def C44 : Tab := []
theorem C44_ok : TabOK Try.prog C44 := trivial
noncomputable def LO44 : Tab := []
noncomputable def i44 : Tm := { sl := [(0, .v (.l (.i .u64)))], bx := [], bf := [] }
noncomputable def o44 : OT := (.ret { sl := [(0, .v (.l (.i .u64)))], bx := [], bf := [] })
noncomputable def F44 (a0 : (List Int)) : Option (((List Int) × Unit) × Unit × Unit) :=
 (nilBr (a0).length (some ((([] : List Int), ()), (), ())) (bif (decide ((([] : List Int)).length + (a0).length < lim)) then (some (((([] : List Int) ++ a0), ()), (), ())) else none))
noncomputable def c44 : Con := ⟨i44, o44, fun x => F44 x.1.1⟩
theorem e44 (x : i44.E) : vfn Try.prog C44 LO44 Try.f44 b44 i44 o44 x = c44.F x := by kernel_rfl
theorem c44_ok : Con.OK Try.prog 44 c44 := (fn_ok C44_ok (fun _ => rfl) Try.func44 body44 (noL (by kernel_rfl)) i44 o44).congr fun x => (e44 x).symm
def F44k (a0 : (List Int)) : Option (((List Int) × Unit) × Unit × Unit) := bif (decide (a0.length < lim)) then some ((a0, ()), (), ()) else none
theorem F44k_eq (a0 : (List Int)) : F44k a0 = F44 a0 := by unfold F44 nilBr both; cases a0 <;> simp [F44k, lim] <;> rfl
noncomputable def c44k : Con := ⟨i44, o44, fun x => F44k x.1.1⟩
theorem c44k_ok : Con.OK Try.prog 44 c44k := c44_ok.congr fun x => F44k_eq x.1.1
noncomputable def l38_2 : Code := (.seq (.seq (.region 2 (regOf Try.f38 2) false) (.cond (.tmp 15) .skip (.exit 0))) (.block 1 (.region 3 (regOf Try.f38 3) false)))
noncomputable def b38 : Code := (.seq (.region 0 (regOf Try.f38 0) false) (.seq (.region 1 (regOf Try.f38 1) false) (.seq (.block 0 (.loop l38_2)) (.seq (.region 4 (regOf Try.f38 4) false) .ret))))
theorem body38 : Try.f38.body = some b38 := by kernel_rfl
noncomputable def C38_2 : Tab := []
theorem C38_2_ok : TabOK Try.prog C38_2 := trivial
noncomputable def LO38_2 : Tab := []
noncomputable def i38_2 : Tm := { sl := [(0, .v (.l (.i .u64))), (3, .v (.i .i64))], bx := [], bf := [] }
noncomputable def o38_2 : OT := (.exit 0 { sl := [(3, .v (.i .i64))], bx := [], bf := [] })
noncomputable def T38_2 (a0 : (List Int)) (a3 : Int) : Option ((((List Int) × (Int × Unit)) × Unit × Unit) ⊕ ((Int × Unit) × Unit × Unit)) :=
 (bif (decide ((a3 : Int) > 0)) then (bif (decide (0 ≤ ((IntKind.wrap .i64 (a3 - 1)) : Int) ∧ ((IntKind.wrap .i64 (a3 - 1)) : Int) < (((a0).length : Nat) : Int))) then (bif ((((a0).getD ((IntKind.wrap .i64 (a3 - 1)) : Int).toNat (0 : Int)) : Int) == 0) then (some (.inl ((a0, (IntKind.wrap .i64 (a3 - 1)), ()), (), ()))) else (some (.inr ((a3, ()), (), ())))) else none) else (some (.inr ((a3, ()), (), ()))))
noncomputable def L38_2 (a0 : (List Int)) (a3 : Int) : Option ((Int × Unit) × Unit × Unit) := iter (fun x : (((List Int) × (Int × Unit)) × Unit × Unit) => T38_2 x.1.1 x.1.2.1) 300 ((a0, a3, ()), (), ())
noncomputable def k38_2 : Con := ⟨i38_2, o38_2, fun x => L38_2 x.1.1 x.1.2.1⟩
theorem e38_2 (x : i38_2.E) : vround Try.prog C38_2 LO38_2 Try.f38.ntmps l38_2 i38_2 o38_2 x = T38_2 x.1.1 x.1.2.1 := by kernel_rfl
theorem k38_2_ok : Con.LOK Try.prog Try.f38.ntmps l38_2 k38_2 := Con.LOK.fuel (loop_ok C38_2_ok (noL (by kernel_rfl)) i38_2 o38_2) 300 (funext e38_2)
noncomputable def C38 : Tab := [(44, c44k)]
theorem C38_ok : TabOK Try.prog C38 := ⟨c44k_ok, trivial⟩
noncomputable def LO38 : Tab := [(2, k38_2)]
noncomputable def i38 : Tm := { sl := [(0, .v (.l (.i .u64)))], bx := [], bf := [] }
noncomputable def o38 : OT := (.ret { sl := [(0, .v (.l (.i .u64)))], bx := [], bf := [] })
noncomputable def F38 (a0 : (List Int)) : Option (((List Int) × Unit) × Unit × Unit) :=
 ((L38_2 a0 (((a0).length : Nat) : Int)).bind fun y0 => (bif (decide (0 ≤ (y0.1.1 : Int) ∧ (y0.1.1 : Int) ≤ (((a0).length : Nat) : Int))) then ((F44k ((a0).take (y0.1.1 : Int).toNat)).bind fun y1 => (some ((y1.1.1, ()), (), ()))) else none))
noncomputable def c38 : Con := ⟨i38, o38, fun x => F38 x.1.1⟩
theorem e38 (x : i38.E) : vfn Try.prog C38 LO38 Try.f38 b38 i38 o38 x = c38.F x := by kernel_rfl
theorem c38_ok : Con.OK Try.prog 38 c38 := (fn_ok C38_ok (fun _ => rfl) Try.func38 body38 (loops_of (l := [l38_2]) (by kernel_rfl) (show LoopsOK Try.prog Try.f38.ntmps [l38_2] LO38 from ⟨k38_2_ok, trivial⟩)) i38 o38).congr fun x => (e38 x).symm
noncomputable def b44h : Code := (.seq (.region 0 (regOf Try.f44 0) false) (.seq (.seq (.region 1 (regOf Try.f44 1) false) (.cond (.tmp 4) (.seq (.region 2 (regOf Try.f44 2) false) .ret) .skip)) (.seq (.region 3 (regOf Try.f44 3) false) .ret)))
theorem body44h : Try.f44.body = some b44h := by kernel_rfl
noncomputable def C44h : Tab := [(900005, cHot), (900007, cHot)]
theorem C44h_ok : TabOK Try.prog C44h := ⟨cHot_ok, cHot_ok, trivial⟩
noncomputable def LO44h : Tab := []
noncomputable def i44h : Tm := { sl := [(0, .v (.l (.i .u64)))], bx := [], bf := [] }
noncomputable def o44h : OT := (.ret { sl := [(0, .m (.i .u64) 0)], bx := [[.r (.i .u64)]], bf := [] })
noncomputable def F44h (a0 : (List Int)) : Option ((Unit × Unit) × (((List Int) × Unit) × Unit) × Unit) :=
 (nilBr (a0).length (some (((), ()), ((([] : List Int), ()), ()), ())) (bif (decide ((([] : List Int)).length + (a0).length < lim)) then (some (((), ()), (((([] : List Int) ++ a0), ()), ()), ())) else none))
noncomputable def c44h : Con := ⟨i44h, o44h, fun x => F44h x.1.1⟩
theorem e44h (x : i44h.E) : vfn Try.prog C44h LO44h Try.f44 b44h i44h o44h x = c44h.F x := by kernel_rfl
theorem c44h_ok : Con.OK Try.prog 44 c44h := (fn_ok C44h_ok (fun _ => rfl) Try.func44 body44h (noL (by kernel_rfl)) i44h o44h).congr fun x => (e44h x).symm
def F44j (a0 : (List Int)) : Option ((Unit × Unit) × (((List Int) × Unit) × Unit) × Unit) := bif (decide (a0.length < lim)) then some (((), ()), ((a0, ()), ()), ()) else none
theorem F44j_eq (a0 : (List Int)) : F44j a0 = F44h a0 := by unfold F44h nilBr both; cases a0 <;> simp [F44j, lim] <;> rfl
noncomputable def c44j : Con := ⟨i44h, o44h, fun x => F44j x.1.1⟩
theorem c44j_ok : Con.OK Try.prog 44 c44j := c44h_ok.congr fun x => F44j_eq x.1.1
noncomputable def l18_4 : Code := (.seq (.seq (.region 4 (regOf Try.f18 4) false) (.cond (.tmp 21) .skip (.exit 0))) (.block 1 (.region 5 (regOf Try.f18 5) false)))
noncomputable def b18 : Code := (.seq (.region 0 (regOf Try.f18 0) false) (.seq (.seq (.region 1 (regOf Try.f18 1) false) (.cond (.tmp 13) (.seq (.region 2 (regOf Try.f18 2) false) .ret) .skip)) (.seq (.region 3 (regOf Try.f18 3) false) (.seq (.block 0 (.loop l18_4)) (.seq (.region 6 (regOf Try.f18 6) false) (.seq (.region 7 (regOf Try.f18 7) false) .ret))))))
theorem body18 : Try.f18.body = some b18 := by kernel_rfl
noncomputable def C18_4 : Tab := []
theorem C18_4_ok : TabOK Try.prog C18_4 := trivial
noncomputable def LO18_4 : Tab := []
noncomputable def i18_4 : Tm := { sl := [(1, .v (.i .i64)), (2, .v (.i .u64)), (7, .m (.i .u64) 0)], bx := [[.r (.i .u64)]], bf := [] }
noncomputable def o18_4 : OT := (.exit 0 { sl := [(7, .m (.i .u64) 1)], bx := [[.g], [.r (.i .u64)]], bf := [] })
noncomputable def T18_4 (a1 : Int) (a2 : Int) (b0_0 : (List Int)) : Option (((Int × (Int × (Unit × Unit))) × (((List Int) × Unit) × Unit) × Unit) ⊕ ((Unit × Unit) × ((Unit × Unit) × (((List Int) × Unit) × Unit)) × Unit)) :=
 (bif (decide (((((b0_0).length : Nat) : Int) : Int) ≤ a1)) then (bif (decide ((b0_0).length + ([0]).length < lim)) then (some (.inl ((a1, a2, (), ()), (((b0_0 ++ [0]), ()), ()), ()))) else none) else (some (.inr (((), ()), (((), ()), (b0_0, ()), ()), ()))))
noncomputable def L18_4 (a1 : Int) (a2 : Int) (b0_0 : (List Int)) : Option ((Unit × Unit) × ((Unit × Unit) × (((List Int) × Unit) × Unit)) × Unit) := iter (fun x : ((Int × (Int × (Unit × Unit))) × (((List Int) × Unit) × Unit) × Unit) => T18_4 x.1.1 x.1.2.1 x.2.1.1.1) 300 ((a1, a2, (), ()), ((b0_0, ()), ()), ())
noncomputable def k18_4 : Con := ⟨i18_4, o18_4, fun x => L18_4 x.1.1 x.1.2.1 x.2.1.1.1⟩
theorem e18_4 (x : i18_4.E) : vround Try.prog C18_4 LO18_4 Try.f18.ntmps l18_4 i18_4 o18_4 x = T18_4 x.1.1 x.1.2.1 x.2.1.1.1 := by kernel_rfl
theorem k18_4_ok : Con.LOK Try.prog Try.f18.ntmps l18_4 k18_4 := Con.LOK.fuel (loop_ok C18_4_ok (noL (by kernel_rfl)) i18_4 o18_4) 300 (funext e18_4)
noncomputable def C18 : Tab := [(38, c38), (44, c44j)]
theorem C18_ok : TabOK Try.prog C18 := ⟨c38_ok, c44j_ok, trivial⟩
noncomputable def LO18 : Tab := [(4, k18_4)]
noncomputable def i18 : Tm := { sl := [(0, .v (.l (.i .u64))), (1, .v (.i .i64)), (2, .v (.i .u64))], bx := [], bf := [] }
noncomputable def o18 : OT := (.ret { sl := [(0, .v (.l (.i .u64)))], bx := [], bf := [] })
noncomputable def F18 (a0 : (List Int)) (a1 : Int) (a2 : Int) : Option (((List Int) × Unit) × Unit × Unit) :=
 (bif (decide ((a1 : Int) < 0)) then ((F38 a0).bind fun y0 => (some ((y0.1.1, ()), (), ()))) else (bif (decide ((a1 : Int) ≥ 64)) then ((F38 a0).bind fun y1 => (some ((y1.1.1, ()), (), ()))) else ((F44j a0).bind fun y2 => ((L18_4 a1 a2 y2.2.1.1.1).bind fun y3 => (bif (decide (0 ≤ (a1 : Int) ∧ (a1 : Int) < (((y3.2.1.2.1.1).length : Nat) : Int))) then (bif (decide ((a1 : Int).toNat < (y3.2.1.2.1.1).length)) then ((F38 ((y3.2.1.2.1.1).set (a1 : Int).toNat a2)).bind fun y4 => (some ((y4.1.1, ()), (), ()))) else none) else none)))))
noncomputable def c18 : Con := ⟨i18, o18, fun x => F18 x.1.1 x.1.2.1 x.1.2.2.1⟩
theorem e18 (x : i18.E) : vfn Try.prog C18 LO18 Try.f18 b18 i18 o18 x = c18.F x := by kernel_rfl
theorem c18_ok : Con.OK Try.prog 18 c18 := (fn_ok C18_ok (fun _ => rfl) Try.func18 body18 (loops_of (l := [l18_4]) (by kernel_rfl) (show LoopsOK Try.prog Try.f18.ntmps [l18_4] LO18 from ⟨k18_4_ok, trivial⟩)) i18 o18).congr fun x => (e18 x).symm
noncomputable def b59 : Code := (.seq (.region 0 (regOf Try.f59 0) false) (.seq (.region 1 (regOf Try.f59 1) false) .ret))
theorem body59 : Try.f59.body = some b59 := by kernel_rfl
noncomputable def C59 : Tab := []
theorem C59_ok : TabOK Try.prog C59 := trivial
noncomputable def LO59 : Tab := []
noncomputable def i59 : Tm := { sl := [(0, .v (.i .u64)), (1, .v (.i .u64))], bx := [], bf := [] }
noncomputable def o59 : OT := (.ret { sl := [(0, .v (.i .u64))], bx := [], bf := [] })
noncomputable def F59 (a0 : Int) (a1 : Int) : Option ((Int × Unit) × Unit × Unit) :=
 (some (((if (a1 : Int) > a0 then a1 else a0), ()), (), ()))
noncomputable def c59 : Con := ⟨i59, o59, fun x => F59 x.1.1 x.1.2.1⟩
theorem e59 (x : i59.E) : vfn Try.prog C59 LO59 Try.f59 b59 i59 o59 x = c59.F x := by kernel_rfl
theorem c59_ok : Con.OK Try.prog 59 c59 := (fn_ok C59_ok (fun _ => rfl) Try.func59 body59 (noL (by kernel_rfl)) i59 o59).congr fun x => (e59 x).symm
noncomputable def l58_3 : Code := (.seq (.region 3 (regOf Try.f58 3) false) (.seq (.cond (.tmp 15) .skip (.exit 0)) (.seq (.block 1 (.seq (.region 4 (regOf Try.f58 4) false) (.region 5 (regOf Try.f58 5) false))) (.region 6 (regOf Try.f58 6) false))))
noncomputable def b58 : Code := (.seq (.region 0 (regOf Try.f58 0) false) (.seq (.region 1 (regOf Try.f58 1) false) (.seq (.seq (.region 2 (regOf Try.f58 2) false) (.block 0 (.loop l58_3))) (.seq (.region 7 (regOf Try.f58 7) false) .ret))))
theorem body58 : Try.f58.body = some b58 := by kernel_rfl
noncomputable def C58_3 : Tab := [(31, c31), (59, c59)]
theorem C58_3_ok : TabOK Try.prog C58_3 := ⟨c31_ok, c59_ok, trivial⟩
noncomputable def LO58_3 : Tab := []
noncomputable def i58_3 : Tm := { sl := [(0, .v (.l (.i .u64))), (1, .v (.l (.i .u64))), (2, .fn 59), (7, .o 0), (13, .v (.i .i64)), (14, .v (.i .i64))], bx := [], bf := [(.i .u64)] }
noncomputable def o58_3 : OT := (.exit 0 { sl := [(7, .o 0)], bx := [], bf := [(.i .u64)] })
noncomputable def T58_3 (a0 : (List Int)) (a1 : (List Int)) (a13 : Int) (a14 : Int) (q0 : (List Int)) : Option ((((List Int) × ((List Int) × (Unit × (Unit × (Int × (Int × Unit)))))) × Unit × ((List Int) × Unit)) ⊕ ((Unit × Unit) × Unit × ((List Int) × Unit))) :=
 (bif (decide ((a14 : Int) < a13)) then ((F31 a0 a14).bind fun y0 => ((F31 a1 a14).bind fun y1 => ((F59 y0.1.1 y1.1.1).bind fun y2 => (bif (decide ((q0).length + ([y2.1.1]).length < lim)) then (some (.inl ((a0, a1, (), (), a13, (IntKind.wrap .i64 (a14 + 1)), ()), (), ((q0 ++ [y2.1.1]), ())))) else none)))) else (some (.inr (((), ()), (), (q0, ())))))
noncomputable def L58_3 (a0 : (List Int)) (a1 : (List Int)) (a13 : Int) (a14 : Int) (q0 : (List Int)) : Option ((Unit × Unit) × Unit × ((List Int) × Unit)) := iter (fun x : (((List Int) × ((List Int) × (Unit × (Unit × (Int × (Int × Unit)))))) × Unit × ((List Int) × Unit)) => T58_3 x.1.1 x.1.2.1 x.1.2.2.2.2.1 x.1.2.2.2.2.2.1 x.2.2.1) 300 ((a0, a1, (), (), a13, a14, ()), (), (q0, ()))
noncomputable def k58_3 : Con := ⟨i58_3, o58_3, fun x => L58_3 x.1.1 x.1.2.1 x.1.2.2.2.2.1 x.1.2.2.2.2.2.1 x.2.2.1⟩
theorem e58_3 (x : i58_3.E) : vround Try.prog C58_3 LO58_3 Try.f58.ntmps l58_3 i58_3 o58_3 x = T58_3 x.1.1 x.1.2.1 x.1.2.2.2.2.1 x.1.2.2.2.2.2.1 x.2.2.1 := by kernel_rfl
theorem k58_3_ok : Con.LOK Try.prog Try.f58.ntmps l58_3 k58_3 := Con.LOK.fuel (loop_ok C58_3_ok (noL (by kernel_rfl)) i58_3 o58_3) 300 (funext e58_3)
noncomputable def C58 : Tab := [(31, c31), (38, c38), (59, c59)]
theorem C58_ok : TabOK Try.prog C58 := ⟨c31_ok, c38_ok, c59_ok, trivial⟩
noncomputable def LO58 : Tab := [(3, k58_3)]
noncomputable def i58 : Tm := { sl := [(0, .v (.l (.i .u64))), (1, .v (.l (.i .u64))), (2, .fn 59)], bx := [], bf := [] }
noncomputable def o58 : OT := (.ret { sl := [(0, .v (.l (.i .u64)))], bx := [], bf := [] })
noncomputable def F58 (a0 : (List Int)) (a1 : (List Int)) : Option (((List Int) × Unit) × Unit × Unit) :=
 ((L58_3 a0 a1 (if ((((a1).length : Nat) : Int) : Int) > (((a0).length : Nat) : Int) then (((a1).length : Nat) : Int) else (((a0).length : Nat) : Int)) 0 ([] : List Int)).bind fun y0 => ((F38 y0.2.2.1).bind fun y1 => (some ((y1.1.1, ()), (), ()))))
noncomputable def c58 : Con := ⟨i58, o58, fun x => F58 x.1.1 x.1.2.1⟩
theorem e58 (x : i58.E) : vfn Try.prog C58 LO58 Try.f58 b58 i58 o58 x = c58.F x := by kernel_rfl
theorem c58_ok : Con.OK Try.prog 58 c58 := (fn_ok C58_ok (fun _ => rfl) Try.func58 body58 (loops_of (l := [l58_3]) (by kernel_rfl) (show LoopsOK Try.prog Try.f58.ntmps [l58_3] LO58 from ⟨k58_3_ok, trivial⟩)) i58 o58).congr fun x => (e58 x).symm
noncomputable def b46 : Code := (.seq (.region 0 (regOf Try.f46 0) false) (.seq (.region 1 (regOf Try.f46 1) false) .ret))
theorem body46 : Try.f46.body = some b46 := by kernel_rfl
noncomputable def C46 : Tab := [(58, c58)]
theorem C46_ok : TabOK Try.prog C46 := ⟨c58_ok, trivial⟩
noncomputable def LO46 : Tab := []
noncomputable def i46 : Tm := { sl := [(0, .v (.l (.i .u64))), (1, .v (.l (.i .u64)))], bx := [], bf := [] }
noncomputable def o46 : OT := (.ret { sl := [(0, .v (.l (.i .u64)))], bx := [], bf := [] })
noncomputable def F46 (a0 : (List Int)) (a1 : (List Int)) : Option (((List Int) × Unit) × Unit × Unit) :=
 ((F58 a0 a1).bind fun y0 => (some ((y0.1.1, ()), (), ())))
noncomputable def c46 : Con := ⟨i46, o46, fun x => F46 x.1.1 x.1.2.1⟩
theorem e46 (x : i46.E) : vfn Try.prog C46 LO46 Try.f46 b46 i46 o46 x = c46.F x := by kernel_rfl
theorem c46_ok : Con.OK Try.prog 46 c46 := (fn_ok C46_ok (fun _ => rfl) Try.func46 body46 (noL (by kernel_rfl)) i46 o46).congr fun x => (e46 x).symm
noncomputable def b70_0 : Code := (.seq (.region 0 (regOf Try.f70 0) false) (.seq (.seq (.region 1 (regOf Try.f70 1) false) (.cond (.tmp 4) (.seq (.region 2 (regOf Try.f70 2) false) (.region 3 (regOf Try.f70 3) false)) .skip)) (.seq (.seq (.region 4 (regOf Try.f70 4) false) (.cond (.tmp 8) (.seq (.region 5 (regOf Try.f70 5) false) (.region 6 (regOf Try.f70 6) false)) .skip)) (.seq (.seq (.region 7 (regOf Try.f70 7) false) (.cond (.tmp 14) (.seq (.region 8 (regOf Try.f70 8) false) (.region 9 (regOf Try.f70 9) false)) .skip)) (.seq (.region 10 (regOf Try.f70 10) false) .ret)))))
theorem body70_0 : Try.f70.body = some b70_0 := by kernel_rfl
noncomputable def C70_0 : Tab := []
theorem C70_0_ok : TabOK Try.prog C70_0 := trivial
noncomputable def LO70_0 : Tab := []
noncomputable def i70_0 : Tm := { sl := [(0, .ki .u64 0)], bx := [], bf := [] }
noncomputable def o70_0 : OT := (.ret { sl := [(0, .v (.i .i64))], bx := [], bf := [] })
noncomputable def F70_0 : Option ((Int × Unit) × Unit × Unit) :=
 (some ((0, ()), (), ()))
noncomputable def c70_0 : Con := ⟨i70_0, o70_0, fun x => F70_0⟩
theorem e70_0 (x : i70_0.E) : vfn Try.prog C70_0 LO70_0 Try.f70 b70_0 i70_0 o70_0 x = F70_0 := by kernel_rfl
theorem c70_0_ok : Con.OK Try.prog 70 c70_0 := (fn_ok C70_0_ok (fun _ => rfl) Try.func70 body70_0 (noL (by kernel_rfl)) i70_0 o70_0).congr fun x => (e70_0 x).symm
noncomputable def b70_1 : Code := (.seq (.region 0 (regOf Try.f70 0) false) (.seq (.seq (.region 1 (regOf Try.f70 1) false) (.cond (.tmp 4) (.seq (.region 2 (regOf Try.f70 2) false) (.region 3 (regOf Try.f70 3) false)) .skip)) (.seq (.seq (.region 4 (regOf Try.f70 4) false) (.cond (.tmp 8) (.seq (.region 5 (regOf Try.f70 5) false) (.region 6 (regOf Try.f70 6) false)) .skip)) (.seq (.seq (.region 7 (regOf Try.f70 7) false) (.cond (.tmp 14) (.seq (.region 8 (regOf Try.f70 8) false) (.region 9 (regOf Try.f70 9) false)) .skip)) (.seq (.region 10 (regOf Try.f70 10) false) .ret)))))
theorem body70_1 : Try.f70.body = some b70_1 := by kernel_rfl
noncomputable def C70_1 : Tab := []
theorem C70_1_ok : TabOK Try.prog C70_1 := trivial
noncomputable def LO70_1 : Tab := []
noncomputable def i70_1 : Tm := { sl := [(0, .ki .u64 1)], bx := [], bf := [] }
noncomputable def o70_1 : OT := (.ret { sl := [(0, .v (.i .i64))], bx := [], bf := [] })
noncomputable def F70_1 : Option ((Int × Unit) × Unit × Unit) :=
 (some ((1, ()), (), ()))
noncomputable def c70_1 : Con := ⟨i70_1, o70_1, fun x => F70_1⟩
theorem e70_1 (x : i70_1.E) : vfn Try.prog C70_1 LO70_1 Try.f70 b70_1 i70_1 o70_1 x = F70_1 := by kernel_rfl
theorem c70_1_ok : Con.OK Try.prog 70 c70_1 := (fn_ok C70_1_ok (fun _ => rfl) Try.func70 body70_1 (noL (by kernel_rfl)) i70_1 o70_1).congr fun x => (e70_1 x).symm
noncomputable def b70_2 : Code := (.seq (.region 0 (regOf Try.f70 0) false) (.seq (.seq (.region 1 (regOf Try.f70 1) false) (.cond (.tmp 4) (.seq (.region 2 (regOf Try.f70 2) false) (.region 3 (regOf Try.f70 3) false)) .skip)) (.seq (.seq (.region 4 (regOf Try.f70 4) false) (.cond (.tmp 8) (.seq (.region 5 (regOf Try.f70 5) false) (.region 6 (regOf Try.f70 6) false)) .skip)) (.seq (.seq (.region 7 (regOf Try.f70 7) false) (.cond (.tmp 14) (.seq (.region 8 (regOf Try.f70 8) false) (.region 9 (regOf Try.f70 9) false)) .skip)) (.seq (.region 10 (regOf Try.f70 10) false) .ret)))))
theorem body70_2 : Try.f70.body = some b70_2 := by kernel_rfl
noncomputable def C70_2 : Tab := []
theorem C70_2_ok : TabOK Try.prog C70_2 := trivial
noncomputable def LO70_2 : Tab := []
noncomputable def i70_2 : Tm := { sl := [(0, .ki .u64 2)], bx := [], bf := [] }
noncomputable def o70_2 : OT := (.ret { sl := [(0, .v (.i .i64))], bx := [], bf := [] })
noncomputable def F70_2 : Option ((Int × Unit) × Unit × Unit) :=
 (some ((2, ()), (), ()))
noncomputable def c70_2 : Con := ⟨i70_2, o70_2, fun x => F70_2⟩
theorem e70_2 (x : i70_2.E) : vfn Try.prog C70_2 LO70_2 Try.f70 b70_2 i70_2 o70_2 x = F70_2 := by kernel_rfl
theorem c70_2_ok : Con.OK Try.prog 70 c70_2 := (fn_ok C70_2_ok (fun _ => rfl) Try.func70 body70_2 (noL (by kernel_rfl)) i70_2 o70_2).congr fun x => (e70_2 x).symm
noncomputable def b70_3 : Code := (.seq (.region 0 (regOf Try.f70 0) false) (.seq (.seq (.region 1 (regOf Try.f70 1) false) (.cond (.tmp 4) (.seq (.region 2 (regOf Try.f70 2) false) (.region 3 (regOf Try.f70 3) false)) .skip)) (.seq (.seq (.region 4 (regOf Try.f70 4) false) (.cond (.tmp 8) (.seq (.region 5 (regOf Try.f70 5) false) (.region 6 (regOf Try.f70 6) false)) .skip)) (.seq (.seq (.region 7 (regOf Try.f70 7) false) (.cond (.tmp 14) (.seq (.region 8 (regOf Try.f70 8) false) (.region 9 (regOf Try.f70 9) false)) .skip)) (.seq (.region 10 (regOf Try.f70 10) false) .ret)))))
theorem body70_3 : Try.f70.body = some b70_3 := by kernel_rfl
noncomputable def C70_3 : Tab := []
theorem C70_3_ok : TabOK Try.prog C70_3 := trivial
noncomputable def LO70_3 : Tab := []
noncomputable def i70_3 : Tm := { sl := [(0, .ki .u64 3)], bx := [], bf := [] }
noncomputable def o70_3 : OT := (.ret { sl := [(0, .v (.i .i64))], bx := [], bf := [] })
noncomputable def F70_3 : Option ((Int × Unit) × Unit × Unit) :=
 (some ((2, ()), (), ()))
noncomputable def c70_3 : Con := ⟨i70_3, o70_3, fun x => F70_3⟩
theorem e70_3 (x : i70_3.E) : vfn Try.prog C70_3 LO70_3 Try.f70 b70_3 i70_3 o70_3 x = F70_3 := by kernel_rfl
theorem c70_3_ok : Con.OK Try.prog 70 c70_3 := (fn_ok C70_3_ok (fun _ => rfl) Try.func70 body70_3 (noL (by kernel_rfl)) i70_3 o70_3).congr fun x => (e70_3 x).symm
noncomputable def b70_4 : Code := (.seq (.region 0 (regOf Try.f70 0) false) (.seq (.seq (.region 1 (regOf Try.f70 1) false) (.cond (.tmp 4) (.seq (.region 2 (regOf Try.f70 2) false) (.region 3 (regOf Try.f70 3) false)) .skip)) (.seq (.seq (.region 4 (regOf Try.f70 4) false) (.cond (.tmp 8) (.seq (.region 5 (regOf Try.f70 5) false) (.region 6 (regOf Try.f70 6) false)) .skip)) (.seq (.seq (.region 7 (regOf Try.f70 7) false) (.cond (.tmp 14) (.seq (.region 8 (regOf Try.f70 8) false) (.region 9 (regOf Try.f70 9) false)) .skip)) (.seq (.region 10 (regOf Try.f70 10) false) .ret)))))
theorem body70_4 : Try.f70.body = some b70_4 := by kernel_rfl
noncomputable def C70_4 : Tab := []
theorem C70_4_ok : TabOK Try.prog C70_4 := trivial
noncomputable def LO70_4 : Tab := []
noncomputable def i70_4 : Tm := { sl := [(0, .ki .u64 4)], bx := [], bf := [] }
noncomputable def o70_4 : OT := (.ret { sl := [(0, .v (.i .i64))], bx := [], bf := [] })
noncomputable def F70_4 : Option ((Int × Unit) × Unit × Unit) :=
 (some ((3, ()), (), ()))
noncomputable def c70_4 : Con := ⟨i70_4, o70_4, fun x => F70_4⟩
theorem e70_4 (x : i70_4.E) : vfn Try.prog C70_4 LO70_4 Try.f70 b70_4 i70_4 o70_4 x = F70_4 := by kernel_rfl
theorem c70_4_ok : Con.OK Try.prog 70 c70_4 := (fn_ok C70_4_ok (fun _ => rfl) Try.func70 body70_4 (noL (by kernel_rfl)) i70_4 o70_4).congr fun x => (e70_4 x).symm
noncomputable def b70_5 : Code := (.seq (.region 0 (regOf Try.f70 0) false) (.seq (.seq (.region 1 (regOf Try.f70 1) false) (.cond (.tmp 4) (.seq (.region 2 (regOf Try.f70 2) false) (.region 3 (regOf Try.f70 3) false)) .skip)) (.seq (.seq (.region 4 (regOf Try.f70 4) false) (.cond (.tmp 8) (.seq (.region 5 (regOf Try.f70 5) false) (.region 6 (regOf Try.f70 6) false)) .skip)) (.seq (.seq (.region 7 (regOf Try.f70 7) false) (.cond (.tmp 14) (.seq (.region 8 (regOf Try.f70 8) false) (.region 9 (regOf Try.f70 9) false)) .skip)) (.seq (.region 10 (regOf Try.f70 10) false) .ret)))))
theorem body70_5 : Try.f70.body = some b70_5 := by kernel_rfl
noncomputable def C70_5 : Tab := []
theorem C70_5_ok : TabOK Try.prog C70_5 := trivial
noncomputable def LO70_5 : Tab := []
noncomputable def i70_5 : Tm := { sl := [(0, .ki .u64 5)], bx := [], bf := [] }
noncomputable def o70_5 : OT := (.ret { sl := [(0, .v (.i .i64))], bx := [], bf := [] })
noncomputable def F70_5 : Option ((Int × Unit) × Unit × Unit) :=
 (some ((3, ()), (), ()))
noncomputable def c70_5 : Con := ⟨i70_5, o70_5, fun x => F70_5⟩
theorem e70_5 (x : i70_5.E) : vfn Try.prog C70_5 LO70_5 Try.f70 b70_5 i70_5 o70_5 x = F70_5 := by kernel_rfl
theorem c70_5_ok : Con.OK Try.prog 70 c70_5 := (fn_ok C70_5_ok (fun _ => rfl) Try.func70 body70_5 (noL (by kernel_rfl)) i70_5 o70_5).congr fun x => (e70_5 x).symm
noncomputable def b70_6 : Code := (.seq (.region 0 (regOf Try.f70 0) false) (.seq (.seq (.region 1 (regOf Try.f70 1) false) (.cond (.tmp 4) (.seq (.region 2 (regOf Try.f70 2) false) (.region 3 (regOf Try.f70 3) false)) .skip)) (.seq (.seq (.region 4 (regOf Try.f70 4) false) (.cond (.tmp 8) (.seq (.region 5 (regOf Try.f70 5) false) (.region 6 (regOf Try.f70 6) false)) .skip)) (.seq (.seq (.region 7 (regOf Try.f70 7) false) (.cond (.tmp 14) (.seq (.region 8 (regOf Try.f70 8) false) (.region 9 (regOf Try.f70 9) false)) .skip)) (.seq (.region 10 (regOf Try.f70 10) false) .ret)))))
theorem body70_6 : Try.f70.body = some b70_6 := by kernel_rfl
noncomputable def C70_6 : Tab := []
theorem C70_6_ok : TabOK Try.prog C70_6 := trivial
noncomputable def LO70_6 : Tab := []
noncomputable def i70_6 : Tm := { sl := [(0, .ki .u64 6)], bx := [], bf := [] }
noncomputable def o70_6 : OT := (.ret { sl := [(0, .v (.i .i64))], bx := [], bf := [] })
noncomputable def F70_6 : Option ((Int × Unit) × Unit × Unit) :=
 (some ((3, ()), (), ()))
noncomputable def c70_6 : Con := ⟨i70_6, o70_6, fun x => F70_6⟩
theorem e70_6 (x : i70_6.E) : vfn Try.prog C70_6 LO70_6 Try.f70 b70_6 i70_6 o70_6 x = F70_6 := by kernel_rfl
theorem c70_6_ok : Con.OK Try.prog 70 c70_6 := (fn_ok C70_6_ok (fun _ => rfl) Try.func70 body70_6 (noL (by kernel_rfl)) i70_6 o70_6).congr fun x => (e70_6 x).symm
noncomputable def b70_7 : Code := (.seq (.region 0 (regOf Try.f70 0) false) (.seq (.seq (.region 1 (regOf Try.f70 1) false) (.cond (.tmp 4) (.seq (.region 2 (regOf Try.f70 2) false) (.region 3 (regOf Try.f70 3) false)) .skip)) (.seq (.seq (.region 4 (regOf Try.f70 4) false) (.cond (.tmp 8) (.seq (.region 5 (regOf Try.f70 5) false) (.region 6 (regOf Try.f70 6) false)) .skip)) (.seq (.seq (.region 7 (regOf Try.f70 7) false) (.cond (.tmp 14) (.seq (.region 8 (regOf Try.f70 8) false) (.region 9 (regOf Try.f70 9) false)) .skip)) (.seq (.region 10 (regOf Try.f70 10) false) .ret)))))
theorem body70_7 : Try.f70.body = some b70_7 := by kernel_rfl
noncomputable def C70_7 : Tab := []
theorem C70_7_ok : TabOK Try.prog C70_7 := trivial
noncomputable def LO70_7 : Tab := []
noncomputable def i70_7 : Tm := { sl := [(0, .ki .u64 7)], bx := [], bf := [] }
noncomputable def o70_7 : OT := (.ret { sl := [(0, .v (.i .i64))], bx := [], bf := [] })
noncomputable def F70_7 : Option ((Int × Unit) × Unit × Unit) :=
 (some ((3, ()), (), ()))
noncomputable def c70_7 : Con := ⟨i70_7, o70_7, fun x => F70_7⟩
theorem e70_7 (x : i70_7.E) : vfn Try.prog C70_7 LO70_7 Try.f70 b70_7 i70_7 o70_7 x = F70_7 := by kernel_rfl
theorem c70_7_ok : Con.OK Try.prog 70 c70_7 := (fn_ok C70_7_ok (fun _ => rfl) Try.func70 body70_7 (noL (by kernel_rfl)) i70_7 o70_7).congr fun x => (e70_7 x).symm
noncomputable def b70_8 : Code := (.seq (.region 0 (regOf Try.f70 0) false) (.seq (.seq (.region 1 (regOf Try.f70 1) false) (.cond (.tmp 4) (.seq (.region 2 (regOf Try.f70 2) false) (.region 3 (regOf Try.f70 3) false)) .skip)) (.seq (.seq (.region 4 (regOf Try.f70 4) false) (.cond (.tmp 8) (.seq (.region 5 (regOf Try.f70 5) false) (.region 6 (regOf Try.f70 6) false)) .skip)) (.seq (.seq (.region 7 (regOf Try.f70 7) false) (.cond (.tmp 14) (.seq (.region 8 (regOf Try.f70 8) false) (.region 9 (regOf Try.f70 9) false)) .skip)) (.seq (.region 10 (regOf Try.f70 10) false) .ret)))))
theorem body70_8 : Try.f70.body = some b70_8 := by kernel_rfl
noncomputable def C70_8 : Tab := []
theorem C70_8_ok : TabOK Try.prog C70_8 := trivial
noncomputable def LO70_8 : Tab := []
noncomputable def i70_8 : Tm := { sl := [(0, .ki .u64 8)], bx := [], bf := [] }
noncomputable def o70_8 : OT := (.ret { sl := [(0, .v (.i .i64))], bx := [], bf := [] })
noncomputable def F70_8 : Option ((Int × Unit) × Unit × Unit) :=
 (some ((4, ()), (), ()))
noncomputable def c70_8 : Con := ⟨i70_8, o70_8, fun x => F70_8⟩
theorem e70_8 (x : i70_8.E) : vfn Try.prog C70_8 LO70_8 Try.f70 b70_8 i70_8 o70_8 x = F70_8 := by kernel_rfl
theorem c70_8_ok : Con.OK Try.prog 70 c70_8 := (fn_ok C70_8_ok (fun _ => rfl) Try.func70 body70_8 (noL (by kernel_rfl)) i70_8 o70_8).congr fun x => (e70_8 x).symm
noncomputable def b70_9 : Code := (.seq (.region 0 (regOf Try.f70 0) false) (.seq (.seq (.region 1 (regOf Try.f70 1) false) (.cond (.tmp 4) (.seq (.region 2 (regOf Try.f70 2) false) (.region 3 (regOf Try.f70 3) false)) .skip)) (.seq (.seq (.region 4 (regOf Try.f70 4) false) (.cond (.tmp 8) (.seq (.region 5 (regOf Try.f70 5) false) (.region 6 (regOf Try.f70 6) false)) .skip)) (.seq (.seq (.region 7 (regOf Try.f70 7) false) (.cond (.tmp 14) (.seq (.region 8 (regOf Try.f70 8) false) (.region 9 (regOf Try.f70 9) false)) .skip)) (.seq (.region 10 (regOf Try.f70 10) false) .ret)))))
theorem body70_9 : Try.f70.body = some b70_9 := by kernel_rfl
noncomputable def C70_9 : Tab := []
theorem C70_9_ok : TabOK Try.prog C70_9 := trivial
noncomputable def LO70_9 : Tab := []
noncomputable def i70_9 : Tm := { sl := [(0, .ki .u64 9)], bx := [], bf := [] }
noncomputable def o70_9 : OT := (.ret { sl := [(0, .v (.i .i64))], bx := [], bf := [] })
noncomputable def F70_9 : Option ((Int × Unit) × Unit × Unit) :=
 (some ((4, ()), (), ()))
noncomputable def c70_9 : Con := ⟨i70_9, o70_9, fun x => F70_9⟩
theorem e70_9 (x : i70_9.E) : vfn Try.prog C70_9 LO70_9 Try.f70 b70_9 i70_9 o70_9 x = F70_9 := by kernel_rfl
theorem c70_9_ok : Con.OK Try.prog 70 c70_9 := (fn_ok C70_9_ok (fun _ => rfl) Try.func70 body70_9 (noL (by kernel_rfl)) i70_9 o70_9).congr fun x => (e70_9 x).symm
noncomputable def b70_10 : Code := (.seq (.region 0 (regOf Try.f70 0) false) (.seq (.seq (.region 1 (regOf Try.f70 1) false) (.cond (.tmp 4) (.seq (.region 2 (regOf Try.f70 2) false) (.region 3 (regOf Try.f70 3) false)) .skip)) (.seq (.seq (.region 4 (regOf Try.f70 4) false) (.cond (.tmp 8) (.seq (.region 5 (regOf Try.f70 5) false) (.region 6 (regOf Try.f70 6) false)) .skip)) (.seq (.seq (.region 7 (regOf Try.f70 7) false) (.cond (.tmp 14) (.seq (.region 8 (regOf Try.f70 8) false) (.region 9 (regOf Try.f70 9) false)) .skip)) (.seq (.region 10 (regOf Try.f70 10) false) .ret)))))
theorem body70_10 : Try.f70.body = some b70_10 := by kernel_rfl
noncomputable def C70_10 : Tab := []
theorem C70_10_ok : TabOK Try.prog C70_10 := trivial
noncomputable def LO70_10 : Tab := []
noncomputable def i70_10 : Tm := { sl := [(0, .ki .u64 10)], bx := [], bf := [] }
noncomputable def o70_10 : OT := (.ret { sl := [(0, .v (.i .i64))], bx := [], bf := [] })
noncomputable def F70_10 : Option ((Int × Unit) × Unit × Unit) :=
 (some ((4, ()), (), ()))
noncomputable def c70_10 : Con := ⟨i70_10, o70_10, fun x => F70_10⟩
theorem e70_10 (x : i70_10.E) : vfn Try.prog C70_10 LO70_10 Try.f70 b70_10 i70_10 o70_10 x = F70_10 := by kernel_rfl
theorem c70_10_ok : Con.OK Try.prog 70 c70_10 := (fn_ok C70_10_ok (fun _ => rfl) Try.func70 body70_10 (noL (by kernel_rfl)) i70_10 o70_10).congr fun x => (e70_10 x).symm
noncomputable def b70_11 : Code := (.seq (.region 0 (regOf Try.f70 0) false) (.seq (.seq (.region 1 (regOf Try.f70 1) false) (.cond (.tmp 4) (.seq (.region 2 (regOf Try.f70 2) false) (.region 3 (regOf Try.f70 3) false)) .skip)) (.seq (.seq (.region 4 (regOf Try.f70 4) false) (.cond (.tmp 8) (.seq (.region 5 (regOf Try.f70 5) false) (.region 6 (regOf Try.f70 6) false)) .skip)) (.seq (.seq (.region 7 (regOf Try.f70 7) false) (.cond (.tmp 14) (.seq (.region 8 (regOf Try.f70 8) false) (.region 9 (regOf Try.f70 9) false)) .skip)) (.seq (.region 10 (regOf Try.f70 10) false) .ret)))))
theorem body70_11 : Try.f70.body = some b70_11 := by kernel_rfl
noncomputable def C70_11 : Tab := []
theorem C70_11_ok : TabOK Try.prog C70_11 := trivial
noncomputable def LO70_11 : Tab := []
noncomputable def i70_11 : Tm := { sl := [(0, .ki .u64 11)], bx := [], bf := [] }
noncomputable def o70_11 : OT := (.ret { sl := [(0, .v (.i .i64))], bx := [], bf := [] })
noncomputable def F70_11 : Option ((Int × Unit) × Unit × Unit) :=
 (some ((4, ()), (), ()))
noncomputable def c70_11 : Con := ⟨i70_11, o70_11, fun x => F70_11⟩
theorem e70_11 (x : i70_11.E) : vfn Try.prog C70_11 LO70_11 Try.f70 b70_11 i70_11 o70_11 x = F70_11 := by kernel_rfl
theorem c70_11_ok : Con.OK Try.prog 70 c70_11 := (fn_ok C70_11_ok (fun _ => rfl) Try.func70 body70_11 (noL (by kernel_rfl)) i70_11 o70_11).congr fun x => (e70_11 x).symm
noncomputable def b70_12 : Code := (.seq (.region 0 (regOf Try.f70 0) false) (.seq (.seq (.region 1 (regOf Try.f70 1) false) (.cond (.tmp 4) (.seq (.region 2 (regOf Try.f70 2) false) (.region 3 (regOf Try.f70 3) false)) .skip)) (.seq (.seq (.region 4 (regOf Try.f70 4) false) (.cond (.tmp 8) (.seq (.region 5 (regOf Try.f70 5) false) (.region 6 (regOf Try.f70 6) false)) .skip)) (.seq (.seq (.region 7 (regOf Try.f70 7) false) (.cond (.tmp 14) (.seq (.region 8 (regOf Try.f70 8) false) (.region 9 (regOf Try.f70 9) false)) .skip)) (.seq (.region 10 (regOf Try.f70 10) false) .ret)))))
theorem body70_12 : Try.f70.body = some b70_12 := by kernel_rfl
noncomputable def C70_12 : Tab := []
theorem C70_12_ok : TabOK Try.prog C70_12 := trivial
noncomputable def LO70_12 : Tab := []
noncomputable def i70_12 : Tm := { sl := [(0, .ki .u64 12)], bx := [], bf := [] }
noncomputable def o70_12 : OT := (.ret { sl := [(0, .v (.i .i64))], bx := [], bf := [] })
noncomputable def F70_12 : Option ((Int × Unit) × Unit × Unit) :=
 (some ((4, ()), (), ()))
noncomputable def c70_12 : Con := ⟨i70_12, o70_12, fun x => F70_12⟩
theorem e70_12 (x : i70_12.E) : vfn Try.prog C70_12 LO70_12 Try.f70 b70_12 i70_12 o70_12 x = F70_12 := by kernel_rfl
theorem c70_12_ok : Con.OK Try.prog 70 c70_12 := (fn_ok C70_12_ok (fun _ => rfl) Try.func70 body70_12 (noL (by kernel_rfl)) i70_12 o70_12).congr fun x => (e70_12 x).symm
noncomputable def b50 : Code := (.seq (.region 0 (regOf Try.f50 0) false) (.seq (.cond (.const (Value.bool false)) (.seq (.region 1 (regOf Try.f50 1) false) .ret) .skip) (.seq (.region 2 (regOf Try.f50 2) false) .ret)))
theorem body50 : Try.f50.body = some b50 := by kernel_rfl
noncomputable def C50 : Tab := [(70, c70_0), (70, c70_1), (70, c70_10), (70, c70_11), (70, c70_12), (70, c70_2), (70, c70_3), (70, c70_4), (70, c70_5), (70, c70_6), (70, c70_7), (70, c70_8), (70, c70_9), (1001300006, cHot)]
theorem C50_ok : TabOK Try.prog C50 := ⟨c70_0_ok, c70_1_ok, c70_10_ok, c70_11_ok, c70_12_ok, c70_2_ok, c70_3_ok, c70_4_ok, c70_5_ok, c70_6_ok, c70_7_ok, c70_8_ok, c70_9_ok, cHot_ok, trivial⟩
noncomputable def LO50 : Tab := []
noncomputable def i50 : Tm := { sl := [(0, .v (.i .u64))], bx := [], bf := [] }
noncomputable def o50 : OT := (.ret { sl := [(0, .v (.i .i64))], bx := [], bf := [] })
noncomputable def F50 (a0 : Int) : Option ((Int × Unit) × Unit × Unit) :=
 (bif (decide ((a0 : Int) = 0)) then ((F70_0).bind fun y0 => (some ((y0.1.1, ()), (), ()))) else (bif (decide ((a0 : Int) = 1)) then ((F70_1).bind fun y1 => (some ((y1.1.1, ()), (), ()))) else (bif (decide ((a0 : Int) = 2)) then ((F70_2).bind fun y2 => (some ((y2.1.1, ()), (), ()))) else (bif (decide ((a0 : Int) = 3)) then ((F70_3).bind fun y3 => (some ((y3.1.1, ()), (), ()))) else (bif (decide ((a0 : Int) = 4)) then ((F70_4).bind fun y4 => (some ((y4.1.1, ()), (), ()))) else (bif (decide ((a0 : Int) = 5)) then ((F70_5).bind fun y5 => (some ((y5.1.1, ()), (), ()))) else (bif (decide ((a0 : Int) = 6)) then ((F70_6).bind fun y6 => (some ((y6.1.1, ()), (), ()))) else (bif (decide ((a0 : Int) = 7)) then ((F70_7).bind fun y7 => (some ((y7.1.1, ()), (), ()))) else (bif (decide ((a0 : Int) = 8)) then ((F70_8).bind fun y8 => (some ((y8.1.1, ()), (), ()))) else (bif (decide ((a0 : Int) = 9)) then ((F70_9).bind fun y9 => (some ((y9.1.1, ()), (), ()))) else (bif (decide ((a0 : Int) = 10)) then ((F70_10).bind fun y10 => (some ((y10.1.1, ()), (), ()))) else (bif (decide ((a0 : Int) = 11)) then ((F70_11).bind fun y11 => (some ((y11.1.1, ()), (), ()))) else (bif (decide ((a0 : Int) = 12)) then ((F70_12).bind fun y12 => (some ((y12.1.1, ()), (), ()))) else none)))))))))))))
noncomputable def c50 : Con := ⟨i50, o50, fun x => F50 x.1.1⟩
theorem e50 (x : i50.E) : vfn Try.prog C50 LO50 Try.f50 b50 i50 o50 x = c50.F x := by kernel_rfl
theorem c50_ok : Con.OK Try.prog 50 c50 := (fn_ok C50_ok (fun _ => rfl) Try.func50 body50 (noL (by kernel_rfl)) i50 o50).congr fun x => (e50 x).symm
noncomputable def b33 : Code := (.seq (.region 0 (regOf Try.f33 0) false) (.seq (.region 1 (regOf Try.f33 1) true) .ret))
theorem body33 : Try.f33.body = some b33 := by kernel_rfl
noncomputable def C33 : Tab := [(34, c34), (35, c35)]
theorem C33_ok : TabOK Try.prog C33 := ⟨c34_ok, c35_ok, trivial⟩
noncomputable def LO33 : Tab := []
noncomputable def i33 : Tm := { sl := [(0, .v tDEv), (1, .v tDEv)], bx := [], bf := [] }
noncomputable def o33 : OT := (.ret { sl := [(0, .v (.i .i64))], bx := [], bf := [] })
noncomputable def F33 (a0 : DEv) (a1 : DEv) : Option ((Int × Unit) × Unit × Unit) :=
 ((F35 a0).bind fun y0 => ((F35 a1).bind fun y1 => ((F34 y0.1.1 y1.1.1).bind fun y2 => (some ((y2.1.1, ()), (), ())))))
noncomputable def c33 : Con := ⟨i33, o33, fun x => F33 x.1.1 x.1.2.1⟩
theorem e33 (x : i33.E) : vfn Try.prog C33 LO33 Try.f33 b33 i33 o33 x = c33.F x := by kernel_rfl
theorem c33_ok : Con.OK Try.prog 33 c33 := (fn_ok C33_ok (fun _ => rfl) Try.func33 body33 (noL (by kernel_rfl)) i33 o33).congr fun x => (e33 x).symm
noncomputable def l61_4 : Code := (.seq (.seq (.region 4 (regOf Try.f61 4) true) (.cond (.tmp 34) .skip (.exit 2))) (.seq (.block 3 (.region 6 (regOf Try.f61 6) true)) (.region 5 (regOf Try.f61 5) false)))
noncomputable def l61_1 : Code := (.seq (.seq (.region 1 (regOf Try.f61 1) false) (.cond (.tmp 14) .skip (.exit 0))) (.seq (.block 1 (.seq (.region 3 (regOf Try.f61 3) false) (.block 2 (.loop l61_4)))) (.region 2 (regOf Try.f61 2) false)))
noncomputable def b61 : Code := (.seq (.region 0 (regOf Try.f61 0) false) (.block 0 (.loop l61_1)))
theorem body61 : Try.f61.body = some b61 := by kernel_rfl
noncomputable def C61_4 : Tab := [(33, c33)]
theorem C61_4_ok : TabOK Try.prog C61_4 := ⟨c33_ok, trivial⟩
noncomputable def LO61_4 : Tab := []
noncomputable def i61_4 : Tm := { sl := [(0, .m tDEv 0), (1, .v (.i .i64)), (2, .v (.i .i64)), (3, .fn 33), (8, .v (.i .i64)), (9, .v (.i .i64))], bx := [[.r tDEv]], bf := [] }
noncomputable def o61_4 : OT := (.exit 2 { sl := [], bx := [[.r tDEv]], bf := [] })
noncomputable def T61_4 (a1 : Int) (a2 : Int) (a8 : Int) (a9 : Int) (b0_0 : (List DEv)) : Option (((Unit × (Int × (Int × (Unit × (Int × (Int × Unit)))))) × (((List DEv) × Unit) × Unit) × Unit) ⊕ (Unit × (((List DEv) × Unit) × Unit) × Unit)) :=
 (bif (decide ((a9 : Int) > a1)) then (bif (decide (0 ≤ (a9 : Int) ∧ (a9 : Int) < (((b0_0).length : Nat) : Int))) then (bif (decide ((a9 : Int).toNat < (b0_0).length)) then (bif (decide (0 ≤ ((IntKind.wrap .i64 (a9 - 1)) : Int) ∧ ((IntKind.wrap .i64 (a9 - 1)) : Int) < (((b0_0).length : Nat) : Int))) then (bif (decide (((IntKind.wrap .i64 (a9 - 1)) : Int).toNat < (b0_0).length)) then ((F33 (((b0_0).getD (a9 : Int).toNat ((0 : Int), ((0 : Int), ((0 : Int), ((0 : Int), (ByteArray.empty, ([], ((0 : Nat), ((0 : Int), ()))))))))).1, (((b0_0).getD (a9 : Int).toNat ((0 : Int), ((0 : Int), ((0 : Int), ((0 : Int), (ByteArray.empty, ([], ((0 : Nat), ((0 : Int), ()))))))))).2.1, (((b0_0).getD (a9 : Int).toNat ((0 : Int), ((0 : Int), ((0 : Int), ((0 : Int), (ByteArray.empty, ([], ((0 : Nat), ((0 : Int), ()))))))))).2.2.1, (((b0_0).getD (a9 : Int).toNat ((0 : Int), ((0 : Int), ((0 : Int), ((0 : Int), (ByteArray.empty, ([], ((0 : Nat), ((0 : Int), ()))))))))).2.2.2.1, (((b0_0).getD (a9 : Int).toNat ((0 : Int), ((0 : Int), ((0 : Int), ((0 : Int), (ByteArray.empty, ([], ((0 : Nat), ((0 : Int), ()))))))))).2.2.2.2.1, (((b0_0).getD (a9 : Int).toNat ((0 : Int), ((0 : Int), ((0 : Int), ((0 : Int), (ByteArray.empty, ([], ((0 : Nat), ((0 : Int), ()))))))))).2.2.2.2.2.1, (((b0_0).getD (a9 : Int).toNat ((0 : Int), ((0 : Int), ((0 : Int), ((0 : Int), (ByteArray.empty, ([], ((0 : Nat), ((0 : Int), ()))))))))).2.2.2.2.2.2.1, (((b0_0).getD (a9 : Int).toNat ((0 : Int), ((0 : Int), ((0 : Int), ((0 : Int), (ByteArray.empty, ([], ((0 : Nat), ((0 : Int), ()))))))))).2.2.2.2.2.2.2.1, ())))))))) (((b0_0).getD ((IntKind.wrap .i64 (a9 - 1)) : Int).toNat ((0 : Int), ((0 : Int), ((0 : Int), ((0 : Int), (ByteArray.empty, ([], ((0 : Nat), ((0 : Int), ()))))))))).1, (((b0_0).getD ((IntKind.wrap .i64 (a9 - 1)) : Int).toNat ((0 : Int), ((0 : Int), ((0 : Int), ((0 : Int), (ByteArray.empty, ([], ((0 : Nat), ((0 : Int), ()))))))))).2.1, (((b0_0).getD ((IntKind.wrap .i64 (a9 - 1)) : Int).toNat ((0 : Int), ((0 : Int), ((0 : Int), ((0 : Int), (ByteArray.empty, ([], ((0 : Nat), ((0 : Int), ()))))))))).2.2.1, (((b0_0).getD ((IntKind.wrap .i64 (a9 - 1)) : Int).toNat ((0 : Int), ((0 : Int), ((0 : Int), ((0 : Int), (ByteArray.empty, ([], ((0 : Nat), ((0 : Int), ()))))))))).2.2.2.1, (((b0_0).getD ((IntKind.wrap .i64 (a9 - 1)) : Int).toNat ((0 : Int), ((0 : Int), ((0 : Int), ((0 : Int), (ByteArray.empty, ([], ((0 : Nat), ((0 : Int), ()))))))))).2.2.2.2.1, (((b0_0).getD ((IntKind.wrap .i64 (a9 - 1)) : Int).toNat ((0 : Int), ((0 : Int), ((0 : Int), ((0 : Int), (ByteArray.empty, ([], ((0 : Nat), ((0 : Int), ()))))))))).2.2.2.2.2.1, (((b0_0).getD ((IntKind.wrap .i64 (a9 - 1)) : Int).toNat ((0 : Int), ((0 : Int), ((0 : Int), ((0 : Int), (ByteArray.empty, ([], ((0 : Nat), ((0 : Int), ()))))))))).2.2.2.2.2.2.1, (((b0_0).getD ((IntKind.wrap .i64 (a9 - 1)) : Int).toNat ((0 : Int), ((0 : Int), ((0 : Int), ((0 : Int), (ByteArray.empty, ([], ((0 : Nat), ((0 : Int), ()))))))))).2.2.2.2.2.2.2.1, ()))))))))).bind fun y0 => (bif (decide ((y0.1.1 : Int) < 0)) then (bif (decide (0 ≤ ((IntKind.wrap .i64 (a9 - 1)) : Int) ∧ ((IntKind.wrap .i64 (a9 - 1)) : Int) < (((b0_0).length : Nat) : Int))) then (bif (decide (((IntKind.wrap .i64 (a9 - 1)) : Int).toNat < (b0_0).length)) then (bif (decide (0 ≤ (a9 : Int) ∧ (a9 : Int) < (((b0_0).length : Nat) : Int))) then (bif (decide ((a9 : Int).toNat < (b0_0).length)) then (bif (decide (0 ≤ (a9 : Int) ∧ (a9 : Int) < (((b0_0).length : Nat) : Int))) then (bif (decide ((a9 : Int).toNat < (b0_0).length)) then (bif (decide (0 ≤ ((IntKind.wrap .i64 (a9 - 1)) : Int) ∧ ((IntKind.wrap .i64 (a9 - 1)) : Int) < (((((b0_0).set (a9 : Int).toNat (((b0_0).getD ((IntKind.wrap .i64 (a9 - 1)) : Int).toNat ((0 : Int), ((0 : Int), ((0 : Int), ((0 : Int), (ByteArray.empty, ([], ((0 : Nat), ((0 : Int), ()))))))))).1, (((b0_0).getD ((IntKind.wrap .i64 (a9 - 1)) : Int).toNat ((0 : Int), ((0 : Int), ((0 : Int), ((0 : Int), (ByteArray.empty, ([], ((0 : Nat), ((0 : Int), ()))))))))).2.1, (((b0_0).getD ((IntKind.wrap .i64 (a9 - 1)) : Int).toNat ((0 : Int), ((0 : Int), ((0 : Int), ((0 : Int), (ByteArray.empty, ([], ((0 : Nat), ((0 : Int), ()))))))))).2.2.1, (((b0_0).getD ((IntKind.wrap .i64 (a9 - 1)) : Int).toNat ((0 : Int), ((0 : Int), ((0 : Int), ((0 : Int), (ByteArray.empty, ([], ((0 : Nat), ((0 : Int), ()))))))))).2.2.2.1, (((b0_0).getD ((IntKind.wrap .i64 (a9 - 1)) : Int).toNat ((0 : Int), ((0 : Int), ((0 : Int), ((0 : Int), (ByteArray.empty, ([], ((0 : Nat), ((0 : Int), ()))))))))).2.2.2.2.1, (((b0_0).getD ((IntKind.wrap .i64 (a9 - 1)) : Int).toNat ((0 : Int), ((0 : Int), ((0 : Int), ((0 : Int), (ByteArray.empty, ([], ((0 : Nat), ((0 : Int), ()))))))))).2.2.2.2.2.1, (((b0_0).getD ((IntKind.wrap .i64 (a9 - 1)) : Int).toNat ((0 : Int), ((0 : Int), ((0 : Int), ((0 : Int), (ByteArray.empty, ([], ((0 : Nat), ((0 : Int), ()))))))))).2.2.2.2.2.2.1, (((b0_0).getD ((IntKind.wrap .i64 (a9 - 1)) : Int).toNat ((0 : Int), ((0 : Int), ((0 : Int), ((0 : Int), (ByteArray.empty, ([], ((0 : Nat), ((0 : Int), ()))))))))).2.2.2.2.2.2.2.1, ())))))))))).length : Nat) : Int))) then (bif (decide (((IntKind.wrap .i64 (a9 - 1)) : Int).toNat < (((b0_0).set (a9 : Int).toNat (((b0_0).getD ((IntKind.wrap .i64 (a9 - 1)) : Int).toNat ((0 : Int), ((0 : Int), ((0 : Int), ((0 : Int), (ByteArray.empty, ([], ((0 : Nat), ((0 : Int), ()))))))))).1, (((b0_0).getD ((IntKind.wrap .i64 (a9 - 1)) : Int).toNat ((0 : Int), ((0 : Int), ((0 : Int), ((0 : Int), (ByteArray.empty, ([], ((0 : Nat), ((0 : Int), ()))))))))).2.1, (((b0_0).getD ((IntKind.wrap .i64 (a9 - 1)) : Int).toNat ((0 : Int), ((0 : Int), ((0 : Int), ((0 : Int), (ByteArray.empty, ([], ((0 : Nat), ((0 : Int), ()))))))))).2.2.1, (((b0_0).getD ((IntKind.wrap .i64 (a9 - 1)) : Int).toNat ((0 : Int), ((0 : Int), ((0 : Int), ((0 : Int), (ByteArray.empty, ([], ((0 : Nat), ((0 : Int), ()))))))))).2.2.2.1, (((b0_0).getD ((IntKind.wrap .i64 (a9 - 1)) : Int).toNat ((0 : Int), ((0 : Int), ((0 : Int), ((0 : Int), (ByteArray.empty, ([], ((0 : Nat), ((0 : Int), ()))))))))).2.2.2.2.1, (((b0_0).getD ((IntKind.wrap .i64 (a9 - 1)) : Int).toNat ((0 : Int), ((0 : Int), ((0 : Int), ((0 : Int), (ByteArray.empty, ([], ((0 : Nat), ((0 : Int), ()))))))))).2.2.2.2.2.1, (((b0_0).getD ((IntKind.wrap .i64 (a9 - 1)) : Int).toNat ((0 : Int), ((0 : Int), ((0 : Int), ((0 : Int), (ByteArray.empty, ([], ((0 : Nat), ((0 : Int), ()))))))))).2.2.2.2.2.2.1, (((b0_0).getD ((IntKind.wrap .i64 (a9 - 1)) : Int).toNat ((0 : Int), ((0 : Int), ((0 : Int), ((0 : Int), (ByteArray.empty, ([], ((0 : Nat), ((0 : Int), ()))))))))).2.2.2.2.2.2.2.1, ())))))))))).length)) then (some (.inl (((), a1, a2, (), a8, (IntKind.wrap .i64 (a9 - 1)), ()), ((((((b0_0).set (a9 : Int).toNat (((b0_0).getD ((IntKind.wrap .i64 (a9 - 1)) : Int).toNat ((0 : Int), ((0 : Int), ((0 : Int), ((0 : Int), (ByteArray.empty, ([], ((0 : Nat), ((0 : Int), ()))))))))).1, (((b0_0).getD ((IntKind.wrap .i64 (a9 - 1)) : Int).toNat ((0 : Int), ((0 : Int), ((0 : Int), ((0 : Int), (ByteArray.empty, ([], ((0 : Nat), ((0 : Int), ()))))))))).2.1, (((b0_0).getD ((IntKind.wrap .i64 (a9 - 1)) : Int).toNat ((0 : Int), ((0 : Int), ((0 : Int), ((0 : Int), (ByteArray.empty, ([], ((0 : Nat), ((0 : Int), ()))))))))).2.2.1, (((b0_0).getD ((IntKind.wrap .i64 (a9 - 1)) : Int).toNat ((0 : Int), ((0 : Int), ((0 : Int), ((0 : Int), (ByteArray.empty, ([], ((0 : Nat), ((0 : Int), ()))))))))).2.2.2.1, (((b0_0).getD ((IntKind.wrap .i64 (a9 - 1)) : Int).toNat ((0 : Int), ((0 : Int), ((0 : Int), ((0 : Int), (ByteArray.empty, ([], ((0 : Nat), ((0 : Int), ()))))))))).2.2.2.2.1, (((b0_0).getD ((IntKind.wrap .i64 (a9 - 1)) : Int).toNat ((0 : Int), ((0 : Int), ((0 : Int), ((0 : Int), (ByteArray.empty, ([], ((0 : Nat), ((0 : Int), ()))))))))).2.2.2.2.2.1, (((b0_0).getD ((IntKind.wrap .i64 (a9 - 1)) : Int).toNat ((0 : Int), ((0 : Int), ((0 : Int), ((0 : Int), (ByteArray.empty, ([], ((0 : Nat), ((0 : Int), ()))))))))).2.2.2.2.2.2.1, (((b0_0).getD ((IntKind.wrap .i64 (a9 - 1)) : Int).toNat ((0 : Int), ((0 : Int), ((0 : Int), ((0 : Int), (ByteArray.empty, ([], ((0 : Nat), ((0 : Int), ()))))))))).2.2.2.2.2.2.2.1, ())))))))))).set ((IntKind.wrap .i64 (a9 - 1)) : Int).toNat (((b0_0).getD (a9 : Int).toNat ((0 : Int), ((0 : Int), ((0 : Int), ((0 : Int), (ByteArray.empty, ([], ((0 : Nat), ((0 : Int), ()))))))))).1, (((b0_0).getD (a9 : Int).toNat ((0 : Int), ((0 : Int), ((0 : Int), ((0 : Int), (ByteArray.empty, ([], ((0 : Nat), ((0 : Int), ()))))))))).2.1, (((b0_0).getD (a9 : Int).toNat ((0 : Int), ((0 : Int), ((0 : Int), ((0 : Int), (ByteArray.empty, ([], ((0 : Nat), ((0 : Int), ()))))))))).2.2.1, (((b0_0).getD (a9 : Int).toNat ((0 : Int), ((0 : Int), ((0 : Int), ((0 : Int), (ByteArray.empty, ([], ((0 : Nat), ((0 : Int), ()))))))))).2.2.2.1, (((b0_0).getD (a9 : Int).toNat ((0 : Int), ((0 : Int), ((0 : Int), ((0 : Int), (ByteArray.empty, ([], ((0 : Nat), ((0 : Int), ()))))))))).2.2.2.2.1, (((b0_0).getD (a9 : Int).toNat ((0 : Int), ((0 : Int), ((0 : Int), ((0 : Int), (ByteArray.empty, ([], ((0 : Nat), ((0 : Int), ()))))))))).2.2.2.2.2.1, (((b0_0).getD (a9 : Int).toNat ((0 : Int), ((0 : Int), ((0 : Int), ((0 : Int), (ByteArray.empty, ([], ((0 : Nat), ((0 : Int), ()))))))))).2.2.2.2.2.2.1, (((b0_0).getD (a9 : Int).toNat ((0 : Int), ((0 : Int), ((0 : Int), ((0 : Int), (ByteArray.empty, ([], ((0 : Nat), ((0 : Int), ()))))))))).2.2.2.2.2.2.2.1, ()))))))))), ()), ()), ()))) else none) else none) else none) else none) else none) else none) else none) else none) else (some (.inr ((), ((b0_0, ()), ()), ()))))) else none) else none) else none) else none) else (some (.inr ((), ((b0_0, ()), ()), ()))))
noncomputable def L61_4 (a1 : Int) (a2 : Int) (a8 : Int) (a9 : Int) (b0_0 : (List DEv)) : Option (Unit × (((List DEv) × Unit) × Unit) × Unit) := iter (fun x : ((Unit × (Int × (Int × (Unit × (Int × (Int × Unit)))))) × (((List DEv) × Unit) × Unit) × Unit) => T61_4 x.1.2.1 x.1.2.2.1 x.1.2.2.2.2.1 x.1.2.2.2.2.2.1 x.2.1.1.1) 300 (((), a1, a2, (), a8, a9, ()), ((b0_0, ()), ()), ())
noncomputable def k61_4 : Con := ⟨i61_4, o61_4, fun x => L61_4 x.1.2.1 x.1.2.2.1 x.1.2.2.2.2.1 x.1.2.2.2.2.2.1 x.2.1.1.1⟩
theorem e61_4 (x : i61_4.E) : vround Try.prog C61_4 LO61_4 Try.f61.ntmps l61_4 i61_4 o61_4 x = T61_4 x.1.2.1 x.1.2.2.1 x.1.2.2.2.2.1 x.1.2.2.2.2.2.1 x.2.1.1.1 := by kernel_rfl
theorem k61_4_ok : Con.LOK Try.prog Try.f61.ntmps l61_4 k61_4 := Con.LOK.fuel (loop_ok C61_4_ok (noL (by kernel_rfl)) i61_4 o61_4) 300 (funext e61_4)
noncomputable def C61_1 : Tab := []
theorem C61_1_ok : TabOK Try.prog C61_1 := trivial
noncomputable def LO61_1 : Tab := [(4, k61_4)]
noncomputable def i61_1 : Tm := { sl := [(0, .m tDEv 0), (1, .v (.i .i64)), (2, .v (.i .i64)), (3, .fn 33), (8, .v (.i .i64))], bx := [[.r tDEv]], bf := [] }
noncomputable def o61_1 : OT := (.exit 0 { sl := [], bx := [[.r tDEv]], bf := [] })
noncomputable def T61_1 (a1 : Int) (a2 : Int) (a8 : Int) (b0_0 : (List DEv)) : Option (((Unit × (Int × (Int × (Unit × (Int × Unit))))) × (((List DEv) × Unit) × Unit) × Unit) ⊕ (Unit × (((List DEv) × Unit) × Unit) × Unit)) :=
 (bif (decide ((a8 : Int) < a2)) then ((L61_4 a1 a2 a8 a8 b0_0).bind fun y0 => (some (.inl (((), a1, a2, (), (IntKind.wrap .i64 (a8 + 1)), ()), ((y0.2.1.1.1, ()), ()), ())))) else (some (.inr ((), ((b0_0, ()), ()), ()))))
noncomputable def L61_1 (a1 : Int) (a2 : Int) (a8 : Int) (b0_0 : (List DEv)) : Option (Unit × (((List DEv) × Unit) × Unit) × Unit) := iter (fun x : ((Unit × (Int × (Int × (Unit × (Int × Unit))))) × (((List DEv) × Unit) × Unit) × Unit) => T61_1 x.1.2.1 x.1.2.2.1 x.1.2.2.2.2.1 x.2.1.1.1) 300 (((), a1, a2, (), a8, ()), ((b0_0, ()), ()), ())
noncomputable def k61_1 : Con := ⟨i61_1, o61_1, fun x => L61_1 x.1.2.1 x.1.2.2.1 x.1.2.2.2.2.1 x.2.1.1.1⟩
theorem e61_1 (x : i61_1.E) : vround Try.prog C61_1 LO61_1 Try.f61.ntmps l61_1 i61_1 o61_1 x = T61_1 x.1.2.1 x.1.2.2.1 x.1.2.2.2.2.1 x.2.1.1.1 := by kernel_rfl
theorem k61_1_ok : Con.LOK Try.prog Try.f61.ntmps l61_1 k61_1 := Con.LOK.fuel (loop_ok C61_1_ok (loops_of (l := [l61_4]) (by kernel_rfl) (show LoopsOK Try.prog Try.f61.ntmps [l61_4] LO61_1 from ⟨k61_4_ok, trivial⟩)) i61_1 o61_1) 300 (funext e61_1)
noncomputable def C61 : Tab := []
theorem C61_ok : TabOK Try.prog C61 := trivial
noncomputable def LO61 : Tab := [(1, k61_1)]
noncomputable def i61 : Tm := { sl := [(0, .m tDEv 0), (1, .v (.i .i64)), (2, .v (.i .i64)), (3, .fn 33)], bx := [[.r tDEv]], bf := [] }
noncomputable def o61 : OT := (.ret { sl := [], bx := [[.r tDEv]], bf := [] })
noncomputable def F61 (a1 : Int) (a2 : Int) (b0_0 : (List DEv)) : Option (Unit × (((List DEv) × Unit) × Unit) × Unit) :=
 ((L61_1 a1 a2 (IntKind.wrap .i64 (a1 + 1)) b0_0).bind fun y0 => (some ((), ((y0.2.1.1.1, ()), ()), ())))
noncomputable def c61 : Con := ⟨i61, o61, fun x => F61 x.1.2.1 x.1.2.2.1 x.2.1.1.1⟩
theorem e61 (x : i61.E) : vfn Try.prog C61 LO61 Try.f61 b61 i61 o61 x = c61.F x := by kernel_rfl
theorem c61_ok : Con.OK Try.prog 61 c61 := (fn_ok C61_ok (fun _ => rfl) Try.func61 body61 (loops_of (l := [l61_1]) (by kernel_rfl) (show LoopsOK Try.prog Try.f61.ntmps [l61_1] LO61 from ⟨k61_1_ok, trivial⟩)) i61 o61).congr fun x => (e61 x).symm
noncomputable def l49_2 : Code := (.block 1 (.seq (.region 2 (regOf Try.f49 2) false) (.seq (.seq (.region 3 (regOf Try.f49 3) false) (.cond (.tmp 25) (.seq (.region 4 (regOf Try.f49 4) false) .ret) .skip)) (.seq (.seq (.region 5 (regOf Try.f49 5) false) (.cond (.tmp 32) (.seq (.region 6 (regOf Try.f49 6) false) .ret) .skip)) (.seq (.seq (.region 7 (regOf Try.f49 7) false) (.cond (.tmp 39) (.seq (.region 8 (regOf Try.f49 8) false) (.region 9 (regOf Try.f49 9) false)) .skip)) (.seq (.region 10 (regOf Try.f49 10) false) (.seq (.seq (.region 11 (regOf Try.f49 11) false) (.cond (.tmp 56) (.seq (.region 12 (regOf Try.f49 12) false) (.seq (.region 13 (regOf Try.f49 13) false) (.region 14 (regOf Try.f49 14) false))) .skip)) (.seq (.seq (.region 15 (regOf Try.f49 15) false) (.cond (.tmp 75) (.seq (.region 16 (regOf Try.f49 16) false) (.cond (.tmp 80) .ret .skip)) .skip)) (.seq (.seq (.region 17 (regOf Try.f49 17) true) (.cond (.tmp 97) (.seq (.region 18 (regOf Try.f49 18) false) (.seq (.region 19 (regOf Try.f49 19) false) (.exit 1))) .skip)) (.seq (.region 20 (regOf Try.f49 20) false) (.seq (.region 21 (regOf Try.f49 21) false) (.seq (.region 22 (regOf Try.f49 22) false) (.seq (.region 23 (regOf Try.f49 23) false) (.seq (.region 24 (regOf Try.f49 24) false) (.cond (.tmp 125) (.seq (.region 25 (regOf Try.f49 25) false) (.seq (.region 26 (regOf Try.f49 26) false) (.region 27 (regOf Try.f49 27) false))) (.seq (.region 28 (regOf Try.f49 28) false) (.seq (.region 29 (regOf Try.f49 29) false) (.region 30 (regOf Try.f49 30) false))))))))))))))))))
noncomputable def b49 : Code := (.seq (.region 0 (regOf Try.f49 0) false) (.seq (.region 1 (regOf Try.f49 1) false) (.block 0 (.loop l49_2))))
theorem body49 : Try.f49.body = some b49 := by kernel_rfl
noncomputable def C49_2 : Tab := [(61, c61)]
theorem C49_2_ok : TabOK Try.prog C49_2 := ⟨c61_ok, trivial⟩
noncomputable def LO49_2 : Tab := []
noncomputable def i49_2 : Tm := { sl := [(0, .m tDEv 0), (1, .v (.i .i64)), (2, .v (.i .i64)), (3, .v (.i .i64)), (4, .fn 33), (10, .v .b), (11, .v .b)], bx := [[.r tDEv]], bf := [] }
noncomputable def o49_2 : OT := (.ret { sl := [], bx := [[.r tDEv]], bf := [] })
noncomputable def T49_2 (a1 : Int) (a2 : Int) (a3 : Int) (a10 : Bool) (a11 : Bool) (b0_0 : (List DEv)) : Option (((Unit × (Int × (Int × (Int × (Unit × (Bool × (Bool × Unit))))))) × (((List DEv) × Unit) × Unit) × Unit) ⊕ (Unit × (((List DEv) × Unit) × Unit) × Unit)) :=
 (bif (decide (((IntKind.wrap .i64 (a2 - a1)) : Int) ≤ 12)) then ((F61 a1 a2 b0_0).bind fun y0 => (some (.inr ((), ((y0.2.1.1.1, ()), ()), ())))) else (bif ((a3 : Int) == 0) then none else (bif (!a10) then none else none)))
noncomputable def L49_2 (a1 : Int) (a2 : Int) (a3 : Int) (a10 : Bool) (a11 : Bool) (b0_0 : (List DEv)) : Option (Unit × (((List DEv) × Unit) × Unit) × Unit) := iter (fun x : ((Unit × (Int × (Int × (Int × (Unit × (Bool × (Bool × Unit))))))) × (((List DEv) × Unit) × Unit) × Unit) => T49_2 x.1.2.1 x.1.2.2.1 x.1.2.2.2.1 x.1.2.2.2.2.2.1 x.1.2.2.2.2.2.2.1 x.2.1.1.1) 300 (((), a1, a2, a3, (), a10, a11, ()), ((b0_0, ()), ()), ())
noncomputable def k49_2 : Con := ⟨i49_2, o49_2, fun x => L49_2 x.1.2.1 x.1.2.2.1 x.1.2.2.2.1 x.1.2.2.2.2.2.1 x.1.2.2.2.2.2.2.1 x.2.1.1.1⟩
theorem e49_2 (x : i49_2.E) : vround Try.prog C49_2 LO49_2 Try.f49.ntmps l49_2 i49_2 o49_2 x = T49_2 x.1.2.1 x.1.2.2.1 x.1.2.2.2.1 x.1.2.2.2.2.2.1 x.1.2.2.2.2.2.2.1 x.2.1.1.1 := by kernel_rfl
theorem k49_2_ok : Con.LOK Try.prog Try.f49.ntmps l49_2 k49_2 := Con.LOK.fuel (loop_ok C49_2_ok (noL (by kernel_rfl)) i49_2 o49_2) 300 (funext e49_2)
noncomputable def C49 : Tab := [(61, c61)]
theorem C49_ok : TabOK Try.prog C49 := ⟨c61_ok, trivial⟩
noncomputable def LO49 : Tab := [(2, k49_2)]
noncomputable def i49 : Tm := { sl := [(0, .m tDEv 0), (1, .v (.i .i64)), (2, .v (.i .i64)), (3, .v (.i .i64)), (4, .fn 33)], bx := [[.r tDEv]], bf := [] }
noncomputable def o49 : OT := (.ret { sl := [], bx := [[.r tDEv]], bf := [] })
noncomputable def F49 (a1 : Int) (a2 : Int) (a3 : Int) (b0_0 : (List DEv)) : Option (Unit × (((List DEv) × Unit) × Unit) × Unit) :=
 ((L49_2 a1 a2 a3 true true b0_0).bind fun y0 => (some ((), ((y0.2.1.1.1, ()), ()), ())))
noncomputable def c49 : Con := ⟨i49, o49, fun x => F49 x.1.2.1 x.1.2.2.1 x.1.2.2.2.1 x.2.1.1.1⟩
theorem e49 (x : i49.E) : vfn Try.prog C49 LO49 Try.f49 b49 i49 o49 x = c49.F x := by kernel_rfl
theorem c49_ok : Con.OK Try.prog 49 c49 := (fn_ok C49_ok (fun _ => rfl) Try.func49 body49 (loops_of (l := [l49_2]) (by kernel_rfl) (show LoopsOK Try.prog Try.f49.ntmps [l49_2] LO49 from ⟨k49_2_ok, trivial⟩)) i49 o49).congr fun x => (e49 x).symm
noncomputable def b32 : Code := (.seq (.region 0 (regOf Try.f32 0) false) (.region 1 (regOf Try.f32 1) false))
theorem body32 : Try.f32.body = some b32 := by kernel_rfl
noncomputable def C32 : Tab := [(49, c49), (50, c50)]
theorem C32_ok : TabOK Try.prog C32 := ⟨c49_ok, c50_ok, trivial⟩
noncomputable def LO32 : Tab := []
noncomputable def i32 : Tm := { sl := [(0, .m tDEv 0), (1, .fn 33)], bx := [[.r tDEv]], bf := [] }
noncomputable def o32 : OT := (.ret { sl := [], bx := [[.r tDEv]], bf := [] })
noncomputable def F32 (b0_0 : (List DEv)) : Option (Unit × (((List DEv) × Unit) × Unit) × Unit) :=
 ((F50 (IntKind.wrap .u64 (((b0_0).length : Nat) : Int))).bind fun y0 => ((F49 0 (((b0_0).length : Nat) : Int) y0.1.1 b0_0).bind fun y1 => (some ((), ((y1.2.1.1.1, ()), ()), ()))))
noncomputable def c32 : Con := ⟨i32, o32, fun x => F32 x.2.1.1.1⟩
theorem e32 (x : i32.E) : vfn Try.prog C32 LO32 Try.f32 b32 i32 o32 x = c32.F x := by kernel_rfl
theorem c32_ok : Con.OK Try.prog 32 c32 := (fn_ok C32_ok (fun _ => rfl) Try.func32 body32 (noL (by kernel_rfl)) i32 o32).congr fun x => (e32 x).symm
end Go.IM.V
namespace Go.IM.V
open Go Go.IM Go.Proofs
abbrev A1 : Type := (List (List DEv))
abbrev A2 : Type := (List (List (List Int)))
abbrev A3 : Type := (List (Int × ((List Int) × (Int × Unit))))
abbrev A4 : Type := (List DEv)
abbrev zE : DEv := ((0 : Int), ((0 : Int), ((0 : Int), ((0 : Int), (ByteArray.empty, ([], ((0 : Nat), ((0 : Int), ()))))))))
abbrev TUU : Type := (Unit × (Unit × (Unit × (Unit × (Unit × (Unit × (Unit × (Unit × (Unit × (Unit × (Unit × (Unit × (Unit × (Unit × (Unit × (Unit × (Unit × (Unit × (Unit × (Unit × (Unit × (Unit × (Unit × (Unit × (Unit × (Unit × (Unit × (Unit × (Unit × (Unit × (Unit × (Unit × (Unit × (Unit × (Unit × (Unit × (Unit × (Unit × (Unit × (Unit × (Unit × (Unit × (Unit × (Unit × (Unit × (Unit × (Unit × (Unit × (Unit × (Unit × (Unit × (Unit × (Unit × (Unit × (Unit × (Unit × (Unit × (Unit × (Unit × (Unit × (Unit × (Unit × (Unit × (Unit × Unit))))))))))))))))))))))))))))))))))))))))))))))))))))))))))))))))
abbrev UU : TUU := ((), (), (), (), (), (), (), (), (), (), (), (), (), (), (), (), (), (), (), (), (), (), (), (), (), (), (), (), (), (), (), (), (), (), (), (), (), (), (), (), (), (), (), (), (), (), (), (), (), (), (), (), (), (), (), (), (), (), (), (), (), (), (), (), ())
abbrev PNN : List Pt := [.v (.l (.i .u64)), .v (.i .u64), .sg 64 (.p (.i .i64) (.p (.l (.i .u64)) (.p (.i .u64) .u))), .v (.i .u64), .v (.i .u64), .ns]
abbrev TNN : Type := ((List Int) × (Int × (A3 × (Int × (Int × (Unit × Unit))))))
abbrev PXc : List Pt := [.v (.i .i64), .sg 64 (.l tDEv), .sg 64 (.l (.l (.i .u64))), .p 1 0, .p 2 0, .p 3 0, .nl, .nl, .nl, .nl, .nl, .nl, .nl, .nl, .nl, .nl, .nl, .nl, .nl, .nl, .nl, .nl, .nl, .nl, .nl, .nl, .nl, .nl, .nl, .nl, .nl, .nl, .nl, .nl, .nl, .nl, .nl, .nl, .nl, .nl, .nl, .nl, .nl, .nl, .nl, .nl, .nl, .nl, .nl, .nl, .nl, .nl, .nl, .nl, .nl, .nl, .nl, .nl, .nl, .nl, .nl, .nl, .nl, .nl, .nl, .nl, .nl]
abbrev TX : Type := (Int × (A1 × (A2 × TUU)))
noncomputable def l55_3 : Code := (.seq (.region 3 (regOf Try.f55 3) false) (.seq (.cond (.tmp 12) .skip (.exit 0)) (.seq (.block 1 (.seq (.region 4 (regOf Try.f55 4) false) (.region 5 (regOf Try.f55 5) false))) (.region 6 (regOf Try.f55 6) false))))
noncomputable def b55 : Code := (.seq (.region 0 (regOf Try.f55 0) false) (.seq (.region 1 (regOf Try.f55 1) false) (.seq (.seq (.region 2 (regOf Try.f55 2) false) (.block 0 (.loop l55_3))) (.seq (.region 7 (regOf Try.f55 7) false) .ret))))
theorem body55 : Try.f55.body = some b55 := by kernel_rfl
noncomputable def C55_3 : Tab := [(900007, cHot)]
theorem C55_3_ok : TabOK Try.prog C55_3 := ⟨cHot_ok, trivial⟩
noncomputable def LO55_3 : Tab := []
noncomputable def i55_3 : Tm := { sl := [(3, .p 0 0), (10, .v (.i .i64)), (11, .v (.i .i64))], bx := [[.mv 1, .sg 64 .b, .sg 64 .b, .v (.l (.i .u64)), .v (.i .u64), .v (.i .i64), .v (.i .u64)], [.mx 0 []]], bf := [] }
noncomputable def o55_3 : OT := (.exit 0 { sl := [], bx := [[.mv 1, .sg 64 .b, .sg 64 .b, .v (.l (.i .u64)), .v (.i .u64), .v (.i .i64), .v (.i .u64)], [.mx 0 []]], bf := [] })
noncomputable def T55_3 (a10 : Int) (a11 : Int) (b0_1 : (List Bool)) (b0_2 : (List Bool)) (b0_3 : (List Int)) (b0_4 : Int) (b0_5 : Int) (b0_6 : Int) : Option (((Unit × (Int × (Int × Unit))) × ((Unit × ((List Bool) × ((List Bool) × ((List Int) × (Int × (Int × (Int × Unit))))))) × ((Unit × Unit) × Unit)) × Unit) ⊕ (Unit × ((Unit × ((List Bool) × ((List Bool) × ((List Int) × (Int × (Int × (Int × Unit))))))) × ((Unit × Unit) × Unit)) × Unit)) :=
 (bif (decide ((a11 : Int) < a10)) then (bif (decide (0 ≤ (a11 : Int) ∧ (a11 : Int) < ((64 : Nat) : Int))) then (bif (decide ((a11 : Int).toNat < 64)) then (some (.inl (((), a10, (IntKind.wrap .i64 (a11 + 1)), ()), (((), ((b0_1).set (a11 : Int).toNat true), b0_2, b0_3, b0_4, b0_5, b0_6, ()), ((), ()), ()), ()))) else none) else none) else (some (.inr ((), (((), b0_1, b0_2, b0_3, b0_4, b0_5, b0_6, ()), ((), ()), ()), ()))))
noncomputable def L55_3 (a10 : Int) (a11 : Int) (b0_1 : (List Bool)) (b0_2 : (List Bool)) (b0_3 : (List Int)) (b0_4 : Int) (b0_5 : Int) (b0_6 : Int) : Option (Unit × ((Unit × ((List Bool) × ((List Bool) × ((List Int) × (Int × (Int × (Int × Unit))))))) × ((Unit × Unit) × Unit)) × Unit) := iter (fun x : ((Unit × (Int × (Int × Unit))) × ((Unit × ((List Bool) × ((List Bool) × ((List Int) × (Int × (Int × (Int × Unit))))))) × ((Unit × Unit) × Unit)) × Unit) => T55_3 x.1.2.1 x.1.2.2.1 x.2.1.1.2.1 x.2.1.1.2.2.1 x.2.1.1.2.2.2.1 x.2.1.1.2.2.2.2.1 x.2.1.1.2.2.2.2.2.1 x.2.1.1.2.2.2.2.2.2.1) 300 (((), a10, a11, ()), (((), b0_1, b0_2, b0_3, b0_4, b0_5, b0_6, ()), ((), ()), ()), ())
noncomputable def k55_3 : Con := ⟨i55_3, o55_3, fun x => L55_3 x.1.2.1 x.1.2.2.1 x.2.1.1.2.1 x.2.1.1.2.2.1 x.2.1.1.2.2.2.1 x.2.1.1.2.2.2.2.1 x.2.1.1.2.2.2.2.2.1 x.2.1.1.2.2.2.2.2.2.1⟩
theorem e55_3 (x : i55_3.E) : vround Try.prog C55_3 LO55_3 Try.f55.ntmps l55_3 i55_3 o55_3 x = T55_3 x.1.2.1 x.1.2.2.1 x.2.1.1.2.1 x.2.1.1.2.2.1 x.2.1.1.2.2.2.1 x.2.1.1.2.2.2.2.1 x.2.1.1.2.2.2.2.2.1 x.2.1.1.2.2.2.2.2.2.1 := by kernel_rfl
theorem k55_3_ok : Con.LOK Try.prog Try.f55.ntmps l55_3 k55_3 := Con.LOK.fuel (loop_ok C55_3_ok (noL (by kernel_rfl)) i55_3 o55_3) 300 (funext e55_3)
noncomputable def C55 : Tab := [(900007, cHot)]
theorem C55_ok : TabOK Try.prog C55 := ⟨cHot_ok, trivial⟩
noncomputable def LO55 : Tab := [(3, k55_3)]
noncomputable def i55 : Tm := { sl := [(0, .v (.i .i64))], bx := [], bf := [] }
noncomputable def o55 : OT := (.ret { sl := [(0, .p 0 0)], bx := [[.mv 1, .sg 64 .b, .sg 64 .b, .v (.l (.i .u64)), .v (.i .u64), .v (.i .i64), .v (.i .u64)], [.mx 0 []]], bf := [] })
noncomputable def F55 (a0 : Int) : Option ((Unit × Unit) × ((Unit × ((List Bool) × ((List Bool) × ((List Int) × (Int × (Int × (Int × Unit))))))) × ((Unit × Unit) × Unit)) × Unit) :=
 ((L55_3 (if (64 : Int) < (if (0 : Int) > a0 then 0 else a0) then 64 else (if (0 : Int) > a0 then 0 else a0)) 0 (List.replicate 64 (false : Bool)) (List.replicate 64 (false : Bool)) ([] : List Int) 0 0 14695981039346656037).bind fun y0 => (some (((), ()), (((), y0.2.1.1.2.1, y0.2.1.1.2.2.1, y0.2.1.1.2.2.2.1, y0.2.1.1.2.2.2.2.1, y0.2.1.1.2.2.2.2.2.1, y0.2.1.1.2.2.2.2.2.2.1, ()), ((), ()), ()), ())))
noncomputable def c55 : Con := ⟨i55, o55, fun x => F55 x.1.1⟩
theorem e55 (x : i55.E) : vfn Try.prog C55 LO55 Try.f55 b55 i55 o55 x = c55.F x := by kernel_rfl
theorem c55_ok : Con.OK Try.prog 55 c55 := (fn_ok C55_ok (fun _ => rfl) Try.func55 body55 (loops_of (l := [l55_3]) (by kernel_rfl) (show LoopsOK Try.prog Try.f55.ntmps [l55_3] LO55 from ⟨k55_3_ok, trivial⟩)) i55 o55).congr fun x => (e55 x).symm
noncomputable def l56_12 : Code := (.seq (.region 12 (regOf Try.f56 12) false) (.seq (.cond (.tmp 61) .skip (.exit 1)) (.seq (.block 2 (.seq (.region 13 (regOf Try.f56 13) false) (.region 14 (regOf Try.f56 14) false))) (.region 15 (regOf Try.f56 15) false))))
noncomputable def b56 : Code := (.seq (.region 0 (regOf Try.f56 0) false) (.seq (.seq (.region 1 (regOf Try.f56 1) false) (.block 0 (.seq (.region 2 (regOf Try.f56 2) false) (.cond (.tmp 12) (.seq (.region 3 (regOf Try.f56 3) false) .ret) (.seq (.region 4 (regOf Try.f56 4) false) (.cond (.tmp 15) (.seq (.region 5 (regOf Try.f56 5) false) .ret) (.seq (.region 6 (regOf Try.f56 6) true) (.cond (.tmp 19) (.seq (.region 7 (regOf Try.f56 7) false) .ret) (.seq (.region 8 (regOf Try.f56 8) true) (.cond (.tmp 28) (.seq (.region 9 (regOf Try.f56 9) false) .ret) .skip)))))))))) (.seq (.region 10 (regOf Try.f56 10) true) (.seq (.seq (.region 11 (regOf Try.f56 11) false) (.block 1 (.loop l56_12))) (.seq (.seq (.region 16 (regOf Try.f56 16) false) (.block 3 (.seq (.region 17 (regOf Try.f56 17) false) (.cond (.tmp 78) (.region 18 (regOf Try.f56 18) true) (.seq (.region 19 (regOf Try.f56 19) false) (.cond (.tmp 90) (.region 20 (regOf Try.f56 20) true) (.seq (.region 21 (regOf Try.f56 21) false) (.cond (.tmp 102) (.seq (.region 22 (regOf Try.f56 22) true) (.seq (.region 23 (regOf Try.f56 23) false) (.seq (.seq (.region 24 (regOf Try.f56 24) false) (.cond (.tmp 116) (.region 25 (regOf Try.f56 25) false) .skip)) (.region 26 (regOf Try.f56 26) true)))) (.seq (.region 27 (regOf Try.f56 27) false) (.cond (.tmp 130) (.region 28 (regOf Try.f56 28) true) (.seq (.region 29 (regOf Try.f56 29) false) (.cond (.tmp 138) (.region 30 (regOf Try.f56 30) true) (.seq (.region 31 (regOf Try.f56 31) false) (.cond (.tmp 146) (.region 32 (regOf Try.f56 32) true) .skip)))))))))))))) (.seq (.region 33 (regOf Try.f56 33) false) .ret))))))
theorem body56 : Try.f56.body = some b56 := by kernel_rfl
noncomputable def C56_12 : Tab := []
theorem C56_12_ok : TabOK Try.prog C56_12 := trivial
noncomputable def LO56_12 : Tab := []
noncomputable def i56_12 : Tm := { sl := [(0, .p 0 0), (3, .p 1 0), (58, .v (.l (.i .u8))), (59, .v (.i .i64)), (60, .v (.i .i64))], bx := [[.mv 2, .sg 64 .b, .sg 64 .b, .v (.l (.i .u64)), .v (.i .u64), .v (.i .i64), .v (.i .u64)], [.v (.i .i64), .v (.i .u64), .v (.i .u64), .v (.i .u8), .v .s, .v (.l (.i .u8)), .v (.f .f64), .v (.i .i64)], [.mx 0 []]], bf := [] }
noncomputable def o56_12 : OT := (.exit 1 { sl := [], bx := [[.mv 2, .sg 64 .b, .sg 64 .b, .v (.l (.i .u64)), .v (.i .u64), .v (.i .i64), .v (.i .u64)], [.v (.i .i64), .v (.i .u64), .v (.i .u64), .v (.i .u8), .v .s, .v (.l (.i .u8)), .v (.f .f64), .v (.i .i64)], [.mx 0 []]], bf := [] })
noncomputable def T56_12 (a58 : (List Int)) (a59 : Int) (a60 : Int) (b0_1 : (List Bool)) (b0_2 : (List Bool)) (b0_3 : (List Int)) (b0_4 : Int) (b0_5 : Int) (b0_6 : Int) (b1_0 : Int) (b1_1 : Int) (b1_2 : Int) (b1_3 : Int) (b1_4 : ByteArray) (b1_5 : (List Int)) (b1_6 : Nat) (b1_7 : Int) : Option (((Unit × (Unit × ((List Int) × (Int × (Int × Unit))))) × ((Unit × ((List Bool) × ((List Bool) × ((List Int) × (Int × (Int × (Int × Unit))))))) × (DEv × ((Unit × Unit) × Unit))) × Unit) ⊕ (Unit × ((Unit × ((List Bool) × ((List Bool) × ((List Int) × (Int × (Int × (Int × Unit))))))) × (DEv × ((Unit × Unit) × Unit))) × Unit)) :=
 (bif (decide ((a60 : Int) < a59)) then (bif (decide (0 ≤ (a60 : Int) ∧ (a60 : Int) < (((a58).length : Nat) : Int))) then (some (.inl (((), (), a58, a59, (IntKind.wrap .i64 (a60 + 1)), ()), (((), b0_1, b0_2, b0_3, b0_4, b0_5, (IntKind.wrap .u64 ((iXor .u64 b0_6 (IntKind.wrap .u64 ((a58).getD (a60 : Int).toNat (0 : Int)))) * 1099511628211)), ()), (b1_0, b1_1, b1_2, b1_3, b1_4, b1_5, b1_6, b1_7, ()), ((), ()), ()), ()))) else none) else (some (.inr ((), (((), b0_1, b0_2, b0_3, b0_4, b0_5, b0_6, ()), (b1_0, b1_1, b1_2, b1_3, b1_4, b1_5, b1_6, b1_7, ()), ((), ()), ()), ()))))
noncomputable def L56_12 (a58 : (List Int)) (a59 : Int) (a60 : Int) (b0_1 : (List Bool)) (b0_2 : (List Bool)) (b0_3 : (List Int)) (b0_4 : Int) (b0_5 : Int) (b0_6 : Int) (b1_0 : Int) (b1_1 : Int) (b1_2 : Int) (b1_3 : Int) (b1_4 : ByteArray) (b1_5 : (List Int)) (b1_6 : Nat) (b1_7 : Int) : Option (Unit × ((Unit × ((List Bool) × ((List Bool) × ((List Int) × (Int × (Int × (Int × Unit))))))) × (DEv × ((Unit × Unit) × Unit))) × Unit) := iter (fun x : ((Unit × (Unit × ((List Int) × (Int × (Int × Unit))))) × ((Unit × ((List Bool) × ((List Bool) × ((List Int) × (Int × (Int × (Int × Unit))))))) × (DEv × ((Unit × Unit) × Unit))) × Unit) => T56_12 x.1.2.2.1 x.1.2.2.2.1 x.1.2.2.2.2.1 x.2.1.1.2.1 x.2.1.1.2.2.1 x.2.1.1.2.2.2.1 x.2.1.1.2.2.2.2.1 x.2.1.1.2.2.2.2.2.1 x.2.1.1.2.2.2.2.2.2.1 x.2.1.2.1.1 x.2.1.2.1.2.1 x.2.1.2.1.2.2.1 x.2.1.2.1.2.2.2.1 x.2.1.2.1.2.2.2.2.1 x.2.1.2.1.2.2.2.2.2.1 x.2.1.2.1.2.2.2.2.2.2.1 x.2.1.2.1.2.2.2.2.2.2.2.1) 300 (((), (), a58, a59, a60, ()), (((), b0_1, b0_2, b0_3, b0_4, b0_5, b0_6, ()), (b1_0, b1_1, b1_2, b1_3, b1_4, b1_5, b1_6, b1_7, ()), ((), ()), ()), ())
noncomputable def k56_12 : Con := ⟨i56_12, o56_12, fun x => L56_12 x.1.2.2.1 x.1.2.2.2.1 x.1.2.2.2.2.1 x.2.1.1.2.1 x.2.1.1.2.2.1 x.2.1.1.2.2.2.1 x.2.1.1.2.2.2.2.1 x.2.1.1.2.2.2.2.2.1 x.2.1.1.2.2.2.2.2.2.1 x.2.1.2.1.1 x.2.1.2.1.2.1 x.2.1.2.1.2.2.1 x.2.1.2.1.2.2.2.1 x.2.1.2.1.2.2.2.2.1 x.2.1.2.1.2.2.2.2.2.1 x.2.1.2.1.2.2.2.2.2.2.1 x.2.1.2.1.2.2.2.2.2.2.2.1⟩
theorem e56_12 (x : i56_12.E) : vround Try.prog C56_12 LO56_12 Try.f56.ntmps l56_12 i56_12 o56_12 x = T56_12 x.1.2.2.1 x.1.2.2.2.1 x.1.2.2.2.2.1 x.2.1.1.2.1 x.2.1.1.2.2.1 x.2.1.1.2.2.2.1 x.2.1.1.2.2.2.2.1 x.2.1.1.2.2.2.2.2.1 x.2.1.1.2.2.2.2.2.2.1 x.2.1.2.1.1 x.2.1.2.1.2.1 x.2.1.2.1.2.2.1 x.2.1.2.1.2.2.2.1 x.2.1.2.1.2.2.2.2.1 x.2.1.2.1.2.2.2.2.2.1 x.2.1.2.1.2.2.2.2.2.2.1 x.2.1.2.1.2.2.2.2.2.2.2.1 := by kernel_rfl
theorem k56_12_ok : Con.LOK Try.prog Try.f56.ntmps l56_12 k56_12 := Con.LOK.fuel (loop_ok C56_12_ok (noL (by kernel_rfl)) i56_12 o56_12) 300 (funext e56_12)
noncomputable def C56 : Tab := [(12, c12), (18, c18), (31, c31), (34, c34), (35, c35), (54, c54), (77, c77), (78, c78)]
theorem C56_ok : TabOK Try.prog C56 := ⟨c12_ok, c18_ok, c31_ok, c34_ok, c35_ok, c54_ok, c77_ok, c78_ok, trivial⟩
noncomputable def LO56 : Tab := [(12, k56_12)]
noncomputable def i56 : Tm := { sl := [(0, .p 0 0), (1, .v tDEv)], bx := [[.mv 1, .sg 64 .b, .sg 64 .b, .v (.l (.i .u64)), .v (.i .u64), .v (.i .i64), .v (.i .u64)], [.mx 0 []]], bf := [] }
noncomputable def o56 : OT := (.ret { sl := [(0, .v (.i .i64))], bx := [[.mv 1, .sg 64 .b, .sg 64 .b, .v (.l (.i .u64)), .v (.i .u64), .v (.i .i64), .v (.i .u64)], [.mx 0 []]], bf := [] })
noncomputable def F56 (a1 : DEv) (b0_1 : (List Bool)) (b0_2 : (List Bool)) (b0_3 : (List Int)) (b0_4 : Int) (b0_5 : Int) (b0_6 : Int) : Option ((Int × Unit) × ((Unit × ((List Bool) × ((List Bool) × ((List Int) × (Int × (Int × (Int × Unit))))))) × ((Unit × Unit) × Unit)) × Unit) :=
 ((F12 a1).bind fun y0 => (bif ((y0.1.1 : Int) != 0) then (some ((y0.1.1, ()), (((), b0_1, b0_2, b0_3, b0_4, b0_5, b0_6, ()), ((), ()), ()), ())) else ((F35 a1).bind fun y1 => ((F34 (y1.1.1.1, (y1.1.1.2.1, ())) (b0_4, (b0_5, ()))).bind fun y2 => (bif (decide ((y2.1.1 : Int) ≤ 0)) then (some ((10, ()), (((), b0_1, b0_2, b0_3, b0_4, b0_5, b0_6, ()), ((), ()), ()), ())) else ((F31 b0_3 a1.1).bind fun y3 => (bif ((a1.2.1 : Int) != (IntKind.wrap .u64 (y3.1.1 + 1))) then (some ((9, ()), (((), b0_1, b0_2, b0_3, b0_4, b0_5, b0_6, ()), ((), ()), ()), ())) else ((F18 b0_3 a1.1 a1.2.1).bind fun y4 => ((F35 a1).bind fun y5 => ((F54 a1).bind fun y6 => ((L56_12 y6.2.2.1 (((y6.2.2.1).length : Nat) : Int) 0 b0_1 b0_2 y4.1.1 y5.1.1.1 y5.1.1.2.1 b0_6 a1.1 a1.2.1 a1.2.2.1 a1.2.2.2.1 a1.2.2.2.2.1 a1.2.2.2.2.2.1 a1.2.2.2.2.2.2.1 a1.2.2.2.2.2.2.2.1).bind fun y7 => (bif ((y7.2.1.2.1.2.2.2.1 : Int) == 1) then ((F77 y7.2.1.2.1.2.2.2.2.2.1).bind fun y8 => none) else (bif ((y7.2.1.2.1.2.2.2.1 : Int) == 2) then ((F78 y7.2.1.2.1.2.2.2.2.2.2.1).bind fun y9 => none) else (bif ((y7.2.1.2.1.2.2.2.1 : Int) == 3) then none else (bif ((y7.2.1.2.1.2.2.2.1 : Int) == 4) then (some ((0, ()), (((), y7.2.1.1.2.1, y7.2.1.1.2.2.1, y7.2.1.1.2.2.2.1, y7.2.1.1.2.2.2.2.1, y7.2.1.1.2.2.2.2.2.1, y7.2.1.1.2.2.2.2.2.2.1, ()), ((), ()), ()), ())) else (bif ((y7.2.1.2.1.2.2.2.1 : Int) == 5) then (bif (decide (0 ≤ (y7.2.1.2.1.2.2.2.2.2.2.2.1 : Int) ∧ (y7.2.1.2.1.2.2.2.2.2.2.2.1 : Int) < ((64 : Nat) : Int))) then (bif (decide ((y7.2.1.2.1.2.2.2.2.2.2.2.1 : Int).toNat < 64)) then (some ((0, ()), (((), ((y7.2.1.1.2.1).set (y7.2.1.2.1.2.2.2.2.2.2.2.1 : Int).toNat true), y7.2.1.1.2.2.1, y7.2.1.1.2.2.2.1, y7.2.1.1.2.2.2.2.1, y7.2.1.1.2.2.2.2.2.1, y7.2.1.1.2.2.2.2.2.2.1, ()), ((), ()), ()), ())) else none) else none) else (bif ((y7.2.1.2.1.2.2.2.1 : Int) == 6) then (bif (decide (0 ≤ (y7.2.1.2.1.1 : Int) ∧ (y7.2.1.2.1.1 : Int) < ((64 : Nat) : Int))) then (bif (decide ((y7.2.1.2.1.1 : Int).toNat < 64)) then (some ((0, ()), (((), y7.2.1.1.2.1, ((y7.2.1.1.2.2.1).set (y7.2.1.2.1.1 : Int).toNat true), y7.2.1.1.2.2.2.1, y7.2.1.1.2.2.2.2.1, y7.2.1.1.2.2.2.2.2.1, y7.2.1.1.2.2.2.2.2.2.1, ()), ((), ()), ()), ())) else none) else none) else (some ((0, ()), (((), y7.2.1.1.2.1, y7.2.1.1.2.2.1, y7.2.1.1.2.2.2.1, y7.2.1.1.2.2.2.2.1, y7.2.1.1.2.2.2.2.2.1, y7.2.1.1.2.2.2.2.2.2.1, ()), ((), ()), ()), ())))))))))))))))))))
noncomputable def c56 : Con := ⟨i56, o56, fun x => F56 x.1.2.1 x.2.1.1.2.1 x.2.1.1.2.2.1 x.2.1.1.2.2.2.1 x.2.1.1.2.2.2.2.1 x.2.1.1.2.2.2.2.2.1 x.2.1.1.2.2.2.2.2.2.1⟩
theorem e56 (x : i56.E) : vfn Try.prog C56 LO56 Try.f56 b56 i56 o56 x = c56.F x := by kernel_rfl
theorem c56_ok : Con.OK Try.prog 56 c56 := (fn_ok C56_ok (fun _ => rfl) Try.func56 body56 (loops_of (l := [l56_12]) (by kernel_rfl) (show LoopsOK Try.prog Try.f56.ntmps [l56_12] LO56 from ⟨k56_12_ok, trivial⟩)) i56 o56).congr fun x => (e56 x).symm
noncomputable def b41 : Code := (.seq (.region 0 (regOf Try.f41 0) false) (.seq (.region 1 (regOf Try.f41 1) false) .ret))
theorem body41 : Try.f41.body = some b41 := by kernel_rfl
noncomputable def C41 : Tab := []
theorem C41_ok : TabOK Try.prog C41 := trivial
noncomputable def LO41 : Tab := []
noncomputable def i41 : Tm := { sl := [(0, .p 0 0), (1, .v (.i .i64))], bx := [[.mv 1, .sg 64 .b, .sg 64 .b, .v (.l (.i .u64)), .v (.i .u64), .v (.i .i64), .v (.i .u64)], [.mx 0 []]], bf := [] }
noncomputable def o41 : OT := (.ret { sl := [(0, .v .b)], bx := [[.mv 1, .sg 64 .b, .sg 64 .b, .v (.l (.i .u64)), .v (.i .u64), .v (.i .i64), .v (.i .u64)], [.mx 0 []]], bf := [] })
noncomputable def F41 (a1 : Int) (b0_1 : (List Bool)) (b0_2 : (List Bool)) (b0_3 : (List Int)) (b0_4 : Int) (b0_5 : Int) (b0_6 : Int) : Option ((Bool × Unit) × ((Unit × ((List Bool) × ((List Bool) × ((List Int) × (Int × (Int × (Int × Unit))))))) × ((Unit × Unit) × Unit)) × Unit) :=
 (bif (decide ((a1 : Int) ≥ 0)) then (bif (decide ((a1 : Int) < 64)) then (bif (decide (0 ≤ (a1 : Int) ∧ (a1 : Int) < ((64 : Nat) : Int))) then (bif (decide ((a1 : Int).toNat < 64)) then (some ((((b0_1).getD (a1 : Int).toNat false), ()), (((), b0_1, b0_2, b0_3, b0_4, b0_5, b0_6, ()), ((), ()), ()), ())) else none) else none) else (some ((false, ()), (((), b0_1, b0_2, b0_3, b0_4, b0_5, b0_6, ()), ((), ()), ()), ()))) else (some ((false, ()), (((), b0_1, b0_2, b0_3, b0_4, b0_5, b0_6, ()), ((), ()), ()), ())))
noncomputable def c41 : Con := ⟨i41, o41, fun x => F41 x.1.2.1 x.2.1.1.2.1 x.2.1.1.2.2.1 x.2.1.1.2.2.2.1 x.2.1.1.2.2.2.2.1 x.2.1.1.2.2.2.2.2.1 x.2.1.1.2.2.2.2.2.2.1⟩
theorem e41 (x : i41.E) : vfn Try.prog C41 LO41 Try.f41 b41 i41 o41 x = c41.F x := by kernel_rfl
theorem c41_ok : Con.OK Try.prog 41 c41 := (fn_ok C41_ok (fun _ => rfl) Try.func41 body41 (noL (by kernel_rfl)) i41 o41).congr fun x => (e41 x).symm
noncomputable def b42 : Code := (.seq (.region 0 (regOf Try.f42 0) false) (.seq (.region 1 (regOf Try.f42 1) false) .ret))
theorem body42 : Try.f42.body = some b42 := by kernel_rfl
noncomputable def C42 : Tab := []
theorem C42_ok : TabOK Try.prog C42 := trivial
noncomputable def LO42 : Tab := []
noncomputable def i42 : Tm := { sl := [(0, .p 0 0), (1, .v (.i .i64))], bx := [[.mv 1, .sg 64 .b, .sg 64 .b, .v (.l (.i .u64)), .v (.i .u64), .v (.i .i64), .v (.i .u64)], [.mx 0 []]], bf := [] }
noncomputable def o42 : OT := (.ret { sl := [(0, .v .b)], bx := [[.mv 1, .sg 64 .b, .sg 64 .b, .v (.l (.i .u64)), .v (.i .u64), .v (.i .i64), .v (.i .u64)], [.mx 0 []]], bf := [] })
noncomputable def F42 (a1 : Int) (b0_1 : (List Bool)) (b0_2 : (List Bool)) (b0_3 : (List Int)) (b0_4 : Int) (b0_5 : Int) (b0_6 : Int) : Option ((Bool × Unit) × ((Unit × ((List Bool) × ((List Bool) × ((List Int) × (Int × (Int × (Int × Unit))))))) × ((Unit × Unit) × Unit)) × Unit) :=
 (bif (decide ((a1 : Int) ≥ 0)) then (bif (decide ((a1 : Int) < 64)) then (bif (decide (0 ≤ (a1 : Int) ∧ (a1 : Int) < ((64 : Nat) : Int))) then (bif (decide ((a1 : Int).toNat < 64)) then (some ((((b0_2).getD (a1 : Int).toNat false), ()), (((), b0_1, b0_2, b0_3, b0_4, b0_5, b0_6, ()), ((), ()), ()), ())) else none) else none) else (some ((false, ()), (((), b0_1, b0_2, b0_3, b0_4, b0_5, b0_6, ()), ((), ()), ()), ()))) else (some ((false, ()), (((), b0_1, b0_2, b0_3, b0_4, b0_5, b0_6, ()), ((), ()), ()), ())))
noncomputable def c42 : Con := ⟨i42, o42, fun x => F42 x.1.2.1 x.2.1.1.2.1 x.2.1.1.2.2.1 x.2.1.1.2.2.2.1 x.2.1.1.2.2.2.2.1 x.2.1.1.2.2.2.2.2.1 x.2.1.1.2.2.2.2.2.2.1⟩
theorem e42 (x : i42.E) : vfn Try.prog C42 LO42 Try.f42 b42 i42 o42 x = c42.F x := by kernel_rfl
theorem c42_ok : Con.OK Try.prog 42 c42 := (fn_ok C42_ok (fun _ => rfl) Try.func42 body42 (noL (by kernel_rfl)) i42 o42).congr fun x => (e42 x).symm
noncomputable def b48 : Code := (.seq (.region 0 (regOf Try.f48 0) false) (.seq (.seq (.region 1 (regOf Try.f48 1) false) (.cond (.tmp 14) .ret .skip)) (.seq (.region 2 (regOf Try.f48 2) true) (.region 3 (regOf Try.f48 3) true))))
theorem body48 : Try.f48.body = some b48 := by kernel_rfl
noncomputable def C48 : Tab := [(46, c46)]
theorem C48_ok : TabOK Try.prog C48 := ⟨c46_ok, trivial⟩
noncomputable def LO48 : Tab := []
noncomputable def i48 : Tm := { sl := [(0, .x), (1, .p 0 0), (2, .v (.p (.i .i64) (.p (.l (.i .u64)) (.p (.i .u64) .u))))], bx := [PNN], bf := [] }
noncomputable def o48 : OT := (.ret { sl := [], bx := [PNN], bf := [] })
noncomputable def F48 (a2 : (Int × ((List Int) × (Int × Unit)))) (b0_0 : (List Int)) (b0_1 : Int) (b0_2 : A3) (b0_3 : Int) (b0_4 : Int) : Option (Unit × (TNN × Unit) × Unit) :=
 (bif (decide ((a2.1 : Int) < 0)) then (some ((), ((b0_0, b0_1, b0_2, b0_3, b0_4, (), ()), ()), ())) else (bif (decide ((a2.1 : Int) ≥ 64)) then (some ((), ((b0_0, b0_1, b0_2, b0_3, b0_4, (), ()), ()), ())) else (bif (decide (0 ≤ (a2.1 : Int) ∧ (a2.1 : Int) < ((64 : Nat) : Int))) then (bif (decide ((a2.1 : Int).toNat < 64)) then ((F46 (((b0_2).getD (a2.1 : Int).toNat ((0 : Int), ([], ((0 : Int), ())))).2.1) a2.2.1).bind fun y0 => (bif (decide ((a2.1 : Int).toNat < 64)) then (bif (decide ((a2.1 : Int).toNat < 64)) then (bif (decide ((a2.1 : Int).toNat < 64)) then (bif (decide ((a2.1 : Int).toNat < 64)) then (some ((), ((b0_0, b0_1, ((((((b0_2).set (a2.1 : Int).toNat (a2.1, (((b0_2).getD (a2.1 : Int).toNat ((0 : Int), ([], ((0 : Int), ())))).2.1, (((b0_2).getD (a2.1 : Int).toNat ((0 : Int), ([], ((0 : Int), ())))).2.2.1, ()))))).set (a2.1 : Int).toNat (((((b0_2).set (a2.1 : Int).toNat (a2.1, (((b0_2).getD (a2.1 : Int).toNat ((0 : Int), ([], ((0 : Int), ())))).2.1, (((b0_2).getD (a2.1 : Int).toNat ((0 : Int), ([], ((0 : Int), ())))).2.2.1, ()))))).getD (a2.1 : Int).toNat ((0 : Int), ([], ((0 : Int), ())))).1, (y0.1.1, (((((b0_2).set (a2.1 : Int).toNat (a2.1, (((b0_2).getD (a2.1 : Int).toNat ((0 : Int), ([], ((0 : Int), ())))).2.1, (((b0_2).getD (a2.1 : Int).toNat ((0 : Int), ([], ((0 : Int), ())))).2.2.1, ()))))).getD (a2.1 : Int).toNat ((0 : Int), ([], ((0 : Int), ())))).2.2.1, ()))))).set (a2.1 : Int).toNat (((((((b0_2).set (a2.1 : Int).toNat (a2.1, (((b0_2).getD (a2.1 : Int).toNat ((0 : Int), ([], ((0 : Int), ())))).2.1, (((b0_2).getD (a2.1 : Int).toNat ((0 : Int), ([], ((0 : Int), ())))).2.2.1, ()))))).set (a2.1 : Int).toNat (((((b0_2).set (a2.1 : Int).toNat (a2.1, (((b0_2).getD (a2.1 : Int).toNat ((0 : Int), ([], ((0 : Int), ())))).2.1, (((b0_2).getD (a2.1 : Int).toNat ((0 : Int), ([], ((0 : Int), ())))).2.2.1, ()))))).getD (a2.1 : Int).toNat ((0 : Int), ([], ((0 : Int), ())))).1, (y0.1.1, (((((b0_2).set (a2.1 : Int).toNat (a2.1, (((b0_2).getD (a2.1 : Int).toNat ((0 : Int), ([], ((0 : Int), ())))).2.1, (((b0_2).getD (a2.1 : Int).toNat ((0 : Int), ([], ((0 : Int), ())))).2.2.1, ()))))).getD (a2.1 : Int).toNat ((0 : Int), ([], ((0 : Int), ())))).2.2.1, ()))))).getD (a2.1 : Int).toNat ((0 : Int), ([], ((0 : Int), ())))).1, (((((((b0_2).set (a2.1 : Int).toNat (a2.1, (((b0_2).getD (a2.1 : Int).toNat ((0 : Int), ([], ((0 : Int), ())))).2.1, (((b0_2).getD (a2.1 : Int).toNat ((0 : Int), ([], ((0 : Int), ())))).2.2.1, ()))))).set (a2.1 : Int).toNat (((((b0_2).set (a2.1 : Int).toNat (a2.1, (((b0_2).getD (a2.1 : Int).toNat ((0 : Int), ([], ((0 : Int), ())))).2.1, (((b0_2).getD (a2.1 : Int).toNat ((0 : Int), ([], ((0 : Int), ())))).2.2.1, ()))))).getD (a2.1 : Int).toNat ((0 : Int), ([], ((0 : Int), ())))).1, (y0.1.1, (((((b0_2).set (a2.1 : Int).toNat (a2.1, (((b0_2).getD (a2.1 : Int).toNat ((0 : Int), ([], ((0 : Int), ())))).2.1, (((b0_2).getD (a2.1 : Int).toNat ((0 : Int), ([], ((0 : Int), ())))).2.2.1, ()))))).getD (a2.1 : Int).toNat ((0 : Int), ([], ((0 : Int), ())))).2.2.1, ()))))).getD (a2.1 : Int).toNat ((0 : Int), ([], ((0 : Int), ())))).2.1, ((if (a2.2.2.1 : Int) > ((b0_2).getD (a2.1 : Int).toNat ((0 : Int), ([], ((0 : Int), ())))).2.2.1 then a2.2.2.1 else ((b0_2).getD (a2.1 : Int).toNat ((0 : Int), ([], ((0 : Int), ())))).2.2.1), ())))), b0_3, b0_4, (), ()), ()), ())) else none) else none) else none) else none)) else none) else none)))
noncomputable def c48 : Con := ⟨i48, o48, fun x => F48 x.1.2.2.1 x.2.1.1.1 x.2.1.1.2.1 x.2.1.1.2.2.1 x.2.1.1.2.2.2.1 x.2.1.1.2.2.2.2.1⟩
theorem e48 (x : i48.E) : vfn Try.prog C48 LO48 Try.f48 b48 i48 o48 x = c48.F x := by kernel_rfl
theorem c48_ok : Con.OK Try.prog 48 c48 := (fn_ok C48_ok (fun _ => rfl) Try.func48 body48 (noL (by kernel_rfl)) i48 o48).congr fun x => (e48 x).symm
noncomputable def l29_3 : Code := (.seq (.region 3 (regOf Try.f29 3) false) (.seq (.cond (.tmp 13) .skip (.exit 0)) (.seq (.block 1 (.seq (.region 4 (regOf Try.f29 4) false) (.seq (.region 5 (regOf Try.f29 5) true) (.cond (.tmp 25) (.region 6 (regOf Try.f29 6) false) .skip)))) (.region 7 (regOf Try.f29 7) false))))
noncomputable def b29 : Code := (.seq (.region 0 (regOf Try.f29 0) false) (.seq (.region 1 (regOf Try.f29 1) false) (.seq (.seq (.region 2 (regOf Try.f29 2) false) (.block 0 (.loop l29_3))) (.seq (.region 8 (regOf Try.f29 8) false) .ret))))
theorem body29 : Try.f29.body = some b29 := by kernel_rfl
noncomputable def C29_3 : Tab := [(31, c31)]
theorem C29_3_ok : TabOK Try.prog C29_3 := ⟨c31_ok, trivial⟩
noncomputable def LO29_3 : Tab := []
noncomputable def i29_3 : Tm := { sl := [(1, .p 0 0), (7, .o 0), (10, .v (.l tDEv)), (11, .v (.i .i64)), (12, .v (.i .i64))], bx := [PNN], bf := [tDEv] }
noncomputable def o29_3 : OT := (.exit 0 { sl := [(7, .o 0)], bx := [PNN], bf := [tDEv] })
noncomputable def T29_3 (a10 : A4) (a11 : Int) (a12 : Int) (b0_0 : (List Int)) (b0_1 : Int) (b0_2 : A3) (b0_3 : Int) (b0_4 : Int) (q0 : A4) : Option (((Unit × (Unit × (A4 × (Int × (Int × Unit))))) × (TNN × Unit) × (A4 × Unit)) ⊕ ((Unit × Unit) × (TNN × Unit) × (A4 × Unit))) :=
 (bif (decide ((a12 : Int) < a11)) then (bif (decide (0 ≤ (a12 : Int) ∧ (a12 : Int) < (((a10).length : Nat) : Int))) then ((F31 b0_0 (((a10).getD (a12 : Int).toNat zE).1)).bind fun y0 => (bif (decide ((((a10).getD (a12 : Int).toNat zE).2.1 : Int) > y0.1.1)) then (bif (decide ((q0).length + ([((a10).getD (a12 : Int).toNat zE)]).length < lim)) then (some (.inl (((), (), a10, a11, (IntKind.wrap .i64 (a12 + 1)), ()), ((b0_0, b0_1, b0_2, b0_3, b0_4, (), ()), ()), ((q0 ++ [((a10).getD (a12 : Int).toNat zE)]), ())))) else none) else (some (.inl (((), (), a10, a11, (IntKind.wrap .i64 (a12 + 1)), ()), ((b0_0, b0_1, b0_2, b0_3, b0_4, (), ()), ()), (q0, ())))))) else none) else (some (.inr (((), ()), ((b0_0, b0_1, b0_2, b0_3, b0_4, (), ()), ()), (q0, ())))))
noncomputable def L29_3 (a10 : A4) (a11 : Int) (a12 : Int) (b0_0 : (List Int)) (b0_1 : Int) (b0_2 : A3) (b0_3 : Int) (b0_4 : Int) (q0 : A4) : Option ((Unit × Unit) × (TNN × Unit) × (A4 × Unit)) := iter (fun x : ((Unit × (Unit × (A4 × (Int × (Int × Unit))))) × (TNN × Unit) × (A4 × Unit)) => T29_3 x.1.2.2.1 x.1.2.2.2.1 x.1.2.2.2.2.1 x.2.1.1.1 x.2.1.1.2.1 x.2.1.1.2.2.1 x.2.1.1.2.2.2.1 x.2.1.1.2.2.2.2.1 x.2.2.1) 300 (((), (), a10, a11, a12, ()), ((b0_0, b0_1, b0_2, b0_3, b0_4, (), ()), ()), (q0, ()))
noncomputable def k29_3 : Con := ⟨i29_3, o29_3, fun x => L29_3 x.1.2.2.1 x.1.2.2.2.1 x.1.2.2.2.2.1 x.2.1.1.1 x.2.1.1.2.1 x.2.1.1.2.2.1 x.2.1.1.2.2.2.1 x.2.1.1.2.2.2.2.1 x.2.2.1⟩
theorem e29_3 (x : i29_3.E) : vround Try.prog C29_3 LO29_3 Try.f29.ntmps l29_3 i29_3 o29_3 x = T29_3 x.1.2.2.1 x.1.2.2.2.1 x.1.2.2.2.2.1 x.2.1.1.1 x.2.1.1.2.1 x.2.1.1.2.2.1 x.2.1.1.2.2.2.1 x.2.1.1.2.2.2.2.1 x.2.2.1 := by kernel_rfl
theorem k29_3_ok : Con.LOK Try.prog Try.f29.ntmps l29_3 k29_3 := Con.LOK.fuel (loop_ok C29_3_ok (noL (by kernel_rfl)) i29_3 o29_3) 300 (funext e29_3)
noncomputable def C29 : Tab := [(31, c31)]
theorem C29_ok : TabOK Try.prog C29 := ⟨c31_ok, trivial⟩
noncomputable def LO29 : Tab := [(3, k29_3)]
noncomputable def i29 : Tm := { sl := [(0, .x), (1, .p 0 0), (2, .v (.l tDEv))], bx := [PNN], bf := [] }
noncomputable def o29 : OT := (.ret { sl := [(0, .v (.l tDEv))], bx := [PNN], bf := [] })
noncomputable def F29 (a2 : A4) (b0_0 : (List Int)) (b0_1 : Int) (b0_2 : A3) (b0_3 : Int) (b0_4 : Int) : Option ((A4 × Unit) × (TNN × Unit) × Unit) :=
 ((L29_3 a2 (((a2).length : Nat) : Int) 0 b0_0 b0_1 b0_2 b0_3 b0_4 ([] : List DEv)).bind fun y0 => (some ((y0.2.2.1, ()), ((y0.2.1.1.1, y0.2.1.1.2.1, y0.2.1.1.2.2.1, y0.2.1.1.2.2.2.1, y0.2.1.1.2.2.2.2.1, (), ()), ()), ())))
noncomputable def c29 : Con := ⟨i29, o29, fun x => F29 x.1.2.2.1 x.2.1.1.1 x.2.1.1.2.1 x.2.1.1.2.2.1 x.2.1.1.2.2.2.1 x.2.1.1.2.2.2.2.1⟩
theorem e29 (x : i29.E) : vfn Try.prog C29 LO29 Try.f29 b29 i29 o29 x = c29.F x := by kernel_rfl
theorem c29_ok : Con.OK Try.prog 29 c29 := (fn_ok C29_ok (fun _ => rfl) Try.func29 body29 (loops_of (l := [l29_3]) (by kernel_rfl) (show LoopsOK Try.prog Try.f29.ntmps [l29_3] LO29 from ⟨k29_3_ok, trivial⟩)) i29 o29).congr fun x => (e29 x).symm
noncomputable def b27c0 : Code := (.seq (.region 0 (regOf Try.f27 0) false) (.seq (.seq (.region 1 (regOf Try.f27 1) false) (.cond (.tmp 14) (.seq (.region 2 (regOf Try.f27 2) false) .ret) .skip)) (.seq (.region 3 (regOf Try.f27 3) false) .ret)))
theorem body27c0 : Try.f27.body = some b27c0 := by kernel_rfl
noncomputable def C27c0 : Tab := []
theorem C27c0_ok : TabOK Try.prog C27c0 := trivial
noncomputable def LO27c0 : Tab := []
noncomputable def i27c0 : Tm := { sl := [(0, .p 0 0), (1, .ki .i64 0)], bx := [PXc, PNN, PNN, PNN], bf := [] }
noncomputable def o27c0 : OT := (.ret { sl := [(0, .p 1 0)], bx := [PXc, PNN, PNN, PNN], bf := [] })
noncomputable def F27c0 (b0_0 : Int) (b0_1 : A1) (b0_2 : A2) (b1_0 : (List Int)) (b1_1 : Int) (b1_2 : A3) (b1_3 : Int) (b1_4 : Int) (b2_0 : (List Int)) (b2_1 : Int) (b2_2 : A3) (b2_3 : Int) (b2_4 : Int) (b3_0 : (List Int)) (b3_1 : Int) (b3_2 : A3) (b3_3 : Int) (b3_4 : Int) : Option ((Unit × Unit) × (TX × (TNN × (TNN × (TNN × Unit)))) × Unit) :=
 (some (((), ()), ((b0_0, b0_1, b0_2, UU), (b1_0, b1_1, b1_2, b1_3, b1_4, (), ()), (b2_0, b2_1, b2_2, b2_3, b2_4, (), ()), (b3_0, b3_1, b3_2, b3_3, b3_4, (), ()), ()), ()))
noncomputable def c27c0 : Con := ⟨i27c0, o27c0, fun x => F27c0 x.2.1.1.1 x.2.1.1.2.1 x.2.1.1.2.2.1 x.2.1.2.1.1 x.2.1.2.1.2.1 x.2.1.2.1.2.2.1 x.2.1.2.1.2.2.2.1 x.2.1.2.1.2.2.2.2.1 x.2.1.2.2.1.1 x.2.1.2.2.1.2.1 x.2.1.2.2.1.2.2.1 x.2.1.2.2.1.2.2.2.1 x.2.1.2.2.1.2.2.2.2.1 x.2.1.2.2.2.1.1 x.2.1.2.2.2.1.2.1 x.2.1.2.2.2.1.2.2.1 x.2.1.2.2.2.1.2.2.2.1 x.2.1.2.2.2.1.2.2.2.2.1⟩
theorem e27c0 (x : i27c0.E) : vfn Try.prog C27c0 LO27c0 Try.f27 b27c0 i27c0 o27c0 x = c27c0.F x := by kernel_rfl
theorem c27c0_ok : Con.OK Try.prog 27 c27c0 := (fn_ok C27c0_ok (fun _ => rfl) Try.func27 body27c0 (noL (by kernel_rfl)) i27c0 o27c0).congr fun x => (e27c0 x).symm
noncomputable def b26c0 : Code := (.seq (.region 0 (regOf Try.f26 0) false) (.region 1 (regOf Try.f26 1) true))
theorem body26c0 : Try.f26.body = some b26c0 := by kernel_rfl
noncomputable def C26c0 : Tab := [(48, c48)]
theorem C26c0_ok : TabOK Try.prog C26c0 := ⟨c48_ok, trivial⟩
noncomputable def LO26c0 : Tab := []
noncomputable def i26c0 : Tm := { sl := [(0, .p 0 0), (1, .ki .i64 0)], bx := [PXc, PNN, PNN, PNN], bf := [] }
noncomputable def o26c0 : OT := (.ret { sl := [], bx := [PXc, PNN, PNN, PNN], bf := [] })
noncomputable def F26c0 (b0_0 : Int) (b0_1 : A1) (b0_2 : A2) (b1_0 : (List Int)) (b1_1 : Int) (b1_2 : A3) (b1_3 : Int) (b1_4 : Int) (b2_0 : (List Int)) (b2_1 : Int) (b2_2 : A3) (b2_3 : Int) (b2_4 : Int) (b3_0 : (List Int)) (b3_1 : Int) (b3_2 : A3) (b3_3 : Int) (b3_4 : Int) : Option (Unit × (TX × (TNN × (TNN × (TNN × Unit)))) × Unit) :=
 ((F48 (0, (b1_0, (b1_1, ()))) b1_0 b1_1 b1_2 b1_3 b1_4).bind fun y0 => (some ((), ((b0_0, b0_1, b0_2, UU), (y0.2.1.1.1, y0.2.1.1.2.1, y0.2.1.1.2.2.1, y0.2.1.1.2.2.2.1, y0.2.1.1.2.2.2.2.1, (), ()), (b2_0, b2_1, b2_2, b2_3, b2_4, (), ()), (b3_0, b3_1, b3_2, b3_3, b3_4, (), ()), ()), ())))
noncomputable def c26c0 : Con := ⟨i26c0, o26c0, fun x => F26c0 x.2.1.1.1 x.2.1.1.2.1 x.2.1.1.2.2.1 x.2.1.2.1.1 x.2.1.2.1.2.1 x.2.1.2.1.2.2.1 x.2.1.2.1.2.2.2.1 x.2.1.2.1.2.2.2.2.1 x.2.1.2.2.1.1 x.2.1.2.2.1.2.1 x.2.1.2.2.1.2.2.1 x.2.1.2.2.1.2.2.2.1 x.2.1.2.2.1.2.2.2.2.1 x.2.1.2.2.2.1.1 x.2.1.2.2.2.1.2.1 x.2.1.2.2.2.1.2.2.1 x.2.1.2.2.2.1.2.2.2.1 x.2.1.2.2.2.1.2.2.2.2.1⟩
theorem e26c0 (x : i26c0.E) : vfn Try.prog C26c0 LO26c0 Try.f26 b26c0 i26c0 o26c0 x = c26c0.F x := by kernel_rfl
theorem c26c0_ok : Con.OK Try.prog 26 c26c0 := (fn_ok C26c0_ok (fun _ => rfl) Try.func26 body26c0 (noL (by kernel_rfl)) i26c0 o26c0).congr fun x => (e26c0 x).symm
noncomputable def l11c0_6 : Code := (.seq (.region 6 (regOf Try.f11 6) false) (.seq (.cond (.tmp 15) .skip (.exit 0)) (.seq (.block 1 (.seq (.region 7 (regOf Try.f11 7) false) (.region 8 (regOf Try.f11 8) true))) (.region 9 (regOf Try.f11 9) false))))
noncomputable def b11c0 : Code := (.seq (.region 0 (regOf Try.f11 0) false) (.seq (.region 1 (regOf Try.f11 1) false) (.seq (.region 2 (regOf Try.f11 2) false) (.seq (.seq (.region 3 (regOf Try.f11 3) false) (.cond (.tmp 12) (.seq (.region 4 (regOf Try.f11 4) false) .ret) .skip)) (.seq (.seq (.region 5 (regOf Try.f11 5) false) (.block 0 (.loop l11c0_6))) (.seq (.region 10 (regOf Try.f11 10) false) (.seq (.region 11 (regOf Try.f11 11) false) .ret)))))))
theorem body11c0 : Try.f11.body = some b11c0 := by kernel_rfl
noncomputable def C11c0_6 : Tab := [(31, c31), (900031, cHot)]
theorem C11c0_6_ok : TabOK Try.prog C11c0_6 := ⟨c31_ok, cHot_ok, trivial⟩
noncomputable def LO11c0_6 : Tab := []
noncomputable def i11c0_6 : Tm := { sl := [(0, .p 0 0), (5, .m tDEv 1), (6, .p 2 0), (14, .v (.i .i64))], bx := [[.v (.i .i64), .sg 64 (.l tDEv), .sg 64 (.l (.l (.i .u64))), .p 2 0, .p 3 0, .p 4 0, .nl, .nl, .nl, .nl, .nl, .nl, .nl, .nl, .nl, .nl, .nl, .nl, .nl, .nl, .nl, .nl, .nl, .nl, .nl, .nl, .nl, .nl, .nl, .nl, .nl, .nl, .nl, .nl, .nl, .nl, .nl, .nl, .nl, .nl, .nl, .nl, .nl, .nl, .nl, .nl, .nl, .nl, .nl, .nl, .nl, .nl, .nl, .nl, .nl, .nl, .nl, .nl, .nl, .nl, .nl, .nl, .nl, .nl, .nl, .nl, .nl], [.r tDEv], PNN, PNN, PNN], bf := [] }
noncomputable def o11c0_6 : OT := (.exit 0 { sl := [(5, .m tDEv 5)], bx := [[.v (.i .i64), .sg 64 (.l tDEv), .sg 64 (.l (.l (.i .u64))), .p 2 0, .p 3 0, .p 4 0, .nl, .nl, .nl, .nl, .nl, .nl, .nl, .nl, .nl, .nl, .nl, .nl, .nl, .nl, .nl, .nl, .nl, .nl, .nl, .nl, .nl, .nl, .nl, .nl, .nl, .nl, .nl, .nl, .nl, .nl, .nl, .nl, .nl, .nl, .nl, .nl, .nl, .nl, .nl, .nl, .nl, .nl, .nl, .nl, .nl, .nl, .nl, .nl, .nl, .nl, .nl, .nl, .nl, .nl, .nl, .nl, .nl, .nl, .nl, .nl, .nl], [.g], PNN, PNN, PNN, [.r tDEv]], bf := [] })
noncomputable def T11c0_6 (a14 : Int) (b0_0 : Int) (b0_1 : A1) (b0_2 : A2) (b1_0 : A4) (b2_0 : (List Int)) (b2_1 : Int) (b2_2 : A3) (b2_3 : Int) (b2_4 : Int) (b3_0 : (List Int)) (b3_1 : Int) (b3_2 : A3) (b3_3 : Int) (b3_4 : Int) (b4_0 : (List Int)) (b4_1 : Int) (b4_2 : A3) (b4_3 : Int) (b4_4 : Int) : Option (((Unit × (Unit × (Unit × (Int × Unit)))) × (TX × ((A4 × Unit) × (TNN × (TNN × (TNN × Unit))))) × Unit) ⊕ ((Unit × Unit) × (TX × ((Unit × Unit) × (TNN × (TNN × (TNN × ((A4 × Unit) × Unit)))))) × Unit)) :=
 (bif (decide ((a14 : Int) < 64)) then (bif (decide (0 ≤ (a14 : Int) ∧ (a14 : Int) < ((64 : Nat) : Int))) then (bif (decide ((a14 : Int).toNat < 64)) then ((F31 b2_0 a14).bind fun y0 => (bif (decide (0 ≤ (y0.1.1 : Int) ∧ (y0.1.1 : Int) ≤ (((((b0_1).getD (a14 : Int).toNat [])).length : Nat) : Int))) then (bif (decide ((b1_0).length + (((((b0_1).getD (a14 : Int).toNat [])).take (y0.1.1 : Int).toNat)).length < lim)) then (some (.inl (((), (), (), (IntKind.wrap .i64 (a14 + 1)), ()), ((b0_0, b0_1, b0_2, UU), ((b1_0 ++ ((((b0_1).getD (a14 : Int).toNat [])).take (y0.1.1 : Int).toNat)), ()), (b2_0, b2_1, b2_2, b2_3, b2_4, (), ()), (b3_0, b3_1, b3_2, b3_3, b3_4, (), ()), (b4_0, b4_1, b4_2, b4_3, b4_4, (), ()), ()), ()))) else none) else none)) else none) else none) else (some (.inr (((), ()), ((b0_0, b0_1, b0_2, UU), ((), ()), (b2_0, b2_1, b2_2, b2_3, b2_4, (), ()), (b3_0, b3_1, b3_2, b3_3, b3_4, (), ()), (b4_0, b4_1, b4_2, b4_3, b4_4, (), ()), (b1_0, ()), ()), ()))))
noncomputable def L11c0_6 (a14 : Int) (b0_0 : Int) (b0_1 : A1) (b0_2 : A2) (b1_0 : A4) (b2_0 : (List Int)) (b2_1 : Int) (b2_2 : A3) (b2_3 : Int) (b2_4 : Int) (b3_0 : (List Int)) (b3_1 : Int) (b3_2 : A3) (b3_3 : Int) (b3_4 : Int) (b4_0 : (List Int)) (b4_1 : Int) (b4_2 : A3) (b4_3 : Int) (b4_4 : Int) : Option ((Unit × Unit) × (TX × ((Unit × Unit) × (TNN × (TNN × (TNN × ((A4 × Unit) × Unit)))))) × Unit) := iter (fun x : ((Unit × (Unit × (Unit × (Int × Unit)))) × (TX × ((A4 × Unit) × (TNN × (TNN × (TNN × Unit))))) × Unit) => T11c0_6 x.1.2.2.2.1 x.2.1.1.1 x.2.1.1.2.1 x.2.1.1.2.2.1 x.2.1.2.1.1 x.2.1.2.2.1.1 x.2.1.2.2.1.2.1 x.2.1.2.2.1.2.2.1 x.2.1.2.2.1.2.2.2.1 x.2.1.2.2.1.2.2.2.2.1 x.2.1.2.2.2.1.1 x.2.1.2.2.2.1.2.1 x.2.1.2.2.2.1.2.2.1 x.2.1.2.2.2.1.2.2.2.1 x.2.1.2.2.2.1.2.2.2.2.1 x.2.1.2.2.2.2.1.1 x.2.1.2.2.2.2.1.2.1 x.2.1.2.2.2.2.1.2.2.1 x.2.1.2.2.2.2.1.2.2.2.1 x.2.1.2.2.2.2.1.2.2.2.2.1) 300 (((), (), (), a14, ()), ((b0_0, b0_1, b0_2, UU), (b1_0, ()), (b2_0, b2_1, b2_2, b2_3, b2_4, (), ()), (b3_0, b3_1, b3_2, b3_3, b3_4, (), ()), (b4_0, b4_1, b4_2, b4_3, b4_4, (), ()), ()), ())
noncomputable def k11c0_6 : Con := ⟨i11c0_6, o11c0_6, fun x => L11c0_6 x.1.2.2.2.1 x.2.1.1.1 x.2.1.1.2.1 x.2.1.1.2.2.1 x.2.1.2.1.1 x.2.1.2.2.1.1 x.2.1.2.2.1.2.1 x.2.1.2.2.1.2.2.1 x.2.1.2.2.1.2.2.2.1 x.2.1.2.2.1.2.2.2.2.1 x.2.1.2.2.2.1.1 x.2.1.2.2.2.1.2.1 x.2.1.2.2.2.1.2.2.1 x.2.1.2.2.2.1.2.2.2.1 x.2.1.2.2.2.1.2.2.2.2.1 x.2.1.2.2.2.2.1.1 x.2.1.2.2.2.2.1.2.1 x.2.1.2.2.2.2.1.2.2.1 x.2.1.2.2.2.2.1.2.2.2.1 x.2.1.2.2.2.2.1.2.2.2.2.1⟩
theorem e11c0_6 (x : i11c0_6.E) : vround Try.prog C11c0_6 LO11c0_6 Try.f11.ntmps l11c0_6 i11c0_6 o11c0_6 x = T11c0_6 x.1.2.2.2.1 x.2.1.1.1 x.2.1.1.2.1 x.2.1.1.2.2.1 x.2.1.2.1.1 x.2.1.2.2.1.1 x.2.1.2.2.1.2.1 x.2.1.2.2.1.2.2.1 x.2.1.2.2.1.2.2.2.1 x.2.1.2.2.1.2.2.2.2.1 x.2.1.2.2.2.1.1 x.2.1.2.2.2.1.2.1 x.2.1.2.2.2.1.2.2.1 x.2.1.2.2.2.1.2.2.2.1 x.2.1.2.2.2.1.2.2.2.2.1 x.2.1.2.2.2.2.1.1 x.2.1.2.2.2.2.1.2.1 x.2.1.2.2.2.2.1.2.2.1 x.2.1.2.2.2.2.1.2.2.2.1 x.2.1.2.2.2.2.1.2.2.2.2.1 := by kernel_rfl
theorem k11c0_6_ok : Con.LOK Try.prog Try.f11.ntmps l11c0_6 k11c0_6 := Con.LOK.fuel (loop_ok C11c0_6_ok (noL (by kernel_rfl)) i11c0_6 o11c0_6) 300 (funext e11c0_6)
noncomputable def C11c0 : Tab := [(27, c27c0), (31, c31), (32, c32), (900031, cHot)]
theorem C11c0_ok : TabOK Try.prog C11c0 := ⟨c27c0_ok, c31_ok, c32_ok, cHot_ok, trivial⟩
noncomputable def LO11c0 : Tab := [(6, k11c0_6)]
noncomputable def i11c0 : Tm := { sl := [(0, .p 0 0), (1, .ki .i64 0)], bx := [PXc, PNN, PNN, PNN], bf := [] }
noncomputable def o11c0 : OT := (.ret { sl := [(0, .v (.l tDEv))], bx := [PXc, PNN, PNN, PNN], bf := [] })
noncomputable def F11c0 (b0_0 : Int) (b0_1 : A1) (b0_2 : A2) (b1_0 : (List Int)) (b1_1 : Int) (b1_2 : A3) (b1_3 : Int) (b1_4 : Int) (b2_0 : (List Int)) (b2_1 : Int) (b2_2 : A3) (b2_3 : Int) (b2_4 : Int) (b3_0 : (List Int)) (b3_1 : Int) (b3_2 : A3) (b3_3 : Int) (b3_4 : Int) : Option ((A4 × Unit) × (TX × (TNN × (TNN × (TNN × Unit)))) × Unit) :=
 ((F27c0 b0_0 b0_1 b0_2 b1_0 b1_1 b1_2 b1_3 b1_4 b2_0 b2_1 b2_2 b2_3 b2_4 b3_0 b3_1 b3_2 b3_3 b3_4).bind fun y0 => ((L11c0_6 0 y0.2.1.1.1 y0.2.1.1.2.1 y0.2.1.1.2.2.1 ([] : List DEv) y0.2.1.2.1.1 y0.2.1.2.1.2.1 y0.2.1.2.1.2.2.1 y0.2.1.2.1.2.2.2.1 y0.2.1.2.1.2.2.2.2.1 y0.2.1.2.2.1.1 y0.2.1.2.2.1.2.1 y0.2.1.2.2.1.2.2.1 y0.2.1.2.2.1.2.2.2.1 y0.2.1.2.2.1.2.2.2.2.1 y0.2.1.2.2.2.1.1 y0.2.1.2.2.2.1.2.1 y0.2.1.2.2.2.1.2.2.1 y0.2.1.2.2.2.1.2.2.2.1 y0.2.1.2.2.2.1.2.2.2.2.1).bind fun y1 => ((F32 y1.2.1.2.2.2.2.2.1.1).bind fun y2 => (some ((y2.2.1.1.1, ()), (y1.2.1.1, y1.2.1.2.2.1, y1.2.1.2.2.2.1, (y1.2.1.2.2.2.2.1.1, y1.2.1.2.2.2.2.1.2.1, y1.2.1.2.2.2.2.1.2.2.1, y1.2.1.2.2.2.2.1.2.2.2.1, y1.2.1.2.2.2.2.1.2.2.2.2.1, (), ()), ()), ())))))
noncomputable def F11c0sc (s : (TX × (TNN × (TNN × (TNN × Unit))))) : Option ((A4 × Unit) × (TX × (TNN × (TNN × (TNN × Unit)))) × Unit) := F11c0 s.1.1 s.1.2.1 s.1.2.2.1 s.2.1.1 s.2.1.2.1 s.2.1.2.2.1 s.2.1.2.2.2.1 s.2.1.2.2.2.2.1 s.2.2.1.1 s.2.2.1.2.1 s.2.2.1.2.2.1 s.2.2.1.2.2.2.1 s.2.2.1.2.2.2.2.1 s.2.2.2.1.1 s.2.2.2.1.2.1 s.2.2.2.1.2.2.1 s.2.2.2.1.2.2.2.1 s.2.2.2.1.2.2.2.2.1
noncomputable def c11c0 : Con := ⟨i11c0, o11c0, fun x => F11c0 x.2.1.1.1 x.2.1.1.2.1 x.2.1.1.2.2.1 x.2.1.2.1.1 x.2.1.2.1.2.1 x.2.1.2.1.2.2.1 x.2.1.2.1.2.2.2.1 x.2.1.2.1.2.2.2.2.1 x.2.1.2.2.1.1 x.2.1.2.2.1.2.1 x.2.1.2.2.1.2.2.1 x.2.1.2.2.1.2.2.2.1 x.2.1.2.2.1.2.2.2.2.1 x.2.1.2.2.2.1.1 x.2.1.2.2.2.1.2.1 x.2.1.2.2.2.1.2.2.1 x.2.1.2.2.2.1.2.2.2.1 x.2.1.2.2.2.1.2.2.2.2.1⟩
theorem e11c0 (x : i11c0.E) : vfn Try.prog C11c0 LO11c0 Try.f11 b11c0 i11c0 o11c0 x = c11c0.F x := by kernel_rfl
theorem c11c0_ok : Con.OK Try.prog 11 c11c0 := (fn_ok C11c0_ok (fun _ => rfl) Try.func11 body11c0 (loops_of (l := [l11c0_6]) (by kernel_rfl) (show LoopsOK Try.prog Try.f11.ntmps [l11c0_6] LO11c0 from ⟨k11c0_6_ok, trivial⟩)) i11c0 o11c0).congr fun x => (e11c0 x).symm
noncomputable def l40c0_5 : Code := (.seq (.region 5 (regOf Try.f40 5) false) (.seq (.cond (.tmp 22) .skip (.exit 0)) (.seq (.block 1 (.seq (.region 6 (regOf Try.f40 6) false) (.region 7 (regOf Try.f40 7) false))) (.region 8 (regOf Try.f40 8) false))))
noncomputable def b40c0 : Code := (.seq (.region 0 (regOf Try.f40 0) false) (.seq (.seq (.region 1 (regOf Try.f40 1) false) (.cond (.tmp 11) (.seq (.region 2 (regOf Try.f40 2) false) .ret) .skip)) (.seq (.region 3 (regOf Try.f40 3) false) (.seq (.seq (.region 4 (regOf Try.f40 4) false) (.block 0 (.loop l40c0_5))) (.seq (.region 9 (regOf Try.f40 9) false) .ret)))))
theorem body40c0 : Try.f40.body = some b40c0 := by kernel_rfl
noncomputable def C40c0_5 : Tab := [(56, c56)]
theorem C40c0_5_ok : TabOK Try.prog C40c0_5 := ⟨c56_ok, trivial⟩
noncomputable def LO40c0_5 : Tab := []
noncomputable def i40c0_5 : Tm := { sl := [(5, .p 0 0), (19, .v (.l tDEv)), (20, .v (.i .i64)), (21, .v (.i .i64))], bx := [[.mv 1, .sg 64 .b, .sg 64 .b, .v (.l (.i .u64)), .v (.i .u64), .v (.i .i64), .v (.i .u64)], [.mx 0 []]], bf := [] }
noncomputable def o40c0_5 : OT := (.exit 0 { sl := [], bx := [[.mv 1, .sg 64 .b, .sg 64 .b, .v (.l (.i .u64)), .v (.i .u64), .v (.i .i64), .v (.i .u64)], [.mx 0 []]], bf := [] })
noncomputable def T40c0_5 (a19 : A4) (a20 : Int) (a21 : Int) (b0_1 : (List Bool)) (b0_2 : (List Bool)) (b0_3 : (List Int)) (b0_4 : Int) (b0_5 : Int) (b0_6 : Int) : Option (((Unit × (A4 × (Int × (Int × Unit)))) × ((Unit × ((List Bool) × ((List Bool) × ((List Int) × (Int × (Int × (Int × Unit))))))) × ((Unit × Unit) × Unit)) × Unit) ⊕ (Unit × ((Unit × ((List Bool) × ((List Bool) × ((List Int) × (Int × (Int × (Int × Unit))))))) × ((Unit × Unit) × Unit)) × Unit)) :=
 (bif (decide ((a21 : Int) < a20)) then (bif (decide (0 ≤ (a21 : Int) ∧ (a21 : Int) < (((a19).length : Nat) : Int))) then ((F56 ((a19).getD (a21 : Int).toNat zE) b0_1 b0_2 b0_3 b0_4 b0_5 b0_6).bind fun y0 => (some (.inl (((), a19, a20, (IntKind.wrap .i64 (a21 + 1)), ()), (((), y0.2.1.1.2.1, y0.2.1.1.2.2.1, y0.2.1.1.2.2.2.1, y0.2.1.1.2.2.2.2.1, y0.2.1.1.2.2.2.2.2.1, y0.2.1.1.2.2.2.2.2.2.1, ()), ((), ()), ()), ())))) else none) else (some (.inr ((), (((), b0_1, b0_2, b0_3, b0_4, b0_5, b0_6, ()), ((), ()), ()), ()))))
noncomputable def L40c0_5 (a19 : A4) (a20 : Int) (a21 : Int) (b0_1 : (List Bool)) (b0_2 : (List Bool)) (b0_3 : (List Int)) (b0_4 : Int) (b0_5 : Int) (b0_6 : Int) : Option (Unit × ((Unit × ((List Bool) × ((List Bool) × ((List Int) × (Int × (Int × (Int × Unit))))))) × ((Unit × Unit) × Unit)) × Unit) := iter (fun x : ((Unit × (A4 × (Int × (Int × Unit)))) × ((Unit × ((List Bool) × ((List Bool) × ((List Int) × (Int × (Int × (Int × Unit))))))) × ((Unit × Unit) × Unit)) × Unit) => T40c0_5 x.1.2.1 x.1.2.2.1 x.1.2.2.2.1 x.2.1.1.2.1 x.2.1.1.2.2.1 x.2.1.1.2.2.2.1 x.2.1.1.2.2.2.2.1 x.2.1.1.2.2.2.2.2.1 x.2.1.1.2.2.2.2.2.2.1) 300 (((), a19, a20, a21, ()), (((), b0_1, b0_2, b0_3, b0_4, b0_5, b0_6, ()), ((), ()), ()), ())
noncomputable def k40c0_5 : Con := ⟨i40c0_5, o40c0_5, fun x => L40c0_5 x.1.2.1 x.1.2.2.1 x.1.2.2.2.1 x.2.1.1.2.1 x.2.1.1.2.2.1 x.2.1.1.2.2.2.1 x.2.1.1.2.2.2.2.1 x.2.1.1.2.2.2.2.2.1 x.2.1.1.2.2.2.2.2.2.1⟩
theorem e40c0_5 (x : i40c0_5.E) : vround Try.prog C40c0_5 LO40c0_5 Try.f40.ntmps l40c0_5 i40c0_5 o40c0_5 x = T40c0_5 x.1.2.1 x.1.2.2.1 x.1.2.2.2.1 x.2.1.1.2.1 x.2.1.1.2.2.1 x.2.1.1.2.2.2.1 x.2.1.1.2.2.2.2.1 x.2.1.1.2.2.2.2.2.1 x.2.1.1.2.2.2.2.2.2.1 := by kernel_rfl
theorem k40c0_5_ok : Con.LOK Try.prog Try.f40.ntmps l40c0_5 k40c0_5 := Con.LOK.fuel (loop_ok C40c0_5_ok (noL (by kernel_rfl)) i40c0_5 o40c0_5) 300 (funext e40c0_5)
noncomputable def C40c0 : Tab := [(11, c11c0), (27, c27c0), (55, c55), (56, c56)]
theorem C40c0_ok : TabOK Try.prog C40c0 := ⟨c11c0_ok, c27c0_ok, c55_ok, c56_ok, trivial⟩
noncomputable def LO40c0 : Tab := [(5, k40c0_5)]
noncomputable def i40c0 : Tm := { sl := [(0, .p 0 0), (1, .ki .i64 0)], bx := [PXc, PNN, PNN, PNN], bf := [] }
noncomputable def o40c0 : OT := (.ret { sl := [(0, .p 4 0)], bx := [PXc, PNN, PNN, PNN, [.mv 5, .sg 64 .b, .sg 64 .b, .v (.l (.i .u64)), .v (.i .u64), .v (.i .i64), .v (.i .u64)], [.mx 0 []]], bf := [] })
noncomputable def F40c0 (b0_0 : Int) (b0_1 : A1) (b0_2 : A2) (b1_0 : (List Int)) (b1_1 : Int) (b1_2 : A3) (b1_3 : Int) (b1_4 : Int) (b2_0 : (List Int)) (b2_1 : Int) (b2_2 : A3) (b2_3 : Int) (b2_4 : Int) (b3_0 : (List Int)) (b3_1 : Int) (b3_2 : A3) (b3_3 : Int) (b3_4 : Int) : Option ((Unit × Unit) × (TX × (TNN × (TNN × (TNN × ((Unit × ((List Bool) × ((List Bool) × ((List Int) × (Int × (Int × (Int × Unit))))))) × ((Unit × Unit) × Unit)))))) × Unit) :=
 ((F27c0 b0_0 b0_1 b0_2 b1_0 b1_1 b1_2 b1_3 b1_4 b2_0 b2_1 b2_2 b2_3 b2_4 b3_0 b3_1 b3_2 b3_3 b3_4).bind fun y0 => ((F55 y0.2.1.1.1).bind fun y1 => ((F11c0sc y0.2.1).bind fun y2 => ((L40c0_5 y2.1.1 (((y2.1.1).length : Nat) : Int) 0 y1.2.1.1.2.1 y1.2.1.1.2.2.1 y1.2.1.1.2.2.2.1 y1.2.1.1.2.2.2.2.1 y1.2.1.1.2.2.2.2.2.1 y1.2.1.1.2.2.2.2.2.2.1).bind fun y3 => (some (((), ()), (y2.2.1.1, y2.2.1.2.1, y2.2.1.2.2.1, y2.2.1.2.2.2.1, ((), y3.2.1.1.2.1, y3.2.1.1.2.2.1, y3.2.1.1.2.2.2.1, y3.2.1.1.2.2.2.2.1, y3.2.1.1.2.2.2.2.2.1, y3.2.1.1.2.2.2.2.2.2.1, ()), ((), ()), ()), ()))))))
noncomputable def F40c0sc (s : (TX × (TNN × (TNN × (TNN × Unit))))) : Option ((Unit × Unit) × (TX × (TNN × (TNN × (TNN × ((Unit × ((List Bool) × ((List Bool) × ((List Int) × (Int × (Int × (Int × Unit))))))) × ((Unit × Unit) × Unit)))))) × Unit) := F40c0 s.1.1 s.1.2.1 s.1.2.2.1 s.2.1.1 s.2.1.2.1 s.2.1.2.2.1 s.2.1.2.2.2.1 s.2.1.2.2.2.2.1 s.2.2.1.1 s.2.2.1.2.1 s.2.2.1.2.2.1 s.2.2.1.2.2.2.1 s.2.2.1.2.2.2.2.1 s.2.2.2.1.1 s.2.2.2.1.2.1 s.2.2.2.1.2.2.1 s.2.2.2.1.2.2.2.1 s.2.2.2.1.2.2.2.2.1
noncomputable def c40c0 : Con := ⟨i40c0, o40c0, fun x => F40c0 x.2.1.1.1 x.2.1.1.2.1 x.2.1.1.2.2.1 x.2.1.2.1.1 x.2.1.2.1.2.1 x.2.1.2.1.2.2.1 x.2.1.2.1.2.2.2.1 x.2.1.2.1.2.2.2.2.1 x.2.1.2.2.1.1 x.2.1.2.2.1.2.1 x.2.1.2.2.1.2.2.1 x.2.1.2.2.1.2.2.2.1 x.2.1.2.2.1.2.2.2.2.1 x.2.1.2.2.2.1.1 x.2.1.2.2.2.1.2.1 x.2.1.2.2.2.1.2.2.1 x.2.1.2.2.2.1.2.2.2.1 x.2.1.2.2.2.1.2.2.2.2.1⟩
theorem e40c0 (x : i40c0.E) : vfn Try.prog C40c0 LO40c0 Try.f40 b40c0 i40c0 o40c0 x = c40c0.F x := by kernel_rfl
theorem c40c0_ok : Con.OK Try.prog 40 c40c0 := (fn_ok C40c0_ok (fun _ => rfl) Try.func40 body40c0 (loops_of (l := [l40c0_5]) (by kernel_rfl) (show LoopsOK Try.prog Try.f40.ntmps [l40c0_5] LO40c0 from ⟨k40c0_5_ok, trivial⟩)) i40c0 o40c0).congr fun x => (e40c0 x).symm
noncomputable def b43c0 : Code := (.seq (.region 0 (regOf Try.f43 0) false) (.seq (.region 1 (regOf Try.f43 1) false) (.seq (.region 2 (regOf Try.f43 2) true) (.seq (.region 3 (regOf Try.f43 3) false) .ret))))
theorem body43c0 : Try.f43.body = some b43c0 := by kernel_rfl
noncomputable def C43c0 : Tab := [(31, c31), (57, c57)]
theorem C43c0_ok : TabOK Try.prog C43c0 := ⟨c31_ok, c57_ok, trivial⟩
noncomputable def LO43c0 : Tab := []
noncomputable def i43c0 : Tm := { sl := [(0, .p 0 0), (1, .ki .i64 0), (2, .v tDEv)], bx := [PXc, PNN, PNN, PNN], bf := [] }
noncomputable def o43c0 : OT := (.ret { sl := [(0, .v tDEv)], bx := [PXc, PNN, PNN, PNN], bf := [] })
noncomputable def F43c0 (a2 : DEv) (b0_0 : Int) (b0_1 : A1) (b0_2 : A2) (b1_0 : (List Int)) (b1_1 : Int) (b1_2 : A3) (b1_3 : Int) (b1_4 : Int) (b2_0 : (List Int)) (b2_1 : Int) (b2_2 : A3) (b2_3 : Int) (b2_4 : Int) (b3_0 : (List Int)) (b3_1 : Int) (b3_2 : A3) (b3_3 : Int) (b3_4 : Int) : Option ((DEv × Unit) × (TX × (TNN × (TNN × (TNN × Unit)))) × Unit) :=
 ((F31 b1_0 0).bind fun y0 => ((F57 (0, ((IntKind.wrap .u64 (y0.1.1 + 1)), ((IntKind.wrap .u64 (b1_1 + 1)), (a2.2.2.2.1, (a2.2.2.2.2.1, (a2.2.2.2.2.2.1, (a2.2.2.2.2.2.2.1, (a2.2.2.2.2.2.2.2.1, ()))))))))).bind fun y1 => (some ((y1.1.1, ()), ((b0_0, b0_1, b0_2, UU), (b1_0, b1_1, b1_2, b1_3, b1_4, (), ()), (b2_0, b2_1, b2_2, b2_3, b2_4, (), ()), (b3_0, b3_1, b3_2, b3_3, b3_4, (), ()), ()), ()))))
noncomputable def c43c0 : Con := ⟨i43c0, o43c0, fun x => F43c0 x.1.2.2.1 x.2.1.1.1 x.2.1.1.2.1 x.2.1.1.2.2.1 x.2.1.2.1.1 x.2.1.2.1.2.1 x.2.1.2.1.2.2.1 x.2.1.2.1.2.2.2.1 x.2.1.2.1.2.2.2.2.1 x.2.1.2.2.1.1 x.2.1.2.2.1.2.1 x.2.1.2.2.1.2.2.1 x.2.1.2.2.1.2.2.2.1 x.2.1.2.2.1.2.2.2.2.1 x.2.1.2.2.2.1.1 x.2.1.2.2.2.1.2.1 x.2.1.2.2.2.1.2.2.1 x.2.1.2.2.2.1.2.2.2.1 x.2.1.2.2.2.1.2.2.2.2.1⟩
theorem e43c0 (x : i43c0.E) : vfn Try.prog C43c0 LO43c0 Try.f43 b43c0 i43c0 o43c0 x = c43c0.F x := by kernel_rfl
theorem c43c0_ok : Con.OK Try.prog 43 c43c0 := (fn_ok C43c0_ok (fun _ => rfl) Try.func43 body43c0 (noL (by kernel_rfl)) i43c0 o43c0).congr fun x => (e43c0 x).symm
noncomputable def b16c0 : Code := (.seq (.region 0 (regOf Try.f16 0) false) (.seq (.region 1 (regOf Try.f16 1) false) (.seq (.seq (.region 2 (regOf Try.f16 2) false) (.cond (.tmp 15) (.seq (.region 3 (regOf Try.f16 3) false) .ret) .skip)) (.seq (.region 4 (regOf Try.f16 4) false) (.seq (.block 0 (.seq (.region 5 (regOf Try.f16 5) false) (.cond (.tmp 20) (.seq (.region 6 (regOf Try.f16 6) false) .ret) (.seq (.region 7 (regOf Try.f16 7) false) (.cond (.tmp 26) (.seq (.region 8 (regOf Try.f16 8) false) .ret) .skip))))) (.seq (.region 9 (regOf Try.f16 9) false) (.seq (.seq (.region 10 (regOf Try.f16 10) false) (.seq (.region 11 (regOf Try.f16 11) false) (.cond (.tmp 38) (.seq (.region 12 (regOf Try.f16 12) false) .ret) .skip))) (.seq (.seq (.region 13 (regOf Try.f16 13) false) (.cond (.tmp 49) (.seq (.region 14 (regOf Try.f16 14) false) .ret) .skip)) (.seq (.region 15 (regOf Try.f16 15) false) .ret)))))))))
theorem body16c0 : Try.f16.body = some b16c0 := by kernel_rfl
noncomputable def C16c0 : Tab := [(12, c12), (27, c27c0), (40, c40c0), (41, c41), (42, c42), (43, c43c0)]
theorem C16c0_ok : TabOK Try.prog C16c0 := ⟨c12_ok, c27c0_ok, c40c0_ok, c41_ok, c42_ok, c43c0_ok, trivial⟩
noncomputable def LO16c0 : Tab := []
noncomputable def i16c0 : Tm := { sl := [(0, .p 0 0), (1, .ki .i64 0), (2, .v tDEv)], bx := [PXc, PNN, PNN, PNN], bf := [] }
noncomputable def o16c0 : OT := (.ret { sl := [(0, .v tDEv), (1, .v (.i .i64))], bx := [PXc, PNN, PNN, PNN], bf := [] })
noncomputable def F16c0 (a2 : DEv) (b0_0 : Int) (b0_1 : A1) (b0_2 : A2) (b1_0 : (List Int)) (b1_1 : Int) (b1_2 : A3) (b1_3 : Int) (b1_4 : Int) (b2_0 : (List Int)) (b2_1 : Int) (b2_2 : A3) (b2_3 : Int) (b2_4 : Int) (b3_0 : (List Int)) (b3_1 : Int) (b3_2 : A3) (b3_3 : Int) (b3_4 : Int) : Option ((DEv × (Int × Unit)) × (TX × (TNN × (TNN × (TNN × Unit)))) × Unit) :=
 ((F27c0 b0_0 b0_1 b0_2 b1_0 b1_1 b1_2 b1_3 b1_4 b2_0 b2_1 b2_2 b2_3 b2_4 b3_0 b3_1 b3_2 b3_3 b3_4).bind fun y0 => ((F40c0sc y0.2.1).bind fun y1 => ((F41 0 y1.2.1.2.2.2.2.1.2.1 y1.2.1.2.2.2.2.1.2.2.1 y1.2.1.2.2.2.2.1.2.2.2.1 y1.2.1.2.2.2.2.1.2.2.2.2.1 y1.2.1.2.2.2.2.1.2.2.2.2.2.1 y1.2.1.2.2.2.2.1.2.2.2.2.2.2.1).bind fun y2 => (bif (!y2.1.1) then (some (((0, (0, (0, (0, (ByteArray.empty, (([] : List Int), (0, (0, ())))))))), 11, ()), (y1.2.1.1, y1.2.1.2.1, y1.2.1.2.2.1, y1.2.1.2.2.2.1, ()), ())) else ((F42 0 y2.2.1.1.2.1 y2.2.1.1.2.2.1 y2.2.1.1.2.2.2.1 y2.2.1.1.2.2.2.2.1 y2.2.1.1.2.2.2.2.2.1 y2.2.1.1.2.2.2.2.2.2.1).bind fun y3 => (bif y3.1.1 then (some (((0, (0, (0, (0, (ByteArray.empty, (([] : List Int), (0, (0, ())))))))), 12, ()), (y1.2.1.1, y1.2.1.2.1, y1.2.1.2.2.1, y1.2.1.2.2.2.1, ()), ())) else ((F43c0 a2 y1.2.1.1.1 y1.2.1.1.2.1 y1.2.1.1.2.2.1 y1.2.1.2.1.1 y1.2.1.2.1.2.1 y1.2.1.2.1.2.2.1 y1.2.1.2.1.2.2.2.1 y1.2.1.2.1.2.2.2.2.1 y1.2.1.2.2.1.1 y1.2.1.2.2.1.2.1 y1.2.1.2.2.1.2.2.1 y1.2.1.2.2.1.2.2.2.1 y1.2.1.2.2.1.2.2.2.2.1 y1.2.1.2.2.2.1.1 y1.2.1.2.2.2.1.2.1 y1.2.1.2.2.2.1.2.2.1 y1.2.1.2.2.2.1.2.2.2.1 y1.2.1.2.2.2.1.2.2.2.2.1).bind fun y4 => ((F12 y4.1.1).bind fun y5 => (bif ((y5.1.1 : Int) != 0) then (some (((0, (0, (0, (0, (ByteArray.empty, (([] : List Int), (0, (0, ())))))))), y5.1.1, ()), y4.2.1, ())) else (bif ((y4.1.1.2.2.2.1 : Int) == 5) then ((F41 y4.1.1.2.2.2.2.2.2.2.1 y3.2.1.1.2.1 y3.2.1.1.2.2.1 y3.2.1.1.2.2.2.1 y3.2.1.1.2.2.2.2.1 y3.2.1.1.2.2.2.2.2.1 y3.2.1.1.2.2.2.2.2.2.1).bind fun y6 => (bif y6.1.1 then (some (((0, (0, (0, (0, (ByteArray.empty, (([] : List Int), (0, (0, ())))))))), 10, ()), y4.2.1, ())) else (some ((y4.1.1, 0, ()), y4.2.1, ())))) else (some ((y4.1.1, 0, ()), y4.2.1, ()))))))))))))
noncomputable def c16c0 : Con := ⟨i16c0, o16c0, fun x => F16c0 x.1.2.2.1 x.2.1.1.1 x.2.1.1.2.1 x.2.1.1.2.2.1 x.2.1.2.1.1 x.2.1.2.1.2.1 x.2.1.2.1.2.2.1 x.2.1.2.1.2.2.2.1 x.2.1.2.1.2.2.2.2.1 x.2.1.2.2.1.1 x.2.1.2.2.1.2.1 x.2.1.2.2.1.2.2.1 x.2.1.2.2.1.2.2.2.1 x.2.1.2.2.1.2.2.2.2.1 x.2.1.2.2.2.1.1 x.2.1.2.2.2.1.2.1 x.2.1.2.2.2.1.2.2.1 x.2.1.2.2.2.1.2.2.2.1 x.2.1.2.2.2.1.2.2.2.2.1⟩
theorem e16c0 (x : i16c0.E) : vfn Try.prog C16c0 LO16c0 Try.f16 b16c0 i16c0 o16c0 x = c16c0.F x := by kernel_rfl
theorem c16c0_ok : Con.OK Try.prog 16 c16c0 := (fn_ok C16c0_ok (fun _ => rfl) Try.func16 body16c0 (noL (by kernel_rfl)) i16c0 o16c0).congr fun x => (e16c0 x).symm
noncomputable def b9c0 : Code := (.seq (.region 0 (regOf Try.f9 0) false) (.seq (.region 1 (regOf Try.f9 1) false) (.seq (.seq (.region 2 (regOf Try.f9 2) false) (.cond (.tmp 17) (.seq (.region 3 (regOf Try.f9 3) false) .ret) .skip)) (.seq (.region 4 (regOf Try.f9 4) false) (.seq (.region 5 (regOf Try.f9 5) true) (.seq (.region 6 (regOf Try.f9 6) true) (.seq (.region 7 (regOf Try.f9 7) false) (.seq (.region 8 (regOf Try.f9 8) false) .ret))))))))
theorem body9c0 : Try.f9.body = some b9c0 := by kernel_rfl
noncomputable def C9c0 : Tab := [(16, c16c0), (18, c18), (26, c26c0)]
theorem C9c0_ok : TabOK Try.prog C9c0 := ⟨c16c0_ok, c18_ok, c26c0_ok, trivial⟩
noncomputable def LO9c0 : Tab := []
noncomputable def i9c0 : Tm := { sl := [(0, .p 0 0), (1, .ki .i64 0), (2, .v tDEv)], bx := [PXc, PNN, PNN, PNN], bf := [] }
noncomputable def o9c0 : OT := (.ret { sl := [(0, .v (.i .i64))], bx := [PXc, PNN, PNN, PNN], bf := [] })
noncomputable def F9c0 (a2 : DEv) (b0_0 : Int) (b0_1 : A1) (b0_2 : A2) (b1_0 : (List Int)) (b1_1 : Int) (b1_2 : A3) (b1_3 : Int) (b1_4 : Int) (b2_0 : (List Int)) (b2_1 : Int) (b2_2 : A3) (b2_3 : Int) (b2_4 : Int) (b3_0 : (List Int)) (b3_1 : Int) (b3_2 : A3) (b3_3 : Int) (b3_4 : Int) : Option ((Int × Unit) × (TX × (TNN × (TNN × (TNN × Unit)))) × Unit) :=
 ((F16c0 a2 b0_0 b0_1 b0_2 b1_0 b1_1 b1_2 b1_3 b1_4 b2_0 b2_1 b2_2 b2_3 b2_4 b3_0 b3_1 b3_2 b3_3 b3_4).bind fun y0 => (bif ((y0.1.2.1 : Int) != 0) then (some ((y0.1.2.1, ()), y0.2.1, ())) else (bif ((decide (0 ≤ ((IntKind.wrap .u64 (y0.1.1.2.1 - 1)) : Int) ∧ ((IntKind.wrap .u64 (y0.1.1.2.1 - 1)) : Int) ≤ (((((y0.2.1.1.2.1).getD (0 : Int).toNat [])).length : Nat) : Int))) && (decide (((IntKind.wrap .u64 (y0.1.1.2.1 - 1)) : Int) = (IntKind.wrap .u64 (y0.1.1.2.1 - 1))))) then (bif (decide ((((((y0.2.1.1.2.1).getD (0 : Int).toNat [])).take ((IntKind.wrap .u64 (y0.1.1.2.1 - 1)) : Int).toNat)).length + ([y0.1.1]).length < lim)) then (bif ((decide (0 ≤ ((IntKind.wrap .u64 (y0.1.1.2.1 - 1)) : Int) ∧ ((IntKind.wrap .u64 (y0.1.1.2.1 - 1)) : Int) ≤ (((((y0.2.1.1.2.2.1).getD (0 : Int).toNat [])).length : Nat) : Int))) && (decide (((IntKind.wrap .u64 (y0.1.1.2.1 - 1)) : Int) = (IntKind.wrap .u64 (y0.1.1.2.1 - 1))))) then (bif (decide ((((((y0.2.1.1.2.2.1).getD (0 : Int).toNat [])).take ((IntKind.wrap .u64 (y0.1.1.2.1 - 1)) : Int).toNat)).length + ([y0.2.1.2.1.1]).length < lim)) then ((F18 y0.2.1.2.1.1 0 y0.1.1.2.1).bind fun y1 => ((F26c0 y0.2.1.1.1 ((y0.2.1.1.2.1).set (0 : Int).toNat (((((y0.2.1.1.2.1).getD (0 : Int).toNat [])).take ((IntKind.wrap .u64 (y0.1.1.2.1 - 1)) : Int).toNat) ++ [y0.1.1])) ((y0.2.1.1.2.2.1).set (0 : Int).toNat (((((y0.2.1.1.2.2.1).getD (0 : Int).toNat [])).take ((IntKind.wrap .u64 (y0.1.1.2.1 - 1)) : Int).toNat) ++ [y0.2.1.2.1.1])) y1.1.1 y0.1.1.2.2.1 y0.2.1.2.1.2.2.1 y0.2.1.2.1.2.2.2.1 y0.2.1.2.1.2.2.2.2.1 y0.2.1.2.2.1.1 y0.2.1.2.2.1.2.1 y0.2.1.2.2.1.2.2.1 y0.2.1.2.2.1.2.2.2.1 y0.2.1.2.2.1.2.2.2.2.1 y0.2.1.2.2.2.1.1 y0.2.1.2.2.2.1.2.1 y0.2.1.2.2.2.1.2.2.1 y0.2.1.2.2.2.1.2.2.2.1 y0.2.1.2.2.2.1.2.2.2.2.1).bind fun y2 => (some ((0, ()), y2.2.1, ())))) else none) else none) else none) else none)))
noncomputable def c9c0 : Con := ⟨i9c0, o9c0, fun x => F9c0 x.1.2.2.1 x.2.1.1.1 x.2.1.1.2.1 x.2.1.1.2.2.1 x.2.1.2.1.1 x.2.1.2.1.2.1 x.2.1.2.1.2.2.1 x.2.1.2.1.2.2.2.1 x.2.1.2.1.2.2.2.2.1 x.2.1.2.2.1.1 x.2.1.2.2.1.2.1 x.2.1.2.2.1.2.2.1 x.2.1.2.2.1.2.2.2.1 x.2.1.2.2.1.2.2.2.2.1 x.2.1.2.2.2.1.1 x.2.1.2.2.2.1.2.1 x.2.1.2.2.2.1.2.2.1 x.2.1.2.2.2.1.2.2.2.1 x.2.1.2.2.2.1.2.2.2.2.1⟩
theorem e9c0 (x : i9c0.E) : vfn Try.prog C9c0 LO9c0 Try.f9 b9c0 i9c0 o9c0 x = c9c0.F x := by kernel_rfl
theorem c9c0_ok : Con.OK Try.prog 9 c9c0 := (fn_ok C9c0_ok (fun _ => rfl) Try.func9 body9c0 (noL (by kernel_rfl)) i9c0 o9c0).congr fun x => (e9c0 x).symm
noncomputable def b13c : Code := (.seq (.region 0 (regOf Try.f13 0) false) (.seq (.region 1 (regOf Try.f13 1) true) .ret))
theorem body13c : Try.f13.body = some b13c := by kernel_rfl
noncomputable def C13c : Tab := [(37, c37)]
theorem C13c_ok : TabOK Try.prog C13c := ⟨c37_ok, trivial⟩
noncomputable def LO13c : Tab := []
noncomputable def i13c : Tm := { sl := [(0, .p 0 0), (1, .v tDEv)], bx := [PXc, PNN, PNN, PNN], bf := [] }
noncomputable def o13c : OT := (.ret { sl := [(0, .v .b)], bx := [PXc, PNN, PNN, PNN], bf := [] })
noncomputable def F13c (a1 : DEv) (b0_0 : Int) (b0_1 : A1) (b0_2 : A2) (b1_0 : (List Int)) (b1_1 : Int) (b1_2 : A3) (b1_3 : Int) (b1_4 : Int) (b2_0 : (List Int)) (b2_1 : Int) (b2_2 : A3) (b2_3 : Int) (b2_4 : Int) (b3_0 : (List Int)) (b3_1 : Int) (b3_2 : A3) (b3_3 : Int) (b3_4 : Int) : Option ((Bool × Unit) × (TX × (TNN × (TNN × (TNN × Unit)))) × Unit) :=
 (bif (decide ((a1.1 : Int) ≥ 0)) then (bif (decide ((a1.1 : Int) < 64)) then (bif (decide ((a1.2.1 : Int) ≥ 1)) then (bif (decide (0 ≤ (a1.1 : Int) ∧ (a1.1 : Int) < ((64 : Nat) : Int))) then (bif (decide ((a1.1 : Int).toNat < 64)) then (bif (decide ((a1.2.1 : Int) ≤ (IntKind.wrap .u64 (((((b0_1).getD (a1.1 : Int).toNat [])).length : Nat) : Int)))) then (bif (decide (0 ≤ (a1.1 : Int) ∧ (a1.1 : Int) < ((64 : Nat) : Int))) then (bif (decide ((a1.1 : Int).toNat < 64)) then (bif (decide (0 ≤ ((IntKind.wrap .u64 (a1.2.1 - 1)) : Int) ∧ ((IntKind.wrap .u64 (a1.2.1 - 1)) : Int) < (((((b0_1).getD (a1.1 : Int).toNat [])).length : Nat) : Int))) then ((F37 ((((b0_1).getD (a1.1 : Int).toNat [])).getD ((IntKind.wrap .u64 (a1.2.1 - 1)) : Int).toNat zE) a1).bind fun y0 => (some ((y0.1.1, ()), ((b0_0, b0_1, b0_2, UU), (b1_0, b1_1, b1_2, b1_3, b1_4, (), ()), (b2_0, b2_1, b2_2, b2_3, b2_4, (), ()), (b3_0, b3_1, b3_2, b3_3, b3_4, (), ()), ()), ()))) else none) else none) else none) else (some ((false, ()), ((b0_0, b0_1, b0_2, UU), (b1_0, b1_1, b1_2, b1_3, b1_4, (), ()), (b2_0, b2_1, b2_2, b2_3, b2_4, (), ()), (b3_0, b3_1, b3_2, b3_3, b3_4, (), ()), ()), ()))) else none) else none) else (some ((false, ()), ((b0_0, b0_1, b0_2, UU), (b1_0, b1_1, b1_2, b1_3, b1_4, (), ()), (b2_0, b2_1, b2_2, b2_3, b2_4, (), ()), (b3_0, b3_1, b3_2, b3_3, b3_4, (), ()), ()), ()))) else (some ((false, ()), ((b0_0, b0_1, b0_2, UU), (b1_0, b1_1, b1_2, b1_3, b1_4, (), ()), (b2_0, b2_1, b2_2, b2_3, b2_4, (), ()), (b3_0, b3_1, b3_2, b3_3, b3_4, (), ()), ()), ()))) else (some ((false, ()), ((b0_0, b0_1, b0_2, UU), (b1_0, b1_1, b1_2, b1_3, b1_4, (), ()), (b2_0, b2_1, b2_2, b2_3, b2_4, (), ()), (b3_0, b3_1, b3_2, b3_3, b3_4, (), ()), ()), ())))
noncomputable def F13csc (a1 : DEv) (s : (TX × (TNN × (TNN × (TNN × Unit))))) : Option ((Bool × Unit) × (TX × (TNN × (TNN × (TNN × Unit)))) × Unit) := F13c a1 s.1.1 s.1.2.1 s.1.2.2.1 s.2.1.1 s.2.1.2.1 s.2.1.2.2.1 s.2.1.2.2.2.1 s.2.1.2.2.2.2.1 s.2.2.1.1 s.2.2.1.2.1 s.2.2.1.2.2.1 s.2.2.1.2.2.2.1 s.2.2.1.2.2.2.2.1 s.2.2.2.1.1 s.2.2.2.1.2.1 s.2.2.2.1.2.2.1 s.2.2.2.1.2.2.2.1 s.2.2.2.1.2.2.2.2.1
noncomputable def c13c : Con := ⟨i13c, o13c, fun x => F13c x.1.2.1 x.2.1.1.1 x.2.1.1.2.1 x.2.1.1.2.2.1 x.2.1.2.1.1 x.2.1.2.1.2.1 x.2.1.2.1.2.2.1 x.2.1.2.1.2.2.2.1 x.2.1.2.1.2.2.2.2.1 x.2.1.2.2.1.1 x.2.1.2.2.1.2.1 x.2.1.2.2.1.2.2.1 x.2.1.2.2.1.2.2.2.1 x.2.1.2.2.1.2.2.2.2.1 x.2.1.2.2.2.1.1 x.2.1.2.2.2.1.2.1 x.2.1.2.2.2.1.2.2.1 x.2.1.2.2.2.1.2.2.2.1 x.2.1.2.2.2.1.2.2.2.2.1⟩
theorem e13c (x : i13c.E) : vfn Try.prog C13c LO13c Try.f13 b13c i13c o13c x = c13c.F x := by kernel_rfl
theorem c13c_ok : Con.OK Try.prog 13 c13c := (fn_ok C13c_ok (fun _ => rfl) Try.func13 body13c (noL (by kernel_rfl)) i13c o13c).congr fun x => (e13c x).symm
noncomputable def b27c1 : Code := b27c0
theorem body27c1 : Try.f27.body = some b27c1 := by kernel_rfl
noncomputable def C27c1 : Tab := []
theorem C27c1_ok : TabOK Try.prog C27c1 := trivial
noncomputable def LO27c1 : Tab := []
noncomputable def i27c1 : Tm := { sl := [(0, .p 0 0), (1, .ki .i64 1)], bx := [PXc, PNN, PNN, PNN], bf := [] }
noncomputable def o27c1 : OT := (.ret { sl := [(0, .p 2 0)], bx := [PXc, PNN, PNN, PNN], bf := [] })
noncomputable def F27c1 (b0_0 : Int) (b0_1 : A1) (b0_2 : A2) (b1_0 : (List Int)) (b1_1 : Int) (b1_2 : A3) (b1_3 : Int) (b1_4 : Int) (b2_0 : (List Int)) (b2_1 : Int) (b2_2 : A3) (b2_3 : Int) (b2_4 : Int) (b3_0 : (List Int)) (b3_1 : Int) (b3_2 : A3) (b3_3 : Int) (b3_4 : Int) : Option ((Unit × Unit) × (TX × (TNN × (TNN × (TNN × Unit)))) × Unit) :=
 (some (((), ()), ((b0_0, b0_1, b0_2, UU), (b1_0, b1_1, b1_2, b1_3, b1_4, (), ()), (b2_0, b2_1, b2_2, b2_3, b2_4, (), ()), (b3_0, b3_1, b3_2, b3_3, b3_4, (), ()), ()), ()))
noncomputable def c27c1 : Con := ⟨i27c1, o27c1, fun x => F27c1 x.2.1.1.1 x.2.1.1.2.1 x.2.1.1.2.2.1 x.2.1.2.1.1 x.2.1.2.1.2.1 x.2.1.2.1.2.2.1 x.2.1.2.1.2.2.2.1 x.2.1.2.1.2.2.2.2.1 x.2.1.2.2.1.1 x.2.1.2.2.1.2.1 x.2.1.2.2.1.2.2.1 x.2.1.2.2.1.2.2.2.1 x.2.1.2.2.1.2.2.2.2.1 x.2.1.2.2.2.1.1 x.2.1.2.2.2.1.2.1 x.2.1.2.2.2.1.2.2.1 x.2.1.2.2.2.1.2.2.2.1 x.2.1.2.2.2.1.2.2.2.2.1⟩
theorem e27c1 (x : i27c1.E) : vfn Try.prog C27c1 LO27c1 Try.f27 b27c1 i27c1 o27c1 x = c27c1.F x := by kernel_rfl
theorem c27c1_ok : Con.OK Try.prog 27 c27c1 := (fn_ok C27c1_ok (fun _ => rfl) Try.func27 body27c1 (noL (by kernel_rfl)) i27c1 o27c1).congr fun x => (e27c1 x).symm
noncomputable def b26c1 : Code := b26c0
theorem body26c1 : Try.f26.body = some b26c1 := by kernel_rfl
noncomputable def C26c1 : Tab := [(48, c48)]
theorem C26c1_ok : TabOK Try.prog C26c1 := ⟨c48_ok, trivial⟩
noncomputable def LO26c1 : Tab := []
noncomputable def i26c1 : Tm := { sl := [(0, .p 0 0), (1, .ki .i64 1)], bx := [PXc, PNN, PNN, PNN], bf := [] }
noncomputable def o26c1 : OT := (.ret { sl := [], bx := [PXc, PNN, PNN, PNN], bf := [] })
noncomputable def F26c1 (b0_0 : Int) (b0_1 : A1) (b0_2 : A2) (b1_0 : (List Int)) (b1_1 : Int) (b1_2 : A3) (b1_3 : Int) (b1_4 : Int) (b2_0 : (List Int)) (b2_1 : Int) (b2_2 : A3) (b2_3 : Int) (b2_4 : Int) (b3_0 : (List Int)) (b3_1 : Int) (b3_2 : A3) (b3_3 : Int) (b3_4 : Int) : Option (Unit × (TX × (TNN × (TNN × (TNN × Unit)))) × Unit) :=
 ((F48 (1, (b2_0, (b2_1, ()))) b2_0 b2_1 b2_2 b2_3 b2_4).bind fun y0 => (some ((), ((b0_0, b0_1, b0_2, UU), (b1_0, b1_1, b1_2, b1_3, b1_4, (), ()), (y0.2.1.1.1, y0.2.1.1.2.1, y0.2.1.1.2.2.1, y0.2.1.1.2.2.2.1, y0.2.1.1.2.2.2.2.1, (), ()), (b3_0, b3_1, b3_2, b3_3, b3_4, (), ()), ()), ())))
noncomputable def c26c1 : Con := ⟨i26c1, o26c1, fun x => F26c1 x.2.1.1.1 x.2.1.1.2.1 x.2.1.1.2.2.1 x.2.1.2.1.1 x.2.1.2.1.2.1 x.2.1.2.1.2.2.1 x.2.1.2.1.2.2.2.1 x.2.1.2.1.2.2.2.2.1 x.2.1.2.2.1.1 x.2.1.2.2.1.2.1 x.2.1.2.2.1.2.2.1 x.2.1.2.2.1.2.2.2.1 x.2.1.2.2.1.2.2.2.2.1 x.2.1.2.2.2.1.1 x.2.1.2.2.2.1.2.1 x.2.1.2.2.2.1.2.2.1 x.2.1.2.2.2.1.2.2.2.1 x.2.1.2.2.2.1.2.2.2.2.1⟩
theorem e26c1 (x : i26c1.E) : vfn Try.prog C26c1 LO26c1 Try.f26 b26c1 i26c1 o26c1 x = c26c1.F x := by kernel_rfl
theorem c26c1_ok : Con.OK Try.prog 26 c26c1 := (fn_ok C26c1_ok (fun _ => rfl) Try.func26 body26c1 (noL (by kernel_rfl)) i26c1 o26c1).congr fun x => (e26c1 x).symm
noncomputable def l11c1_6 : Code := (.seq (.region 6 (regOf Try.f11 6) false) (.seq (.cond (.tmp 15) .skip (.exit 0)) (.seq (.block 1 (.seq (.region 7 (regOf Try.f11 7) false) (.region 8 (regOf Try.f11 8) true))) (.region 9 (regOf Try.f11 9) false))))
noncomputable def b11c1 : Code := (.seq (.region 0 (regOf Try.f11 0) false) (.seq (.region 1 (regOf Try.f11 1) false) (.seq (.region 2 (regOf Try.f11 2) false) (.seq (.seq (.region 3 (regOf Try.f11 3) false) (.cond (.tmp 12) (.seq (.region 4 (regOf Try.f11 4) false) .ret) .skip)) (.seq (.seq (.region 5 (regOf Try.f11 5) false) (.block 0 (.loop l11c1_6))) (.seq (.region 10 (regOf Try.f11 10) false) (.seq (.region 11 (regOf Try.f11 11) false) .ret)))))))
theorem body11c1 : Try.f11.body = some b11c1 := by kernel_rfl
noncomputable def C11c1_6 : Tab := [(31, c31), (900031, cHot)]
theorem C11c1_6_ok : TabOK Try.prog C11c1_6 := ⟨c31_ok, cHot_ok, trivial⟩
noncomputable def LO11c1_6 : Tab := []
noncomputable def i11c1_6 : Tm := { sl := [(0, .p 0 0), (5, .m tDEv 1), (6, .p 2 0), (14, .v (.i .i64))], bx := [[.v (.i .i64), .sg 64 (.l tDEv), .sg 64 (.l (.l (.i .u64))), .p 3 0, .p 2 0, .p 4 0, .nl, .nl, .nl, .nl, .nl, .nl, .nl, .nl, .nl, .nl, .nl, .nl, .nl, .nl, .nl, .nl, .nl, .nl, .nl, .nl, .nl, .nl, .nl, .nl, .nl, .nl, .nl, .nl, .nl, .nl, .nl, .nl, .nl, .nl, .nl, .nl, .nl, .nl, .nl, .nl, .nl, .nl, .nl, .nl, .nl, .nl, .nl, .nl, .nl, .nl, .nl, .nl, .nl, .nl, .nl, .nl, .nl, .nl, .nl, .nl, .nl], [.r tDEv], PNN, PNN, PNN], bf := [] }
noncomputable def o11c1_6 : OT := (.exit 0 { sl := [(5, .m tDEv 5)], bx := [[.v (.i .i64), .sg 64 (.l tDEv), .sg 64 (.l (.l (.i .u64))), .p 3 0, .p 2 0, .p 4 0, .nl, .nl, .nl, .nl, .nl, .nl, .nl, .nl, .nl, .nl, .nl, .nl, .nl, .nl, .nl, .nl, .nl, .nl, .nl, .nl, .nl, .nl, .nl, .nl, .nl, .nl, .nl, .nl, .nl, .nl, .nl, .nl, .nl, .nl, .nl, .nl, .nl, .nl, .nl, .nl, .nl, .nl, .nl, .nl, .nl, .nl, .nl, .nl, .nl, .nl, .nl, .nl, .nl, .nl, .nl, .nl, .nl, .nl, .nl, .nl, .nl], [.g], PNN, PNN, PNN, [.r tDEv]], bf := [] })
noncomputable def T11c1_6 (a14 : Int) (b0_0 : Int) (b0_1 : A1) (b0_2 : A2) (b1_0 : A4) (b2_0 : (List Int)) (b2_1 : Int) (b2_2 : A3) (b2_3 : Int) (b2_4 : Int) (b3_0 : (List Int)) (b3_1 : Int) (b3_2 : A3) (b3_3 : Int) (b3_4 : Int) (b4_0 : (List Int)) (b4_1 : Int) (b4_2 : A3) (b4_3 : Int) (b4_4 : Int) : Option (((Unit × (Unit × (Unit × (Int × Unit)))) × (TX × ((A4 × Unit) × (TNN × (TNN × (TNN × Unit))))) × Unit) ⊕ ((Unit × Unit) × (TX × ((Unit × Unit) × (TNN × (TNN × (TNN × ((A4 × Unit) × Unit)))))) × Unit)) :=
 (bif (decide ((a14 : Int) < 64)) then (bif (decide (0 ≤ (a14 : Int) ∧ (a14 : Int) < ((64 : Nat) : Int))) then (bif (decide ((a14 : Int).toNat < 64)) then ((F31 b2_0 a14).bind fun y0 => (bif (decide (0 ≤ (y0.1.1 : Int) ∧ (y0.1.1 : Int) ≤ (((((b0_1).getD (a14 : Int).toNat [])).length : Nat) : Int))) then (bif (decide ((b1_0).length + (((((b0_1).getD (a14 : Int).toNat [])).take (y0.1.1 : Int).toNat)).length < lim)) then (some (.inl (((), (), (), (IntKind.wrap .i64 (a14 + 1)), ()), ((b0_0, b0_1, b0_2, UU), ((b1_0 ++ ((((b0_1).getD (a14 : Int).toNat [])).take (y0.1.1 : Int).toNat)), ()), (b2_0, b2_1, b2_2, b2_3, b2_4, (), ()), (b3_0, b3_1, b3_2, b3_3, b3_4, (), ()), (b4_0, b4_1, b4_2, b4_3, b4_4, (), ()), ()), ()))) else none) else none)) else none) else none) else (some (.inr (((), ()), ((b0_0, b0_1, b0_2, UU), ((), ()), (b2_0, b2_1, b2_2, b2_3, b2_4, (), ()), (b3_0, b3_1, b3_2, b3_3, b3_4, (), ()), (b4_0, b4_1, b4_2, b4_3, b4_4, (), ()), (b1_0, ()), ()), ()))))
noncomputable def L11c1_6 (a14 : Int) (b0_0 : Int) (b0_1 : A1) (b0_2 : A2) (b1_0 : A4) (b2_0 : (List Int)) (b2_1 : Int) (b2_2 : A3) (b2_3 : Int) (b2_4 : Int) (b3_0 : (List Int)) (b3_1 : Int) (b3_2 : A3) (b3_3 : Int) (b3_4 : Int) (b4_0 : (List Int)) (b4_1 : Int) (b4_2 : A3) (b4_3 : Int) (b4_4 : Int) : Option ((Unit × Unit) × (TX × ((Unit × Unit) × (TNN × (TNN × (TNN × ((A4 × Unit) × Unit)))))) × Unit) := iter (fun x : ((Unit × (Unit × (Unit × (Int × Unit)))) × (TX × ((A4 × Unit) × (TNN × (TNN × (TNN × Unit))))) × Unit) => T11c1_6 x.1.2.2.2.1 x.2.1.1.1 x.2.1.1.2.1 x.2.1.1.2.2.1 x.2.1.2.1.1 x.2.1.2.2.1.1 x.2.1.2.2.1.2.1 x.2.1.2.2.1.2.2.1 x.2.1.2.2.1.2.2.2.1 x.2.1.2.2.1.2.2.2.2.1 x.2.1.2.2.2.1.1 x.2.1.2.2.2.1.2.1 x.2.1.2.2.2.1.2.2.1 x.2.1.2.2.2.1.2.2.2.1 x.2.1.2.2.2.1.2.2.2.2.1 x.2.1.2.2.2.2.1.1 x.2.1.2.2.2.2.1.2.1 x.2.1.2.2.2.2.1.2.2.1 x.2.1.2.2.2.2.1.2.2.2.1 x.2.1.2.2.2.2.1.2.2.2.2.1) 300 (((), (), (), a14, ()), ((b0_0, b0_1, b0_2, UU), (b1_0, ()), (b2_0, b2_1, b2_2, b2_3, b2_4, (), ()), (b3_0, b3_1, b3_2, b3_3, b3_4, (), ()), (b4_0, b4_1, b4_2, b4_3, b4_4, (), ()), ()), ())
noncomputable def k11c1_6 : Con := ⟨i11c1_6, o11c1_6, fun x => L11c1_6 x.1.2.2.2.1 x.2.1.1.1 x.2.1.1.2.1 x.2.1.1.2.2.1 x.2.1.2.1.1 x.2.1.2.2.1.1 x.2.1.2.2.1.2.1 x.2.1.2.2.1.2.2.1 x.2.1.2.2.1.2.2.2.1 x.2.1.2.2.1.2.2.2.2.1 x.2.1.2.2.2.1.1 x.2.1.2.2.2.1.2.1 x.2.1.2.2.2.1.2.2.1 x.2.1.2.2.2.1.2.2.2.1 x.2.1.2.2.2.1.2.2.2.2.1 x.2.1.2.2.2.2.1.1 x.2.1.2.2.2.2.1.2.1 x.2.1.2.2.2.2.1.2.2.1 x.2.1.2.2.2.2.1.2.2.2.1 x.2.1.2.2.2.2.1.2.2.2.2.1⟩
theorem e11c1_6 (x : i11c1_6.E) : vround Try.prog C11c1_6 LO11c1_6 Try.f11.ntmps l11c1_6 i11c1_6 o11c1_6 x = T11c1_6 x.1.2.2.2.1 x.2.1.1.1 x.2.1.1.2.1 x.2.1.1.2.2.1 x.2.1.2.1.1 x.2.1.2.2.1.1 x.2.1.2.2.1.2.1 x.2.1.2.2.1.2.2.1 x.2.1.2.2.1.2.2.2.1 x.2.1.2.2.1.2.2.2.2.1 x.2.1.2.2.2.1.1 x.2.1.2.2.2.1.2.1 x.2.1.2.2.2.1.2.2.1 x.2.1.2.2.2.1.2.2.2.1 x.2.1.2.2.2.1.2.2.2.2.1 x.2.1.2.2.2.2.1.1 x.2.1.2.2.2.2.1.2.1 x.2.1.2.2.2.2.1.2.2.1 x.2.1.2.2.2.2.1.2.2.2.1 x.2.1.2.2.2.2.1.2.2.2.2.1 := by kernel_rfl
theorem k11c1_6_ok : Con.LOK Try.prog Try.f11.ntmps l11c1_6 k11c1_6 := Con.LOK.fuel (loop_ok C11c1_6_ok (noL (by kernel_rfl)) i11c1_6 o11c1_6) 300 (funext e11c1_6)
noncomputable def C11c1 : Tab := [(27, c27c1), (31, c31), (32, c32), (900031, cHot)]
theorem C11c1_ok : TabOK Try.prog C11c1 := ⟨c27c1_ok, c31_ok, c32_ok, cHot_ok, trivial⟩
noncomputable def LO11c1 : Tab := [(6, k11c1_6)]
noncomputable def i11c1 : Tm := { sl := [(0, .p 0 0), (1, .ki .i64 1)], bx := [PXc, PNN, PNN, PNN], bf := [] }
noncomputable def o11c1 : OT := (.ret { sl := [(0, .v (.l tDEv))], bx := [PXc, PNN, PNN, PNN], bf := [] })
noncomputable def F11c1 (b0_0 : Int) (b0_1 : A1) (b0_2 : A2) (b1_0 : (List Int)) (b1_1 : Int) (b1_2 : A3) (b1_3 : Int) (b1_4 : Int) (b2_0 : (List Int)) (b2_1 : Int) (b2_2 : A3) (b2_3 : Int) (b2_4 : Int) (b3_0 : (List Int)) (b3_1 : Int) (b3_2 : A3) (b3_3 : Int) (b3_4 : Int) : Option ((A4 × Unit) × (TX × (TNN × (TNN × (TNN × Unit)))) × Unit) :=
 ((F27c1 b0_0 b0_1 b0_2 b1_0 b1_1 b1_2 b1_3 b1_4 b2_0 b2_1 b2_2 b2_3 b2_4 b3_0 b3_1 b3_2 b3_3 b3_4).bind fun y0 => ((L11c1_6 0 y0.2.1.1.1 y0.2.1.1.2.1 y0.2.1.1.2.2.1 ([] : List DEv) y0.2.1.2.2.1.1 y0.2.1.2.2.1.2.1 y0.2.1.2.2.1.2.2.1 y0.2.1.2.2.1.2.2.2.1 y0.2.1.2.2.1.2.2.2.2.1 y0.2.1.2.1.1 y0.2.1.2.1.2.1 y0.2.1.2.1.2.2.1 y0.2.1.2.1.2.2.2.1 y0.2.1.2.1.2.2.2.2.1 y0.2.1.2.2.2.1.1 y0.2.1.2.2.2.1.2.1 y0.2.1.2.2.2.1.2.2.1 y0.2.1.2.2.2.1.2.2.2.1 y0.2.1.2.2.2.1.2.2.2.2.1).bind fun y1 => ((F32 y1.2.1.2.2.2.2.2.1.1).bind fun y2 => (some ((y2.2.1.1.1, ()), (y1.2.1.1, y1.2.1.2.2.2.1, y1.2.1.2.2.1, (y1.2.1.2.2.2.2.1.1, y1.2.1.2.2.2.2.1.2.1, y1.2.1.2.2.2.2.1.2.2.1, y1.2.1.2.2.2.2.1.2.2.2.1, y1.2.1.2.2.2.2.1.2.2.2.2.1, (), ()), ()), ())))))
noncomputable def F11c1sc (s : (TX × (TNN × (TNN × (TNN × Unit))))) : Option ((A4 × Unit) × (TX × (TNN × (TNN × (TNN × Unit)))) × Unit) := F11c1 s.1.1 s.1.2.1 s.1.2.2.1 s.2.1.1 s.2.1.2.1 s.2.1.2.2.1 s.2.1.2.2.2.1 s.2.1.2.2.2.2.1 s.2.2.1.1 s.2.2.1.2.1 s.2.2.1.2.2.1 s.2.2.1.2.2.2.1 s.2.2.1.2.2.2.2.1 s.2.2.2.1.1 s.2.2.2.1.2.1 s.2.2.2.1.2.2.1 s.2.2.2.1.2.2.2.1 s.2.2.2.1.2.2.2.2.1
noncomputable def c11c1 : Con := ⟨i11c1, o11c1, fun x => F11c1 x.2.1.1.1 x.2.1.1.2.1 x.2.1.1.2.2.1 x.2.1.2.1.1 x.2.1.2.1.2.1 x.2.1.2.1.2.2.1 x.2.1.2.1.2.2.2.1 x.2.1.2.1.2.2.2.2.1 x.2.1.2.2.1.1 x.2.1.2.2.1.2.1 x.2.1.2.2.1.2.2.1 x.2.1.2.2.1.2.2.2.1 x.2.1.2.2.1.2.2.2.2.1 x.2.1.2.2.2.1.1 x.2.1.2.2.2.1.2.1 x.2.1.2.2.2.1.2.2.1 x.2.1.2.2.2.1.2.2.2.1 x.2.1.2.2.2.1.2.2.2.2.1⟩
theorem e11c1 (x : i11c1.E) : vfn Try.prog C11c1 LO11c1 Try.f11 b11c1 i11c1 o11c1 x = c11c1.F x := by kernel_rfl
theorem c11c1_ok : Con.OK Try.prog 11 c11c1 := (fn_ok C11c1_ok (fun _ => rfl) Try.func11 body11c1 (loops_of (l := [l11c1_6]) (by kernel_rfl) (show LoopsOK Try.prog Try.f11.ntmps [l11c1_6] LO11c1 from ⟨k11c1_6_ok, trivial⟩)) i11c1 o11c1).congr fun x => (e11c1 x).symm
noncomputable def l40c1_5 : Code := (.seq (.region 5 (regOf Try.f40 5) false) (.seq (.cond (.tmp 22) .skip (.exit 0)) (.seq (.block 1 (.seq (.region 6 (regOf Try.f40 6) false) (.region 7 (regOf Try.f40 7) false))) (.region 8 (regOf Try.f40 8) false))))
noncomputable def b40c1 : Code := (.seq (.region 0 (regOf Try.f40 0) false) (.seq (.seq (.region 1 (regOf Try.f40 1) false) (.cond (.tmp 11) (.seq (.region 2 (regOf Try.f40 2) false) .ret) .skip)) (.seq (.region 3 (regOf Try.f40 3) false) (.seq (.seq (.region 4 (regOf Try.f40 4) false) (.block 0 (.loop l40c1_5))) (.seq (.region 9 (regOf Try.f40 9) false) .ret)))))
theorem body40c1 : Try.f40.body = some b40c1 := by kernel_rfl
noncomputable def C40c1_5 : Tab := [(56, c56)]
theorem C40c1_5_ok : TabOK Try.prog C40c1_5 := ⟨c56_ok, trivial⟩
noncomputable def LO40c1_5 : Tab := []
noncomputable def i40c1_5 : Tm := { sl := [(5, .p 0 0), (19, .v (.l tDEv)), (20, .v (.i .i64)), (21, .v (.i .i64))], bx := [[.mv 1, .sg 64 .b, .sg 64 .b, .v (.l (.i .u64)), .v (.i .u64), .v (.i .i64), .v (.i .u64)], [.mx 0 []]], bf := [] }
noncomputable def o40c1_5 : OT := (.exit 0 { sl := [], bx := [[.mv 1, .sg 64 .b, .sg 64 .b, .v (.l (.i .u64)), .v (.i .u64), .v (.i .i64), .v (.i .u64)], [.mx 0 []]], bf := [] })
noncomputable def T40c1_5 (a19 : A4) (a20 : Int) (a21 : Int) (b0_1 : (List Bool)) (b0_2 : (List Bool)) (b0_3 : (List Int)) (b0_4 : Int) (b0_5 : Int) (b0_6 : Int) : Option (((Unit × (A4 × (Int × (Int × Unit)))) × ((Unit × ((List Bool) × ((List Bool) × ((List Int) × (Int × (Int × (Int × Unit))))))) × ((Unit × Unit) × Unit)) × Unit) ⊕ (Unit × ((Unit × ((List Bool) × ((List Bool) × ((List Int) × (Int × (Int × (Int × Unit))))))) × ((Unit × Unit) × Unit)) × Unit)) :=
 (bif (decide ((a21 : Int) < a20)) then (bif (decide (0 ≤ (a21 : Int) ∧ (a21 : Int) < (((a19).length : Nat) : Int))) then ((F56 ((a19).getD (a21 : Int).toNat zE) b0_1 b0_2 b0_3 b0_4 b0_5 b0_6).bind fun y0 => (some (.inl (((), a19, a20, (IntKind.wrap .i64 (a21 + 1)), ()), (((), y0.2.1.1.2.1, y0.2.1.1.2.2.1, y0.2.1.1.2.2.2.1, y0.2.1.1.2.2.2.2.1, y0.2.1.1.2.2.2.2.2.1, y0.2.1.1.2.2.2.2.2.2.1, ()), ((), ()), ()), ())))) else none) else (some (.inr ((), (((), b0_1, b0_2, b0_3, b0_4, b0_5, b0_6, ()), ((), ()), ()), ()))))
noncomputable def L40c1_5 (a19 : A4) (a20 : Int) (a21 : Int) (b0_1 : (List Bool)) (b0_2 : (List Bool)) (b0_3 : (List Int)) (b0_4 : Int) (b0_5 : Int) (b0_6 : Int) : Option (Unit × ((Unit × ((List Bool) × ((List Bool) × ((List Int) × (Int × (Int × (Int × Unit))))))) × ((Unit × Unit) × Unit)) × Unit) := iter (fun x : ((Unit × (A4 × (Int × (Int × Unit)))) × ((Unit × ((List Bool) × ((List Bool) × ((List Int) × (Int × (Int × (Int × Unit))))))) × ((Unit × Unit) × Unit)) × Unit) => T40c1_5 x.1.2.1 x.1.2.2.1 x.1.2.2.2.1 x.2.1.1.2.1 x.2.1.1.2.2.1 x.2.1.1.2.2.2.1 x.2.1.1.2.2.2.2.1 x.2.1.1.2.2.2.2.2.1 x.2.1.1.2.2.2.2.2.2.1) 300 (((), a19, a20, a21, ()), (((), b0_1, b0_2, b0_3, b0_4, b0_5, b0_6, ()), ((), ()), ()), ())
noncomputable def k40c1_5 : Con := ⟨i40c1_5, o40c1_5, fun x => L40c1_5 x.1.2.1 x.1.2.2.1 x.1.2.2.2.1 x.2.1.1.2.1 x.2.1.1.2.2.1 x.2.1.1.2.2.2.1 x.2.1.1.2.2.2.2.1 x.2.1.1.2.2.2.2.2.1 x.2.1.1.2.2.2.2.2.2.1⟩
theorem e40c1_5 (x : i40c1_5.E) : vround Try.prog C40c1_5 LO40c1_5 Try.f40.ntmps l40c1_5 i40c1_5 o40c1_5 x = T40c1_5 x.1.2.1 x.1.2.2.1 x.1.2.2.2.1 x.2.1.1.2.1 x.2.1.1.2.2.1 x.2.1.1.2.2.2.1 x.2.1.1.2.2.2.2.1 x.2.1.1.2.2.2.2.2.1 x.2.1.1.2.2.2.2.2.2.1 := by kernel_rfl
theorem k40c1_5_ok : Con.LOK Try.prog Try.f40.ntmps l40c1_5 k40c1_5 := Con.LOK.fuel (loop_ok C40c1_5_ok (noL (by kernel_rfl)) i40c1_5 o40c1_5) 300 (funext e40c1_5)
noncomputable def C40c1 : Tab := [(11, c11c1), (27, c27c1), (55, c55), (56, c56)]
theorem C40c1_ok : TabOK Try.prog C40c1 := ⟨c11c1_ok, c27c1_ok, c55_ok, c56_ok, trivial⟩
noncomputable def LO40c1 : Tab := [(5, k40c1_5)]
noncomputable def i40c1 : Tm := { sl := [(0, .p 0 0), (1, .ki .i64 1)], bx := [PXc, PNN, PNN, PNN], bf := [] }
noncomputable def o40c1 : OT := (.ret { sl := [(0, .p 4 0)], bx := [PXc, PNN, PNN, PNN, [.mv 5, .sg 64 .b, .sg 64 .b, .v (.l (.i .u64)), .v (.i .u64), .v (.i .i64), .v (.i .u64)], [.mx 0 []]], bf := [] })
noncomputable def F40c1 (b0_0 : Int) (b0_1 : A1) (b0_2 : A2) (b1_0 : (List Int)) (b1_1 : Int) (b1_2 : A3) (b1_3 : Int) (b1_4 : Int) (b2_0 : (List Int)) (b2_1 : Int) (b2_2 : A3) (b2_3 : Int) (b2_4 : Int) (b3_0 : (List Int)) (b3_1 : Int) (b3_2 : A3) (b3_3 : Int) (b3_4 : Int) : Option ((Unit × Unit) × (TX × (TNN × (TNN × (TNN × ((Unit × ((List Bool) × ((List Bool) × ((List Int) × (Int × (Int × (Int × Unit))))))) × ((Unit × Unit) × Unit)))))) × Unit) :=
 ((F27c1 b0_0 b0_1 b0_2 b1_0 b1_1 b1_2 b1_3 b1_4 b2_0 b2_1 b2_2 b2_3 b2_4 b3_0 b3_1 b3_2 b3_3 b3_4).bind fun y0 => ((F55 y0.2.1.1.1).bind fun y1 => ((F11c1sc y0.2.1).bind fun y2 => ((L40c1_5 y2.1.1 (((y2.1.1).length : Nat) : Int) 0 y1.2.1.1.2.1 y1.2.1.1.2.2.1 y1.2.1.1.2.2.2.1 y1.2.1.1.2.2.2.2.1 y1.2.1.1.2.2.2.2.2.1 y1.2.1.1.2.2.2.2.2.2.1).bind fun y3 => (some (((), ()), (y2.2.1.1, y2.2.1.2.1, y2.2.1.2.2.1, y2.2.1.2.2.2.1, ((), y3.2.1.1.2.1, y3.2.1.1.2.2.1, y3.2.1.1.2.2.2.1, y3.2.1.1.2.2.2.2.1, y3.2.1.1.2.2.2.2.2.1, y3.2.1.1.2.2.2.2.2.2.1, ()), ((), ()), ()), ()))))))
noncomputable def F40c1sc (s : (TX × (TNN × (TNN × (TNN × Unit))))) : Option ((Unit × Unit) × (TX × (TNN × (TNN × (TNN × ((Unit × ((List Bool) × ((List Bool) × ((List Int) × (Int × (Int × (Int × Unit))))))) × ((Unit × Unit) × Unit)))))) × Unit) := F40c1 s.1.1 s.1.2.1 s.1.2.2.1 s.2.1.1 s.2.1.2.1 s.2.1.2.2.1 s.2.1.2.2.2.1 s.2.1.2.2.2.2.1 s.2.2.1.1 s.2.2.1.2.1 s.2.2.1.2.2.1 s.2.2.1.2.2.2.1 s.2.2.1.2.2.2.2.1 s.2.2.2.1.1 s.2.2.2.1.2.1 s.2.2.2.1.2.2.1 s.2.2.2.1.2.2.2.1 s.2.2.2.1.2.2.2.2.1
noncomputable def c40c1 : Con := ⟨i40c1, o40c1, fun x => F40c1 x.2.1.1.1 x.2.1.1.2.1 x.2.1.1.2.2.1 x.2.1.2.1.1 x.2.1.2.1.2.1 x.2.1.2.1.2.2.1 x.2.1.2.1.2.2.2.1 x.2.1.2.1.2.2.2.2.1 x.2.1.2.2.1.1 x.2.1.2.2.1.2.1 x.2.1.2.2.1.2.2.1 x.2.1.2.2.1.2.2.2.1 x.2.1.2.2.1.2.2.2.2.1 x.2.1.2.2.2.1.1 x.2.1.2.2.2.1.2.1 x.2.1.2.2.2.1.2.2.1 x.2.1.2.2.2.1.2.2.2.1 x.2.1.2.2.2.1.2.2.2.2.1⟩
theorem e40c1 (x : i40c1.E) : vfn Try.prog C40c1 LO40c1 Try.f40 b40c1 i40c1 o40c1 x = c40c1.F x := by kernel_rfl
theorem c40c1_ok : Con.OK Try.prog 40 c40c1 := (fn_ok C40c1_ok (fun _ => rfl) Try.func40 body40c1 (loops_of (l := [l40c1_5]) (by kernel_rfl) (show LoopsOK Try.prog Try.f40.ntmps [l40c1_5] LO40c1 from ⟨k40c1_5_ok, trivial⟩)) i40c1 o40c1).congr fun x => (e40c1 x).symm
noncomputable def b43c1 : Code := b43c0
theorem body43c1 : Try.f43.body = some b43c1 := by kernel_rfl
noncomputable def C43c1 : Tab := [(31, c31), (57, c57)]
theorem C43c1_ok : TabOK Try.prog C43c1 := ⟨c31_ok, c57_ok, trivial⟩
noncomputable def LO43c1 : Tab := []
noncomputable def i43c1 : Tm := { sl := [(0, .p 0 0), (1, .ki .i64 1), (2, .v tDEv)], bx := [PXc, PNN, PNN, PNN], bf := [] }
noncomputable def o43c1 : OT := (.ret { sl := [(0, .v tDEv)], bx := [PXc, PNN, PNN, PNN], bf := [] })
noncomputable def F43c1 (a2 : DEv) (b0_0 : Int) (b0_1 : A1) (b0_2 : A2) (b1_0 : (List Int)) (b1_1 : Int) (b1_2 : A3) (b1_3 : Int) (b1_4 : Int) (b2_0 : (List Int)) (b2_1 : Int) (b2_2 : A3) (b2_3 : Int) (b2_4 : Int) (b3_0 : (List Int)) (b3_1 : Int) (b3_2 : A3) (b3_3 : Int) (b3_4 : Int) : Option ((DEv × Unit) × (TX × (TNN × (TNN × (TNN × Unit)))) × Unit) :=
 ((F31 b2_0 1).bind fun y0 => ((F57 (1, ((IntKind.wrap .u64 (y0.1.1 + 1)), ((IntKind.wrap .u64 (b2_1 + 1)), (a2.2.2.2.1, (a2.2.2.2.2.1, (a2.2.2.2.2.2.1, (a2.2.2.2.2.2.2.1, (a2.2.2.2.2.2.2.2.1, ()))))))))).bind fun y1 => (some ((y1.1.1, ()), ((b0_0, b0_1, b0_2, UU), (b1_0, b1_1, b1_2, b1_3, b1_4, (), ()), (b2_0, b2_1, b2_2, b2_3, b2_4, (), ()), (b3_0, b3_1, b3_2, b3_3, b3_4, (), ()), ()), ()))))
noncomputable def c43c1 : Con := ⟨i43c1, o43c1, fun x => F43c1 x.1.2.2.1 x.2.1.1.1 x.2.1.1.2.1 x.2.1.1.2.2.1 x.2.1.2.1.1 x.2.1.2.1.2.1 x.2.1.2.1.2.2.1 x.2.1.2.1.2.2.2.1 x.2.1.2.1.2.2.2.2.1 x.2.1.2.2.1.1 x.2.1.2.2.1.2.1 x.2.1.2.2.1.2.2.1 x.2.1.2.2.1.2.2.2.1 x.2.1.2.2.1.2.2.2.2.1 x.2.1.2.2.2.1.1 x.2.1.2.2.2.1.2.1 x.2.1.2.2.2.1.2.2.1 x.2.1.2.2.2.1.2.2.2.1 x.2.1.2.2.2.1.2.2.2.2.1⟩
theorem e43c1 (x : i43c1.E) : vfn Try.prog C43c1 LO43c1 Try.f43 b43c1 i43c1 o43c1 x = c43c1.F x := by kernel_rfl
theorem c43c1_ok : Con.OK Try.prog 43 c43c1 := (fn_ok C43c1_ok (fun _ => rfl) Try.func43 body43c1 (noL (by kernel_rfl)) i43c1 o43c1).congr fun x => (e43c1 x).symm
noncomputable def b16c1 : Code := b16c0
theorem body16c1 : Try.f16.body = some b16c1 := by kernel_rfl
noncomputable def C16c1 : Tab := [(12, c12), (27, c27c1), (40, c40c1), (41, c41), (42, c42), (43, c43c1)]
theorem C16c1_ok : TabOK Try.prog C16c1 := ⟨c12_ok, c27c1_ok, c40c1_ok, c41_ok, c42_ok, c43c1_ok, trivial⟩
noncomputable def LO16c1 : Tab := []
noncomputable def i16c1 : Tm := { sl := [(0, .p 0 0), (1, .ki .i64 1), (2, .v tDEv)], bx := [PXc, PNN, PNN, PNN], bf := [] }
noncomputable def o16c1 : OT := (.ret { sl := [(0, .v tDEv), (1, .v (.i .i64))], bx := [PXc, PNN, PNN, PNN], bf := [] })
noncomputable def F16c1 (a2 : DEv) (b0_0 : Int) (b0_1 : A1) (b0_2 : A2) (b1_0 : (List Int)) (b1_1 : Int) (b1_2 : A3) (b1_3 : Int) (b1_4 : Int) (b2_0 : (List Int)) (b2_1 : Int) (b2_2 : A3) (b2_3 : Int) (b2_4 : Int) (b3_0 : (List Int)) (b3_1 : Int) (b3_2 : A3) (b3_3 : Int) (b3_4 : Int) : Option ((DEv × (Int × Unit)) × (TX × (TNN × (TNN × (TNN × Unit)))) × Unit) :=
 ((F27c1 b0_0 b0_1 b0_2 b1_0 b1_1 b1_2 b1_3 b1_4 b2_0 b2_1 b2_2 b2_3 b2_4 b3_0 b3_1 b3_2 b3_3 b3_4).bind fun y0 => ((F40c1sc y0.2.1).bind fun y1 => ((F41 1 y1.2.1.2.2.2.2.1.2.1 y1.2.1.2.2.2.2.1.2.2.1 y1.2.1.2.2.2.2.1.2.2.2.1 y1.2.1.2.2.2.2.1.2.2.2.2.1 y1.2.1.2.2.2.2.1.2.2.2.2.2.1 y1.2.1.2.2.2.2.1.2.2.2.2.2.2.1).bind fun y2 => (bif (!y2.1.1) then (some (((0, (0, (0, (0, (ByteArray.empty, (([] : List Int), (0, (0, ())))))))), 11, ()), (y1.2.1.1, y1.2.1.2.1, y1.2.1.2.2.1, y1.2.1.2.2.2.1, ()), ())) else ((F42 1 y2.2.1.1.2.1 y2.2.1.1.2.2.1 y2.2.1.1.2.2.2.1 y2.2.1.1.2.2.2.2.1 y2.2.1.1.2.2.2.2.2.1 y2.2.1.1.2.2.2.2.2.2.1).bind fun y3 => (bif y3.1.1 then (some (((0, (0, (0, (0, (ByteArray.empty, (([] : List Int), (0, (0, ())))))))), 12, ()), (y1.2.1.1, y1.2.1.2.1, y1.2.1.2.2.1, y1.2.1.2.2.2.1, ()), ())) else ((F43c1 a2 y1.2.1.1.1 y1.2.1.1.2.1 y1.2.1.1.2.2.1 y1.2.1.2.1.1 y1.2.1.2.1.2.1 y1.2.1.2.1.2.2.1 y1.2.1.2.1.2.2.2.1 y1.2.1.2.1.2.2.2.2.1 y1.2.1.2.2.1.1 y1.2.1.2.2.1.2.1 y1.2.1.2.2.1.2.2.1 y1.2.1.2.2.1.2.2.2.1 y1.2.1.2.2.1.2.2.2.2.1 y1.2.1.2.2.2.1.1 y1.2.1.2.2.2.1.2.1 y1.2.1.2.2.2.1.2.2.1 y1.2.1.2.2.2.1.2.2.2.1 y1.2.1.2.2.2.1.2.2.2.2.1).bind fun y4 => ((F12 y4.1.1).bind fun y5 => (bif ((y5.1.1 : Int) != 0) then (some (((0, (0, (0, (0, (ByteArray.empty, (([] : List Int), (0, (0, ())))))))), y5.1.1, ()), y4.2.1, ())) else (bif ((y4.1.1.2.2.2.1 : Int) == 5) then ((F41 y4.1.1.2.2.2.2.2.2.2.1 y3.2.1.1.2.1 y3.2.1.1.2.2.1 y3.2.1.1.2.2.2.1 y3.2.1.1.2.2.2.2.1 y3.2.1.1.2.2.2.2.2.1 y3.2.1.1.2.2.2.2.2.2.1).bind fun y6 => (bif y6.1.1 then (some (((0, (0, (0, (0, (ByteArray.empty, (([] : List Int), (0, (0, ())))))))), 10, ()), y4.2.1, ())) else (some ((y4.1.1, 0, ()), y4.2.1, ())))) else (some ((y4.1.1, 0, ()), y4.2.1, ()))))))))))))
noncomputable def c16c1 : Con := ⟨i16c1, o16c1, fun x => F16c1 x.1.2.2.1 x.2.1.1.1 x.2.1.1.2.1 x.2.1.1.2.2.1 x.2.1.2.1.1 x.2.1.2.1.2.1 x.2.1.2.1.2.2.1 x.2.1.2.1.2.2.2.1 x.2.1.2.1.2.2.2.2.1 x.2.1.2.2.1.1 x.2.1.2.2.1.2.1 x.2.1.2.2.1.2.2.1 x.2.1.2.2.1.2.2.2.1 x.2.1.2.2.1.2.2.2.2.1 x.2.1.2.2.2.1.1 x.2.1.2.2.2.1.2.1 x.2.1.2.2.2.1.2.2.1 x.2.1.2.2.2.1.2.2.2.1 x.2.1.2.2.2.1.2.2.2.2.1⟩
theorem e16c1 (x : i16c1.E) : vfn Try.prog C16c1 LO16c1 Try.f16 b16c1 i16c1 o16c1 x = c16c1.F x := by kernel_rfl
theorem c16c1_ok : Con.OK Try.prog 16 c16c1 := (fn_ok C16c1_ok (fun _ => rfl) Try.func16 body16c1 (noL (by kernel_rfl)) i16c1 o16c1).congr fun x => (e16c1 x).symm
noncomputable def b9c1 : Code := b9c0
theorem body9c1 : Try.f9.body = some b9c1 := by kernel_rfl
noncomputable def C9c1 : Tab := [(16, c16c1), (18, c18), (26, c26c1)]
theorem C9c1_ok : TabOK Try.prog C9c1 := ⟨c16c1_ok, c18_ok, c26c1_ok, trivial⟩
noncomputable def LO9c1 : Tab := []
noncomputable def i9c1 : Tm := { sl := [(0, .p 0 0), (1, .ki .i64 1), (2, .v tDEv)], bx := [PXc, PNN, PNN, PNN], bf := [] }
noncomputable def o9c1 : OT := (.ret { sl := [(0, .v (.i .i64))], bx := [PXc, PNN, PNN, PNN], bf := [] })
noncomputable def F9c1 (a2 : DEv) (b0_0 : Int) (b0_1 : A1) (b0_2 : A2) (b1_0 : (List Int)) (b1_1 : Int) (b1_2 : A3) (b1_3 : Int) (b1_4 : Int) (b2_0 : (List Int)) (b2_1 : Int) (b2_2 : A3) (b2_3 : Int) (b2_4 : Int) (b3_0 : (List Int)) (b3_1 : Int) (b3_2 : A3) (b3_3 : Int) (b3_4 : Int) : Option ((Int × Unit) × (TX × (TNN × (TNN × (TNN × Unit)))) × Unit) :=
 ((F16c1 a2 b0_0 b0_1 b0_2 b1_0 b1_1 b1_2 b1_3 b1_4 b2_0 b2_1 b2_2 b2_3 b2_4 b3_0 b3_1 b3_2 b3_3 b3_4).bind fun y0 => (bif ((y0.1.2.1 : Int) != 0) then (some ((y0.1.2.1, ()), y0.2.1, ())) else (bif ((decide (0 ≤ ((IntKind.wrap .u64 (y0.1.1.2.1 - 1)) : Int) ∧ ((IntKind.wrap .u64 (y0.1.1.2.1 - 1)) : Int) ≤ (((((y0.2.1.1.2.1).getD (1 : Int).toNat [])).length : Nat) : Int))) && (decide (((IntKind.wrap .u64 (y0.1.1.2.1 - 1)) : Int) = (IntKind.wrap .u64 (y0.1.1.2.1 - 1))))) then (bif (decide ((((((y0.2.1.1.2.1).getD (1 : Int).toNat [])).take ((IntKind.wrap .u64 (y0.1.1.2.1 - 1)) : Int).toNat)).length + ([y0.1.1]).length < lim)) then (bif ((decide (0 ≤ ((IntKind.wrap .u64 (y0.1.1.2.1 - 1)) : Int) ∧ ((IntKind.wrap .u64 (y0.1.1.2.1 - 1)) : Int) ≤ (((((y0.2.1.1.2.2.1).getD (1 : Int).toNat [])).length : Nat) : Int))) && (decide (((IntKind.wrap .u64 (y0.1.1.2.1 - 1)) : Int) = (IntKind.wrap .u64 (y0.1.1.2.1 - 1))))) then (bif (decide ((((((y0.2.1.1.2.2.1).getD (1 : Int).toNat [])).take ((IntKind.wrap .u64 (y0.1.1.2.1 - 1)) : Int).toNat)).length + ([y0.2.1.2.2.1.1]).length < lim)) then ((F18 y0.2.1.2.2.1.1 1 y0.1.1.2.1).bind fun y1 => ((F26c1 y0.2.1.1.1 ((y0.2.1.1.2.1).set (1 : Int).toNat (((((y0.2.1.1.2.1).getD (1 : Int).toNat [])).take ((IntKind.wrap .u64 (y0.1.1.2.1 - 1)) : Int).toNat) ++ [y0.1.1])) ((y0.2.1.1.2.2.1).set (1 : Int).toNat (((((y0.2.1.1.2.2.1).getD (1 : Int).toNat [])).take ((IntKind.wrap .u64 (y0.1.1.2.1 - 1)) : Int).toNat) ++ [y0.2.1.2.2.1.1])) y0.2.1.2.1.1 y0.2.1.2.1.2.1 y0.2.1.2.1.2.2.1 y0.2.1.2.1.2.2.2.1 y0.2.1.2.1.2.2.2.2.1 y1.1.1 y0.1.1.2.2.1 y0.2.1.2.2.1.2.2.1 y0.2.1.2.2.1.2.2.2.1 y0.2.1.2.2.1.2.2.2.2.1 y0.2.1.2.2.2.1.1 y0.2.1.2.2.2.1.2.1 y0.2.1.2.2.2.1.2.2.1 y0.2.1.2.2.2.1.2.2.2.1 y0.2.1.2.2.2.1.2.2.2.2.1).bind fun y2 => (some ((0, ()), y2.2.1, ())))) else none) else none) else none) else none)))
noncomputable def F9c1sc (a2 : DEv) (s : (TX × (TNN × (TNN × (TNN × Unit))))) : Option ((Int × Unit) × (TX × (TNN × (TNN × (TNN × Unit)))) × Unit) := F9c1 a2 s.1.1 s.1.2.1 s.1.2.2.1 s.2.1.1 s.2.1.2.1 s.2.1.2.2.1 s.2.1.2.2.2.1 s.2.1.2.2.2.2.1 s.2.2.1.1 s.2.2.1.2.1 s.2.2.1.2.2.1 s.2.2.1.2.2.2.1 s.2.2.1.2.2.2.2.1 s.2.2.2.1.1 s.2.2.2.1.2.1 s.2.2.2.1.2.2.1 s.2.2.2.1.2.2.2.1 s.2.2.2.1.2.2.2.2.1
noncomputable def c9c1 : Con := ⟨i9c1, o9c1, fun x => F9c1 x.1.2.2.1 x.2.1.1.1 x.2.1.1.2.1 x.2.1.1.2.2.1 x.2.1.2.1.1 x.2.1.2.1.2.1 x.2.1.2.1.2.2.1 x.2.1.2.1.2.2.2.1 x.2.1.2.1.2.2.2.2.1 x.2.1.2.2.1.1 x.2.1.2.2.1.2.1 x.2.1.2.2.1.2.2.1 x.2.1.2.2.1.2.2.2.1 x.2.1.2.2.1.2.2.2.2.1 x.2.1.2.2.2.1.1 x.2.1.2.2.2.1.2.1 x.2.1.2.2.2.1.2.2.1 x.2.1.2.2.2.1.2.2.2.1 x.2.1.2.2.2.1.2.2.2.2.1⟩
theorem e9c1 (x : i9c1.E) : vfn Try.prog C9c1 LO9c1 Try.f9 b9c1 i9c1 o9c1 x = c9c1.F x := by kernel_rfl
theorem c9c1_ok : Con.OK Try.prog 9 c9c1 := (fn_ok C9c1_ok (fun _ => rfl) Try.func9 body9c1 (noL (by kernel_rfl)) i9c1 o9c1).congr fun x => (e9c1 x).symm
noncomputable def b14c1 : Code := (.seq (.region 0 (regOf Try.f14 0) false) (.seq (.seq (.region 1 (regOf Try.f14 1) false) (.seq (.region 2 (regOf Try.f14 2) false) (.cond (.tmp 10) (.seq (.region 3 (regOf Try.f14 3) false) .ret) .skip))) (.seq (.region 4 (regOf Try.f14 4) false) .ret)))
theorem body14c1 : Try.f14.body = some b14c1 := by kernel_rfl
noncomputable def C14c1 : Tab := [(27, c27c1), (38, c38)]
theorem C14c1_ok : TabOK Try.prog C14c1 := ⟨c27c1_ok, c38_ok, trivial⟩
noncomputable def LO14c1 : Tab := []
noncomputable def i14c1 : Tm := { sl := [(0, .p 0 0), (1, .ki .i64 1)], bx := [PXc, PNN, PNN, PNN], bf := [] }
noncomputable def o14c1 : OT := (.ret { sl := [(0, .v (.l (.i .u64)))], bx := [PXc, PNN, PNN, PNN], bf := [] })
noncomputable def F14c1 (b0_0 : Int) (b0_1 : A1) (b0_2 : A2) (b1_0 : (List Int)) (b1_1 : Int) (b1_2 : A3) (b1_3 : Int) (b1_4 : Int) (b2_0 : (List Int)) (b2_1 : Int) (b2_2 : A3) (b2_3 : Int) (b2_4 : Int) (b3_0 : (List Int)) (b3_1 : Int) (b3_2 : A3) (b3_3 : Int) (b3_4 : Int) : Option (((List Int) × Unit) × (TX × (TNN × (TNN × (TNN × Unit)))) × Unit) :=
 ((F27c1 b0_0 b0_1 b0_2 b1_0 b1_1 b1_2 b1_3 b1_4 b2_0 b2_1 b2_2 b2_3 b2_4 b3_0 b3_1 b3_2 b3_3 b3_4).bind fun y0 => ((F38 y0.2.1.2.2.1.1).bind fun y1 => (some ((y1.1.1, ()), y0.2.1, ()))))
noncomputable def F14c1sc (s : (TX × (TNN × (TNN × (TNN × Unit))))) : Option (((List Int) × Unit) × (TX × (TNN × (TNN × (TNN × Unit)))) × Unit) := F14c1 s.1.1 s.1.2.1 s.1.2.2.1 s.2.1.1 s.2.1.2.1 s.2.1.2.2.1 s.2.1.2.2.2.1 s.2.1.2.2.2.2.1 s.2.2.1.1 s.2.2.1.2.1 s.2.2.1.2.2.1 s.2.2.1.2.2.2.1 s.2.2.1.2.2.2.2.1 s.2.2.2.1.1 s.2.2.2.1.2.1 s.2.2.2.1.2.2.1 s.2.2.2.1.2.2.2.1 s.2.2.2.1.2.2.2.2.1
noncomputable def c14c1 : Con := ⟨i14c1, o14c1, fun x => F14c1 x.2.1.1.1 x.2.1.1.2.1 x.2.1.1.2.2.1 x.2.1.2.1.1 x.2.1.2.1.2.1 x.2.1.2.1.2.2.1 x.2.1.2.1.2.2.2.1 x.2.1.2.1.2.2.2.2.1 x.2.1.2.2.1.1 x.2.1.2.2.1.2.1 x.2.1.2.2.1.2.2.1 x.2.1.2.2.1.2.2.2.1 x.2.1.2.2.1.2.2.2.2.1 x.2.1.2.2.2.1.1 x.2.1.2.2.2.1.2.1 x.2.1.2.2.2.1.2.2.1 x.2.1.2.2.2.1.2.2.2.1 x.2.1.2.2.2.1.2.2.2.2.1⟩
theorem e14c1 (x : i14c1.E) : vfn Try.prog C14c1 LO14c1 Try.f14 b14c1 i14c1 o14c1 x = c14c1.F x := by kernel_rfl
theorem c14c1_ok : Con.OK Try.prog 14 c14c1 := (fn_ok C14c1_ok (fun _ => rfl) Try.func14 body14c1 (noL (by kernel_rfl)) i14c1 o14c1).congr fun x => (e14c1 x).symm
noncomputable def l30c1_3 : Code := (.seq (.region 3 (regOf Try.f30 3) false) (.seq (.cond (.tmp 19) .skip (.exit 0)) (.seq (.block 1 (.seq (.region 4 (regOf Try.f30 4) false) (.seq (.block 2 (.seq (.region 5 (regOf Try.f30 5) false) (.cond (.tmp 22) (.seq (.region 6 (regOf Try.f30 6) false) .ret) (.seq (.region 7 (regOf Try.f30 7) true) (.cond (.tmp 27) (.seq (.region 8 (regOf Try.f30 8) false) .ret) (.seq (.region 9 (regOf Try.f30 9) true) (.cond (.tmp 39) (.seq (.region 10 (regOf Try.f30 10) false) .ret) .skip))))))) (.region 11 (regOf Try.f30 11) true)))) (.region 12 (regOf Try.f30 12) false))))
noncomputable def b30c1 : Code := (.seq (.region 0 (regOf Try.f30 0) false) (.seq (.region 1 (regOf Try.f30 1) false) (.seq (.seq (.region 2 (regOf Try.f30 2) false) (.block 0 (.loop l30c1_3))) (.seq (.region 13 (regOf Try.f30 13) false) (.seq (.region 14 (regOf Try.f30 14) false) .ret)))))
theorem body30c1 : Try.f30.body = some b30c1 := by kernel_rfl
noncomputable def C30c1_3 : Tab := [(13, c13c), (18, c18), (28, c28), (31, c31)]
theorem C30c1_3_ok : TabOK Try.prog C30c1_3 := ⟨c13c_ok, c18_ok, c28_ok, c31_ok, trivial⟩
noncomputable def LO30c1_3 : Tab := []
noncomputable def i30c1_3 : Tm := { sl := [(0, .p 0 0), (1, .v (.i .i64)), (7, .p 1 0), (16, .v (.l tDEv)), (17, .v (.i .i64)), (18, .v (.i .i64))], bx := [[.v (.i .i64), .sg 64 (.l tDEv), .sg 64 (.l (.l (.i .u64))), .p 2 0, .p 1 0, .p 3 0, .nl, .nl, .nl, .nl, .nl, .nl, .nl, .nl, .nl, .nl, .nl, .nl, .nl, .nl, .nl, .nl, .nl, .nl, .nl, .nl, .nl, .nl, .nl, .nl, .nl, .nl, .nl, .nl, .nl, .nl, .nl, .nl, .nl, .nl, .nl, .nl, .nl, .nl, .nl, .nl, .nl, .nl, .nl, .nl, .nl, .nl, .nl, .nl, .nl, .nl, .nl, .nl, .nl, .nl, .nl, .nl, .nl, .nl, .nl, .nl, .nl], PNN, PNN, PNN], bf := [] }
noncomputable def o30c1_3 : OT := (.two (.ret { sl := [(6, .v (.i .i64))], bx := [[.v (.i .i64), .sg 64 (.l tDEv), .sg 64 (.l (.l (.i .u64))), .p 2 0, .p 1 0, .p 3 0, .nl, .nl, .nl, .nl, .nl, .nl, .nl, .nl, .nl, .nl, .nl, .nl, .nl, .nl, .nl, .nl, .nl, .nl, .nl, .nl, .nl, .nl, .nl, .nl, .nl, .nl, .nl, .nl, .nl, .nl, .nl, .nl, .nl, .nl, .nl, .nl, .nl, .nl, .nl, .nl, .nl, .nl, .nl, .nl, .nl, .nl, .nl, .nl, .nl, .nl, .nl, .nl, .nl, .nl, .nl, .nl, .nl, .nl, .nl, .nl, .nl], PNN, PNN, PNN], bf := [] }) (.exit 0 { sl := [], bx := [[.v (.i .i64), .sg 64 (.l tDEv), .sg 64 (.l (.l (.i .u64))), .p 2 0, .p 1 0, .p 3 0, .nl, .nl, .nl, .nl, .nl, .nl, .nl, .nl, .nl, .nl, .nl, .nl, .nl, .nl, .nl, .nl, .nl, .nl, .nl, .nl, .nl, .nl, .nl, .nl, .nl, .nl, .nl, .nl, .nl, .nl, .nl, .nl, .nl, .nl, .nl, .nl, .nl, .nl, .nl, .nl, .nl, .nl, .nl, .nl, .nl, .nl, .nl, .nl, .nl, .nl, .nl, .nl, .nl, .nl, .nl, .nl, .nl, .nl, .nl, .nl, .nl], PNN, PNN, PNN], bf := [] }))
noncomputable def T30c1_3 (a1 : Int) (a16 : A4) (a17 : Int) (a18 : Int) (b0_0 : Int) (b0_1 : A1) (b0_2 : A2) (b1_0 : (List Int)) (b1_1 : Int) (b1_2 : A3) (b1_3 : Int) (b1_4 : Int) (b2_0 : (List Int)) (b2_1 : Int) (b2_2 : A3) (b2_3 : Int) (b2_4 : Int) (b3_0 : (List Int)) (b3_1 : Int) (b3_2 : A3) (b3_3 : Int) (b3_4 : Int) : Option (((Unit × (Int × (Unit × (A4 × (Int × (Int × Unit)))))) × (TX × (TNN × (TNN × (TNN × Unit)))) × Unit) ⊕ (((Int × Unit) × (TX × (TNN × (TNN × (TNN × Unit)))) × Unit) ⊕ (Unit × (TX × (TNN × (TNN × (TNN × Unit)))) × Unit))) :=
 (bif (decide ((a18 : Int) < a17)) then (bif (decide (0 ≤ (a18 : Int) ∧ (a18 : Int) < (((a16).length : Nat) : Int))) then ((F13c ((a16).getD (a18 : Int).toNat zE) b0_0 b0_1 b0_2 b2_0 b2_1 b2_2 b2_3 b2_4 b1_0 b1_1 b1_2 b1_3 b1_4 b3_0 b3_1 b3_2 b3_3 b3_4).bind fun y0 => (bif (!y0.1.1) then (some (.inr (.inl ((4, ()), (y0.2.1.1, y0.2.1.2.2.1, y0.2.1.2.1, y0.2.1.2.2.2.1, ()), ())))) else ((F31 y0.2.1.2.2.1.1 (((a16).getD (a18 : Int).toNat zE).1)).bind fun y1 => (bif ((((a16).getD (a18 : Int).toNat zE).2.1 : Int) != (IntKind.wrap .u64 (y1.1.1 + 1))) then (some (.inr (.inl ((9, ()), (y0.2.1.1, y0.2.1.2.2.1, y0.2.1.2.1, y0.2.1.2.2.2.1, ()), ())))) else (bif (decide (0 ≤ (((a16).getD (a18 : Int).toNat zE).1 : Int) ∧ (((a16).getD (a18 : Int).toNat zE).1 : Int) < ((64 : Nat) : Int))) then (bif (decide ((((a16).getD (a18 : Int).toNat zE).1 : Int).toNat < 64)) then (bif (decide (0 ≤ ((IntKind.wrap .u64 (((a16).getD (a18 : Int).toNat zE).2.1 - 1)) : Int) ∧ ((IntKind.wrap .u64 (((a16).getD (a18 : Int).toNat zE).2.1 - 1)) : Int) < (((((y0.2.1.1.2.2.1).getD (((a16).getD (a18 : Int).toNat zE).1 : Int).toNat [])).length : Nat) : Int))) then ((F28 ((((y0.2.1.1.2.2.1).getD (((a16).getD (a18 : Int).toNat zE).1 : Int).toNat [])).getD ((IntKind.wrap .u64 (((a16).getD (a18 : Int).toNat zE).2.1 - 1)) : Int).toNat []) y0.2.1.2.2.1.1).bind fun y2 => (bif (!y2.1.1) then (some (.inr (.inl ((10, ()), (y0.2.1.1, y0.2.1.2.2.1, y0.2.1.2.1, y0.2.1.2.2.2.1, ()), ())))) else ((F18 y0.2.1.2.2.1.1 (((a16).getD (a18 : Int).toNat zE).1) (((a16).getD (a18 : Int).toNat zE).2.1)).bind fun y3 => (some (.inl (((), a1, (), a16, a17, (IntKind.wrap .i64 (a18 + 1)), ()), (y0.2.1.1, (y3.1.1, (if (((a16).getD (a18 : Int).toNat zE).2.2.1 : Int) > y0.2.1.2.2.1.2.1 then ((a16).getD (a18 : Int).toNat zE).2.2.1 else y0.2.1.2.2.1.2.1), y0.2.1.2.2.1.2.2.1, y0.2.1.2.2.1.2.2.2.1, y0.2.1.2.2.1.2.2.2.2.1, (), ()), y0.2.1.2.1, y0.2.1.2.2.2.1, ()), ())))))) else none) else none) else none))))) else none) else (some (.inr (.inr ((), ((b0_0, b0_1, b0_2, UU), (b1_0, b1_1, b1_2, b1_3, b1_4, (), ()), (b2_0, b2_1, b2_2, b2_3, b2_4, (), ()), (b3_0, b3_1, b3_2, b3_3, b3_4, (), ()), ()), ())))))
noncomputable def L30c1_3 (a1 : Int) (a16 : A4) (a17 : Int) (a18 : Int) (b0_0 : Int) (b0_1 : A1) (b0_2 : A2) (b1_0 : (List Int)) (b1_1 : Int) (b1_2 : A3) (b1_3 : Int) (b1_4 : Int) (b2_0 : (List Int)) (b2_1 : Int) (b2_2 : A3) (b2_3 : Int) (b2_4 : Int) (b3_0 : (List Int)) (b3_1 : Int) (b3_2 : A3) (b3_3 : Int) (b3_4 : Int) : Option (((Int × Unit) × (TX × (TNN × (TNN × (TNN × Unit)))) × Unit) ⊕ (Unit × (TX × (TNN × (TNN × (TNN × Unit)))) × Unit)) := iter (fun x : ((Unit × (Int × (Unit × (A4 × (Int × (Int × Unit)))))) × (TX × (TNN × (TNN × (TNN × Unit)))) × Unit) => T30c1_3 x.1.2.1 x.1.2.2.2.1 x.1.2.2.2.2.1 x.1.2.2.2.2.2.1 x.2.1.1.1 x.2.1.1.2.1 x.2.1.1.2.2.1 x.2.1.2.1.1 x.2.1.2.1.2.1 x.2.1.2.1.2.2.1 x.2.1.2.1.2.2.2.1 x.2.1.2.1.2.2.2.2.1 x.2.1.2.2.1.1 x.2.1.2.2.1.2.1 x.2.1.2.2.1.2.2.1 x.2.1.2.2.1.2.2.2.1 x.2.1.2.2.1.2.2.2.2.1 x.2.1.2.2.2.1.1 x.2.1.2.2.2.1.2.1 x.2.1.2.2.2.1.2.2.1 x.2.1.2.2.2.1.2.2.2.1 x.2.1.2.2.2.1.2.2.2.2.1) 300 (((), a1, (), a16, a17, a18, ()), ((b0_0, b0_1, b0_2, UU), (b1_0, b1_1, b1_2, b1_3, b1_4, (), ()), (b2_0, b2_1, b2_2, b2_3, b2_4, (), ()), (b3_0, b3_1, b3_2, b3_3, b3_4, (), ()), ()), ())
noncomputable def k30c1_3 : Con := ⟨i30c1_3, o30c1_3, fun x => L30c1_3 x.1.2.1 x.1.2.2.2.1 x.1.2.2.2.2.1 x.1.2.2.2.2.2.1 x.2.1.1.1 x.2.1.1.2.1 x.2.1.1.2.2.1 x.2.1.2.1.1 x.2.1.2.1.2.1 x.2.1.2.1.2.2.1 x.2.1.2.1.2.2.2.1 x.2.1.2.1.2.2.2.2.1 x.2.1.2.2.1.1 x.2.1.2.2.1.2.1 x.2.1.2.2.1.2.2.1 x.2.1.2.2.1.2.2.2.1 x.2.1.2.2.1.2.2.2.2.1 x.2.1.2.2.2.1.1 x.2.1.2.2.2.1.2.1 x.2.1.2.2.2.1.2.2.1 x.2.1.2.2.2.1.2.2.2.1 x.2.1.2.2.2.1.2.2.2.2.1⟩
theorem e30c1_3 (x : i30c1_3.E) : vround Try.prog C30c1_3 LO30c1_3 Try.f30.ntmps l30c1_3 i30c1_3 o30c1_3 x = T30c1_3 x.1.2.1 x.1.2.2.2.1 x.1.2.2.2.2.1 x.1.2.2.2.2.2.1 x.2.1.1.1 x.2.1.1.2.1 x.2.1.1.2.2.1 x.2.1.2.1.1 x.2.1.2.1.2.1 x.2.1.2.1.2.2.1 x.2.1.2.1.2.2.2.1 x.2.1.2.1.2.2.2.2.1 x.2.1.2.2.1.1 x.2.1.2.2.1.2.1 x.2.1.2.2.1.2.2.1 x.2.1.2.2.1.2.2.2.1 x.2.1.2.2.1.2.2.2.2.1 x.2.1.2.2.2.1.1 x.2.1.2.2.2.1.2.1 x.2.1.2.2.2.1.2.2.1 x.2.1.2.2.2.1.2.2.2.1 x.2.1.2.2.2.1.2.2.2.2.1 := by kernel_rfl
theorem k30c1_3_ok : Con.LOK Try.prog Try.f30.ntmps l30c1_3 k30c1_3 := Con.LOK.fuel (loop_ok C30c1_3_ok (noL (by kernel_rfl)) i30c1_3 o30c1_3) 300 (funext e30c1_3)
noncomputable def C30c1 : Tab := [(13, c13c), (18, c18), (26, c26c1), (28, c28), (31, c31)]
theorem C30c1_ok : TabOK Try.prog C30c1 := ⟨c13c_ok, c18_ok, c26c1_ok, c28_ok, c31_ok, trivial⟩
noncomputable def LO30c1 : Tab := [(3, k30c1_3)]
noncomputable def i30c1 : Tm := { sl := [(0, .p 0 0), (1, .ki .i64 1), (2, .v (.l tDEv))], bx := [PXc, PNN, PNN, PNN], bf := [] }
noncomputable def o30c1 : OT := (.ret { sl := [(0, .v (.i .i64))], bx := [PXc, PNN, PNN, PNN], bf := [] })
noncomputable def F30c1 (a2 : A4) (b0_0 : Int) (b0_1 : A1) (b0_2 : A2) (b1_0 : (List Int)) (b1_1 : Int) (b1_2 : A3) (b1_3 : Int) (b1_4 : Int) (b2_0 : (List Int)) (b2_1 : Int) (b2_2 : A3) (b2_3 : Int) (b2_4 : Int) (b3_0 : (List Int)) (b3_1 : Int) (b3_2 : A3) (b3_3 : Int) (b3_4 : Int) : Option ((Int × Unit) × (TX × (TNN × (TNN × (TNN × Unit)))) × Unit) :=
 ((L30c1_3 1 a2 (((a2).length : Nat) : Int) 0 b0_0 b0_1 b0_2 b2_0 b2_1 b2_2 b2_3 b2_4 b1_0 b1_1 b1_2 b1_3 b1_4 b3_0 b3_1 b3_2 b3_3 b3_4).bind fun y0 => (Sum.elim (fun y1 => (some ((y1.1.1, ()), (y1.2.1.1, y1.2.1.2.2.1, y1.2.1.2.1, y1.2.1.2.2.2.1, ()), ()))) (fun y1 => ((F26c1 y1.2.1.1.1 y1.2.1.1.2.1 y1.2.1.1.2.2.1 y1.2.1.2.2.1.1 y1.2.1.2.2.1.2.1 y1.2.1.2.2.1.2.2.1 y1.2.1.2.2.1.2.2.2.1 y1.2.1.2.2.1.2.2.2.2.1 y1.2.1.2.1.1 y1.2.1.2.1.2.1 y1.2.1.2.1.2.2.1 y1.2.1.2.1.2.2.2.1 y1.2.1.2.1.2.2.2.2.1 y1.2.1.2.2.2.1.1 y1.2.1.2.2.2.1.2.1 y1.2.1.2.2.2.1.2.2.1 y1.2.1.2.2.2.1.2.2.2.1 y1.2.1.2.2.2.1.2.2.2.2.1).bind fun y2 => (some ((0, ()), y2.2.1, ())))) y0))
noncomputable def c30c1 : Con := ⟨i30c1, o30c1, fun x => F30c1 x.1.2.2.1 x.2.1.1.1 x.2.1.1.2.1 x.2.1.1.2.2.1 x.2.1.2.1.1 x.2.1.2.1.2.1 x.2.1.2.1.2.2.1 x.2.1.2.1.2.2.2.1 x.2.1.2.1.2.2.2.2.1 x.2.1.2.2.1.1 x.2.1.2.2.1.2.1 x.2.1.2.2.1.2.2.1 x.2.1.2.2.1.2.2.2.1 x.2.1.2.2.1.2.2.2.2.1 x.2.1.2.2.2.1.1 x.2.1.2.2.2.1.2.1 x.2.1.2.2.2.1.2.2.1 x.2.1.2.2.2.1.2.2.2.1 x.2.1.2.2.2.1.2.2.2.2.1⟩
theorem e30c1 (x : i30c1.E) : vfn Try.prog C30c1 LO30c1 Try.f30 b30c1 i30c1 o30c1 x = c30c1.F x := by kernel_rfl
theorem c30c1_ok : Con.OK Try.prog 30 c30c1 := (fn_ok C30c1_ok (fun _ => rfl) Try.func30 body30c1 (loops_of (l := [l30c1_3]) (by kernel_rfl) (show LoopsOK Try.prog Try.f30.ntmps [l30c1_3] LO30c1 from ⟨k30c1_3_ok, trivial⟩)) i30c1 o30c1).congr fun x => (e30c1 x).symm
noncomputable def b10c1 : Code := (.seq (.region 0 (regOf Try.f10 0) false) (.seq (.region 1 (regOf Try.f10 1) false) (.seq (.block 0 (.seq (.region 2 (regOf Try.f10 2) false) (.cond (.tmp 15) (.seq (.region 3 (regOf Try.f10 3) false) .ret) (.seq (.region 4 (regOf Try.f10 4) false) (.cond (.tmp 18) (.seq (.region 5 (regOf Try.f10 5) false) .ret) .skip))))) (.seq (.region 6 (regOf Try.f10 6) false) (.seq (.seq (.region 7 (regOf Try.f10 7) false) (.cond (.tmp 37) (.seq (.region 8 (regOf Try.f10 8) false) .ret) .skip)) (.seq (.region 9 (regOf Try.f10 9) false) .ret))))))
theorem body10c1 : Try.f10.body = some b10c1 := by kernel_rfl
noncomputable def C10c1 : Tab := [(27, c27c1), (28, c28), (29, c29), (30, c30c1)]
theorem C10c1_ok : TabOK Try.prog C10c1 := ⟨c27c1_ok, c28_ok, c29_ok, c30c1_ok, trivial⟩
noncomputable def LO10c1 : Tab := []
noncomputable def i10c1 : Tm := { sl := [(0, .p 0 0), (1, .ki .i64 1), (2, .v (.l (.i .u64))), (3, .v (.l tDEv)), (4, .v (.i .i64))], bx := [PXc, PNN, PNN, PNN], bf := [] }
noncomputable def o10c1 : OT := (.ret { sl := [(0, .v (.i .i64))], bx := [PXc, PNN, PNN, PNN], bf := [] })
noncomputable def F10c1 (a2 : (List Int)) (a3 : A4) (a4 : Int) (b0_0 : Int) (b0_1 : A1) (b0_2 : A2) (b1_0 : (List Int)) (b1_1 : Int) (b1_2 : A3) (b1_3 : Int) (b1_4 : Int) (b2_0 : (List Int)) (b2_1 : Int) (b2_2 : A3) (b2_3 : Int) (b2_4 : Int) (b3_0 : (List Int)) (b3_1 : Int) (b3_2 : A3) (b3_3 : Int) (b3_4 : Int) : Option ((Int × Unit) × (TX × (TNN × (TNN × (TNN × Unit)))) × Unit) :=
 ((F27c1 b0_0 b0_1 b0_2 b1_0 b1_1 b1_2 b1_3 b1_4 b2_0 b2_1 b2_2 b2_3 b2_4 b3_0 b3_1 b3_2 b3_3 b3_4).bind fun y0 => ((F28 a2 y0.2.1.2.2.1.1).bind fun y1 => (bif (!y1.1.1) then (some ((9, ()), y0.2.1, ())) else ((F29 a3 y0.2.1.2.2.1.1 y0.2.1.2.2.1.2.1 y0.2.1.2.2.1.2.2.1 y0.2.1.2.2.1.2.2.2.1 y0.2.1.2.2.1.2.2.2.2.1).bind fun y2 => (bif (decide ((a4 : Int) < 0)) then (some ((1, ()), (y0.2.1.1, y0.2.1.2.1, (y2.2.1.1.1, y2.2.1.1.2.1, y2.2.1.1.2.2.1, y2.2.1.1.2.2.2.1, y2.2.1.1.2.2.2.2.1, (), ()), y0.2.1.2.2.2.1, ()), ())) else (bif (decide ((a4 : Int) > (((y2.1.1).length : Nat) : Int))) then (some ((1, ()), (y0.2.1.1, y0.2.1.2.1, (y2.2.1.1.1, y2.2.1.1.2.1, y2.2.1.1.2.2.1, y2.2.1.1.2.2.2.1, y2.2.1.1.2.2.2.2.1, (), ()), y0.2.1.2.2.2.1, ()), ())) else (bif (decide (0 ≤ (a4 : Int) ∧ (a4 : Int) ≤ (((y2.1.1).length : Nat) : Int))) then ((F30c1 ((y2.1.1).take (a4 : Int).toNat) y0.2.1.1.1 y0.2.1.1.2.1 y0.2.1.1.2.2.1 y0.2.1.2.1.1 y0.2.1.2.1.2.1 y0.2.1.2.1.2.2.1 y0.2.1.2.1.2.2.2.1 y0.2.1.2.1.2.2.2.2.1 y2.2.1.1.1 y2.2.1.1.2.1 y2.2.1.1.2.2.1 y2.2.1.1.2.2.2.1 y2.2.1.1.2.2.2.2.1 y0.2.1.2.2.2.1.1 y0.2.1.2.2.2.1.2.1 y0.2.1.2.2.2.1.2.2.1 y0.2.1.2.2.2.1.2.2.2.1 y0.2.1.2.2.2.1.2.2.2.2.1).bind fun y3 => (some ((y3.1.1, ()), y3.2.1, ()))) else none)))))))
noncomputable def F10c1sc (a2 : (List Int)) (a3 : A4) (a4 : Int) (s : (TX × (TNN × (TNN × (TNN × Unit))))) : Option ((Int × Unit) × (TX × (TNN × (TNN × (TNN × Unit)))) × Unit) := F10c1 a2 a3 a4 s.1.1 s.1.2.1 s.1.2.2.1 s.2.1.1 s.2.1.2.1 s.2.1.2.2.1 s.2.1.2.2.2.1 s.2.1.2.2.2.2.1 s.2.2.1.1 s.2.2.1.2.1 s.2.2.1.2.2.1 s.2.2.1.2.2.2.1 s.2.2.1.2.2.2.2.1 s.2.2.2.1.1 s.2.2.2.1.2.1 s.2.2.2.1.2.2.1 s.2.2.2.1.2.2.2.1 s.2.2.2.1.2.2.2.2.1
noncomputable def c10c1 : Con := ⟨i10c1, o10c1, fun x => F10c1 x.1.2.2.1 x.1.2.2.2.1 x.1.2.2.2.2.1 x.2.1.1.1 x.2.1.1.2.1 x.2.1.1.2.2.1 x.2.1.2.1.1 x.2.1.2.1.2.1 x.2.1.2.1.2.2.1 x.2.1.2.1.2.2.2.1 x.2.1.2.1.2.2.2.2.1 x.2.1.2.2.1.1 x.2.1.2.2.1.2.1 x.2.1.2.2.1.2.2.1 x.2.1.2.2.1.2.2.2.1 x.2.1.2.2.1.2.2.2.2.1 x.2.1.2.2.2.1.1 x.2.1.2.2.2.1.2.1 x.2.1.2.2.2.1.2.2.1 x.2.1.2.2.2.1.2.2.2.1 x.2.1.2.2.2.1.2.2.2.2.1⟩
theorem e10c1 (x : i10c1.E) : vfn Try.prog C10c1 LO10c1 Try.f10 b10c1 i10c1 o10c1 x = c10c1.F x := by kernel_rfl
theorem c10c1_ok : Con.OK Try.prog 10 c10c1 := (fn_ok C10c1_ok (fun _ => rfl) Try.func10 body10c1 (noL (by kernel_rfl)) i10c1 o10c1).congr fun x => (e10c1 x).symm
noncomputable def b27c2 : Code := b27c0
theorem body27c2 : Try.f27.body = some b27c2 := by kernel_rfl
noncomputable def C27c2 : Tab := []
theorem C27c2_ok : TabOK Try.prog C27c2 := trivial
noncomputable def LO27c2 : Tab := []
noncomputable def i27c2 : Tm := { sl := [(0, .p 0 0), (1, .ki .i64 2)], bx := [PXc, PNN, PNN, PNN], bf := [] }
noncomputable def o27c2 : OT := (.ret { sl := [(0, .p 3 0)], bx := [PXc, PNN, PNN, PNN], bf := [] })
noncomputable def F27c2 (b0_0 : Int) (b0_1 : A1) (b0_2 : A2) (b1_0 : (List Int)) (b1_1 : Int) (b1_2 : A3) (b1_3 : Int) (b1_4 : Int) (b2_0 : (List Int)) (b2_1 : Int) (b2_2 : A3) (b2_3 : Int) (b2_4 : Int) (b3_0 : (List Int)) (b3_1 : Int) (b3_2 : A3) (b3_3 : Int) (b3_4 : Int) : Option ((Unit × Unit) × (TX × (TNN × (TNN × (TNN × Unit)))) × Unit) :=
 (some (((), ()), ((b0_0, b0_1, b0_2, UU), (b1_0, b1_1, b1_2, b1_3, b1_4, (), ()), (b2_0, b2_1, b2_2, b2_3, b2_4, (), ()), (b3_0, b3_1, b3_2, b3_3, b3_4, (), ()), ()), ()))
noncomputable def c27c2 : Con := ⟨i27c2, o27c2, fun x => F27c2 x.2.1.1.1 x.2.1.1.2.1 x.2.1.1.2.2.1 x.2.1.2.1.1 x.2.1.2.1.2.1 x.2.1.2.1.2.2.1 x.2.1.2.1.2.2.2.1 x.2.1.2.1.2.2.2.2.1 x.2.1.2.2.1.1 x.2.1.2.2.1.2.1 x.2.1.2.2.1.2.2.1 x.2.1.2.2.1.2.2.2.1 x.2.1.2.2.1.2.2.2.2.1 x.2.1.2.2.2.1.1 x.2.1.2.2.2.1.2.1 x.2.1.2.2.2.1.2.2.1 x.2.1.2.2.2.1.2.2.2.1 x.2.1.2.2.2.1.2.2.2.2.1⟩
theorem e27c2 (x : i27c2.E) : vfn Try.prog C27c2 LO27c2 Try.f27 b27c2 i27c2 o27c2 x = c27c2.F x := by kernel_rfl
theorem c27c2_ok : Con.OK Try.prog 27 c27c2 := (fn_ok C27c2_ok (fun _ => rfl) Try.func27 body27c2 (noL (by kernel_rfl)) i27c2 o27c2).congr fun x => (e27c2 x).symm
noncomputable def b26c2 : Code := b26c0
theorem body26c2 : Try.f26.body = some b26c2 := by kernel_rfl
noncomputable def C26c2 : Tab := [(48, c48)]
theorem C26c2_ok : TabOK Try.prog C26c2 := ⟨c48_ok, trivial⟩
noncomputable def LO26c2 : Tab := []
noncomputable def i26c2 : Tm := { sl := [(0, .p 0 0), (1, .ki .i64 2)], bx := [PXc, PNN, PNN, PNN], bf := [] }
noncomputable def o26c2 : OT := (.ret { sl := [], bx := [PXc, PNN, PNN, PNN], bf := [] })
noncomputable def F26c2 (b0_0 : Int) (b0_1 : A1) (b0_2 : A2) (b1_0 : (List Int)) (b1_1 : Int) (b1_2 : A3) (b1_3 : Int) (b1_4 : Int) (b2_0 : (List Int)) (b2_1 : Int) (b2_2 : A3) (b2_3 : Int) (b2_4 : Int) (b3_0 : (List Int)) (b3_1 : Int) (b3_2 : A3) (b3_3 : Int) (b3_4 : Int) : Option (Unit × (TX × (TNN × (TNN × (TNN × Unit)))) × Unit) :=
 ((F48 (2, (b3_0, (b3_1, ()))) b3_0 b3_1 b3_2 b3_3 b3_4).bind fun y0 => (some ((), ((b0_0, b0_1, b0_2, UU), (b1_0, b1_1, b1_2, b1_3, b1_4, (), ()), (b2_0, b2_1, b2_2, b2_3, b2_4, (), ()), (y0.2.1.1.1, y0.2.1.1.2.1, y0.2.1.1.2.2.1, y0.2.1.1.2.2.2.1, y0.2.1.1.2.2.2.2.1, (), ()), ()), ())))
noncomputable def c26c2 : Con := ⟨i26c2, o26c2, fun x => F26c2 x.2.1.1.1 x.2.1.1.2.1 x.2.1.1.2.2.1 x.2.1.2.1.1 x.2.1.2.1.2.1 x.2.1.2.1.2.2.1 x.2.1.2.1.2.2.2.1 x.2.1.2.1.2.2.2.2.1 x.2.1.2.2.1.1 x.2.1.2.2.1.2.1 x.2.1.2.2.1.2.2.1 x.2.1.2.2.1.2.2.2.1 x.2.1.2.2.1.2.2.2.2.1 x.2.1.2.2.2.1.1 x.2.1.2.2.2.1.2.1 x.2.1.2.2.2.1.2.2.1 x.2.1.2.2.2.1.2.2.2.1 x.2.1.2.2.2.1.2.2.2.2.1⟩
theorem e26c2 (x : i26c2.E) : vfn Try.prog C26c2 LO26c2 Try.f26 b26c2 i26c2 o26c2 x = c26c2.F x := by kernel_rfl
theorem c26c2_ok : Con.OK Try.prog 26 c26c2 := (fn_ok C26c2_ok (fun _ => rfl) Try.func26 body26c2 (noL (by kernel_rfl)) i26c2 o26c2).congr fun x => (e26c2 x).symm
noncomputable def b14c2 : Code := b14c1
theorem body14c2 : Try.f14.body = some b14c2 := by kernel_rfl
noncomputable def C14c2 : Tab := [(27, c27c2), (38, c38)]
theorem C14c2_ok : TabOK Try.prog C14c2 := ⟨c27c2_ok, c38_ok, trivial⟩
noncomputable def LO14c2 : Tab := []
noncomputable def i14c2 : Tm := { sl := [(0, .p 0 0), (1, .ki .i64 2)], bx := [PXc, PNN, PNN, PNN], bf := [] }
noncomputable def o14c2 : OT := (.ret { sl := [(0, .v (.l (.i .u64)))], bx := [PXc, PNN, PNN, PNN], bf := [] })
noncomputable def F14c2 (b0_0 : Int) (b0_1 : A1) (b0_2 : A2) (b1_0 : (List Int)) (b1_1 : Int) (b1_2 : A3) (b1_3 : Int) (b1_4 : Int) (b2_0 : (List Int)) (b2_1 : Int) (b2_2 : A3) (b2_3 : Int) (b2_4 : Int) (b3_0 : (List Int)) (b3_1 : Int) (b3_2 : A3) (b3_3 : Int) (b3_4 : Int) : Option (((List Int) × Unit) × (TX × (TNN × (TNN × (TNN × Unit)))) × Unit) :=
 ((F27c2 b0_0 b0_1 b0_2 b1_0 b1_1 b1_2 b1_3 b1_4 b2_0 b2_1 b2_2 b2_3 b2_4 b3_0 b3_1 b3_2 b3_3 b3_4).bind fun y0 => ((F38 y0.2.1.2.2.2.1.1).bind fun y1 => (some ((y1.1.1, ()), y0.2.1, ()))))
noncomputable def F14c2sc (s : (TX × (TNN × (TNN × (TNN × Unit))))) : Option (((List Int) × Unit) × (TX × (TNN × (TNN × (TNN × Unit)))) × Unit) := F14c2 s.1.1 s.1.2.1 s.1.2.2.1 s.2.1.1 s.2.1.2.1 s.2.1.2.2.1 s.2.1.2.2.2.1 s.2.1.2.2.2.2.1 s.2.2.1.1 s.2.2.1.2.1 s.2.2.1.2.2.1 s.2.2.1.2.2.2.1 s.2.2.1.2.2.2.2.1 s.2.2.2.1.1 s.2.2.2.1.2.1 s.2.2.2.1.2.2.1 s.2.2.2.1.2.2.2.1 s.2.2.2.1.2.2.2.2.1
noncomputable def c14c2 : Con := ⟨i14c2, o14c2, fun x => F14c2 x.2.1.1.1 x.2.1.1.2.1 x.2.1.1.2.2.1 x.2.1.2.1.1 x.2.1.2.1.2.1 x.2.1.2.1.2.2.1 x.2.1.2.1.2.2.2.1 x.2.1.2.1.2.2.2.2.1 x.2.1.2.2.1.1 x.2.1.2.2.1.2.1 x.2.1.2.2.1.2.2.1 x.2.1.2.2.1.2.2.2.1 x.2.1.2.2.1.2.2.2.2.1 x.2.1.2.2.2.1.1 x.2.1.2.2.2.1.2.1 x.2.1.2.2.2.1.2.2.1 x.2.1.2.2.2.1.2.2.2.1 x.2.1.2.2.2.1.2.2.2.2.1⟩
theorem e14c2 (x : i14c2.E) : vfn Try.prog C14c2 LO14c2 Try.f14 b14c2 i14c2 o14c2 x = c14c2.F x := by kernel_rfl
theorem c14c2_ok : Con.OK Try.prog 14 c14c2 := (fn_ok C14c2_ok (fun _ => rfl) Try.func14 body14c2 (noL (by kernel_rfl)) i14c2 o14c2).congr fun x => (e14c2 x).symm
noncomputable def l30c2_3 : Code := (.seq (.region 3 (regOf Try.f30 3) false) (.seq (.cond (.tmp 19) .skip (.exit 0)) (.seq (.block 1 (.seq (.region 4 (regOf Try.f30 4) false) (.seq (.block 2 (.seq (.region 5 (regOf Try.f30 5) false) (.cond (.tmp 22) (.seq (.region 6 (regOf Try.f30 6) false) .ret) (.seq (.region 7 (regOf Try.f30 7) true) (.cond (.tmp 27) (.seq (.region 8 (regOf Try.f30 8) false) .ret) (.seq (.region 9 (regOf Try.f30 9) true) (.cond (.tmp 39) (.seq (.region 10 (regOf Try.f30 10) false) .ret) .skip))))))) (.region 11 (regOf Try.f30 11) true)))) (.region 12 (regOf Try.f30 12) false))))
noncomputable def b30c2 : Code := (.seq (.region 0 (regOf Try.f30 0) false) (.seq (.region 1 (regOf Try.f30 1) false) (.seq (.seq (.region 2 (regOf Try.f30 2) false) (.block 0 (.loop l30c2_3))) (.seq (.region 13 (regOf Try.f30 13) false) (.seq (.region 14 (regOf Try.f30 14) false) .ret)))))
theorem body30c2 : Try.f30.body = some b30c2 := by kernel_rfl
noncomputable def C30c2_3 : Tab := [(13, c13c), (18, c18), (28, c28), (31, c31)]
theorem C30c2_3_ok : TabOK Try.prog C30c2_3 := ⟨c13c_ok, c18_ok, c28_ok, c31_ok, trivial⟩
noncomputable def LO30c2_3 : Tab := []
noncomputable def i30c2_3 : Tm := { sl := [(0, .p 0 0), (1, .v (.i .i64)), (7, .p 1 0), (16, .v (.l tDEv)), (17, .v (.i .i64)), (18, .v (.i .i64))], bx := [[.v (.i .i64), .sg 64 (.l tDEv), .sg 64 (.l (.l (.i .u64))), .p 2 0, .p 3 0, .p 1 0, .nl, .nl, .nl, .nl, .nl, .nl, .nl, .nl, .nl, .nl, .nl, .nl, .nl, .nl, .nl, .nl, .nl, .nl, .nl, .nl, .nl, .nl, .nl, .nl, .nl, .nl, .nl, .nl, .nl, .nl, .nl, .nl, .nl, .nl, .nl, .nl, .nl, .nl, .nl, .nl, .nl, .nl, .nl, .nl, .nl, .nl, .nl, .nl, .nl, .nl, .nl, .nl, .nl, .nl, .nl, .nl, .nl, .nl, .nl, .nl, .nl], PNN, PNN, PNN], bf := [] }
noncomputable def o30c2_3 : OT := (.two (.ret { sl := [(6, .v (.i .i64))], bx := [[.v (.i .i64), .sg 64 (.l tDEv), .sg 64 (.l (.l (.i .u64))), .p 2 0, .p 3 0, .p 1 0, .nl, .nl, .nl, .nl, .nl, .nl, .nl, .nl, .nl, .nl, .nl, .nl, .nl, .nl, .nl, .nl, .nl, .nl, .nl, .nl, .nl, .nl, .nl, .nl, .nl, .nl, .nl, .nl, .nl, .nl, .nl, .nl, .nl, .nl, .nl, .nl, .nl, .nl, .nl, .nl, .nl, .nl, .nl, .nl, .nl, .nl, .nl, .nl, .nl, .nl, .nl, .nl, .nl, .nl, .nl, .nl, .nl, .nl, .nl, .nl, .nl], PNN, PNN, PNN], bf := [] }) (.exit 0 { sl := [], bx := [[.v (.i .i64), .sg 64 (.l tDEv), .sg 64 (.l (.l (.i .u64))), .p 2 0, .p 3 0, .p 1 0, .nl, .nl, .nl, .nl, .nl, .nl, .nl, .nl, .nl, .nl, .nl, .nl, .nl, .nl, .nl, .nl, .nl, .nl, .nl, .nl, .nl, .nl, .nl, .nl, .nl, .nl, .nl, .nl, .nl, .nl, .nl, .nl, .nl, .nl, .nl, .nl, .nl, .nl, .nl, .nl, .nl, .nl, .nl, .nl, .nl, .nl, .nl, .nl, .nl, .nl, .nl, .nl, .nl, .nl, .nl, .nl, .nl, .nl, .nl, .nl, .nl], PNN, PNN, PNN], bf := [] }))
noncomputable def T30c2_3 (a1 : Int) (a16 : A4) (a17 : Int) (a18 : Int) (b0_0 : Int) (b0_1 : A1) (b0_2 : A2) (b1_0 : (List Int)) (b1_1 : Int) (b1_2 : A3) (b1_3 : Int) (b1_4 : Int) (b2_0 : (List Int)) (b2_1 : Int) (b2_2 : A3) (b2_3 : Int) (b2_4 : Int) (b3_0 : (List Int)) (b3_1 : Int) (b3_2 : A3) (b3_3 : Int) (b3_4 : Int) : Option (((Unit × (Int × (Unit × (A4 × (Int × (Int × Unit)))))) × (TX × (TNN × (TNN × (TNN × Unit)))) × Unit) ⊕ (((Int × Unit) × (TX × (TNN × (TNN × (TNN × Unit)))) × Unit) ⊕ (Unit × (TX × (TNN × (TNN × (TNN × Unit)))) × Unit))) :=
 (bif (decide ((a18 : Int) < a17)) then (bif (decide (0 ≤ (a18 : Int) ∧ (a18 : Int) < (((a16).length : Nat) : Int))) then ((F13c ((a16).getD (a18 : Int).toNat zE) b0_0 b0_1 b0_2 b2_0 b2_1 b2_2 b2_3 b2_4 b3_0 b3_1 b3_2 b3_3 b3_4 b1_0 b1_1 b1_2 b1_3 b1_4).bind fun y0 => (bif (!y0.1.1) then (some (.inr (.inl ((4, ()), (y0.2.1.1, y0.2.1.2.2.2.1, y0.2.1.2.1, y0.2.1.2.2.1, ()), ())))) else ((F31 y0.2.1.2.2.2.1.1 (((a16).getD (a18 : Int).toNat zE).1)).bind fun y1 => (bif ((((a16).getD (a18 : Int).toNat zE).2.1 : Int) != (IntKind.wrap .u64 (y1.1.1 + 1))) then (some (.inr (.inl ((9, ()), (y0.2.1.1, y0.2.1.2.2.2.1, y0.2.1.2.1, y0.2.1.2.2.1, ()), ())))) else (bif (decide (0 ≤ (((a16).getD (a18 : Int).toNat zE).1 : Int) ∧ (((a16).getD (a18 : Int).toNat zE).1 : Int) < ((64 : Nat) : Int))) then (bif (decide ((((a16).getD (a18 : Int).toNat zE).1 : Int).toNat < 64)) then (bif (decide (0 ≤ ((IntKind.wrap .u64 (((a16).getD (a18 : Int).toNat zE).2.1 - 1)) : Int) ∧ ((IntKind.wrap .u64 (((a16).getD (a18 : Int).toNat zE).2.1 - 1)) : Int) < (((((y0.2.1.1.2.2.1).getD (((a16).getD (a18 : Int).toNat zE).1 : Int).toNat [])).length : Nat) : Int))) then ((F28 ((((y0.2.1.1.2.2.1).getD (((a16).getD (a18 : Int).toNat zE).1 : Int).toNat [])).getD ((IntKind.wrap .u64 (((a16).getD (a18 : Int).toNat zE).2.1 - 1)) : Int).toNat []) y0.2.1.2.2.2.1.1).bind fun y2 => (bif (!y2.1.1) then (some (.inr (.inl ((10, ()), (y0.2.1.1, y0.2.1.2.2.2.1, y0.2.1.2.1, y0.2.1.2.2.1, ()), ())))) else ((F18 y0.2.1.2.2.2.1.1 (((a16).getD (a18 : Int).toNat zE).1) (((a16).getD (a18 : Int).toNat zE).2.1)).bind fun y3 => (some (.inl (((), a1, (), a16, a17, (IntKind.wrap .i64 (a18 + 1)), ()), (y0.2.1.1, (y3.1.1, (if (((a16).getD (a18 : Int).toNat zE).2.2.1 : Int) > y0.2.1.2.2.2.1.2.1 then ((a16).getD (a18 : Int).toNat zE).2.2.1 else y0.2.1.2.2.2.1.2.1), y0.2.1.2.2.2.1.2.2.1, y0.2.1.2.2.2.1.2.2.2.1, y0.2.1.2.2.2.1.2.2.2.2.1, (), ()), y0.2.1.2.1, y0.2.1.2.2.1, ()), ())))))) else none) else none) else none))))) else none) else (some (.inr (.inr ((), ((b0_0, b0_1, b0_2, UU), (b1_0, b1_1, b1_2, b1_3, b1_4, (), ()), (b2_0, b2_1, b2_2, b2_3, b2_4, (), ()), (b3_0, b3_1, b3_2, b3_3, b3_4, (), ()), ()), ())))))
noncomputable def L30c2_3 (a1 : Int) (a16 : A4) (a17 : Int) (a18 : Int) (b0_0 : Int) (b0_1 : A1) (b0_2 : A2) (b1_0 : (List Int)) (b1_1 : Int) (b1_2 : A3) (b1_3 : Int) (b1_4 : Int) (b2_0 : (List Int)) (b2_1 : Int) (b2_2 : A3) (b2_3 : Int) (b2_4 : Int) (b3_0 : (List Int)) (b3_1 : Int) (b3_2 : A3) (b3_3 : Int) (b3_4 : Int) : Option (((Int × Unit) × (TX × (TNN × (TNN × (TNN × Unit)))) × Unit) ⊕ (Unit × (TX × (TNN × (TNN × (TNN × Unit)))) × Unit)) := iter (fun x : ((Unit × (Int × (Unit × (A4 × (Int × (Int × Unit)))))) × (TX × (TNN × (TNN × (TNN × Unit)))) × Unit) => T30c2_3 x.1.2.1 x.1.2.2.2.1 x.1.2.2.2.2.1 x.1.2.2.2.2.2.1 x.2.1.1.1 x.2.1.1.2.1 x.2.1.1.2.2.1 x.2.1.2.1.1 x.2.1.2.1.2.1 x.2.1.2.1.2.2.1 x.2.1.2.1.2.2.2.1 x.2.1.2.1.2.2.2.2.1 x.2.1.2.2.1.1 x.2.1.2.2.1.2.1 x.2.1.2.2.1.2.2.1 x.2.1.2.2.1.2.2.2.1 x.2.1.2.2.1.2.2.2.2.1 x.2.1.2.2.2.1.1 x.2.1.2.2.2.1.2.1 x.2.1.2.2.2.1.2.2.1 x.2.1.2.2.2.1.2.2.2.1 x.2.1.2.2.2.1.2.2.2.2.1) 300 (((), a1, (), a16, a17, a18, ()), ((b0_0, b0_1, b0_2, UU), (b1_0, b1_1, b1_2, b1_3, b1_4, (), ()), (b2_0, b2_1, b2_2, b2_3, b2_4, (), ()), (b3_0, b3_1, b3_2, b3_3, b3_4, (), ()), ()), ())
noncomputable def k30c2_3 : Con := ⟨i30c2_3, o30c2_3, fun x => L30c2_3 x.1.2.1 x.1.2.2.2.1 x.1.2.2.2.2.1 x.1.2.2.2.2.2.1 x.2.1.1.1 x.2.1.1.2.1 x.2.1.1.2.2.1 x.2.1.2.1.1 x.2.1.2.1.2.1 x.2.1.2.1.2.2.1 x.2.1.2.1.2.2.2.1 x.2.1.2.1.2.2.2.2.1 x.2.1.2.2.1.1 x.2.1.2.2.1.2.1 x.2.1.2.2.1.2.2.1 x.2.1.2.2.1.2.2.2.1 x.2.1.2.2.1.2.2.2.2.1 x.2.1.2.2.2.1.1 x.2.1.2.2.2.1.2.1 x.2.1.2.2.2.1.2.2.1 x.2.1.2.2.2.1.2.2.2.1 x.2.1.2.2.2.1.2.2.2.2.1⟩
theorem e30c2_3 (x : i30c2_3.E) : vround Try.prog C30c2_3 LO30c2_3 Try.f30.ntmps l30c2_3 i30c2_3 o30c2_3 x = T30c2_3 x.1.2.1 x.1.2.2.2.1 x.1.2.2.2.2.1 x.1.2.2.2.2.2.1 x.2.1.1.1 x.2.1.1.2.1 x.2.1.1.2.2.1 x.2.1.2.1.1 x.2.1.2.1.2.1 x.2.1.2.1.2.2.1 x.2.1.2.1.2.2.2.1 x.2.1.2.1.2.2.2.2.1 x.2.1.2.2.1.1 x.2.1.2.2.1.2.1 x.2.1.2.2.1.2.2.1 x.2.1.2.2.1.2.2.2.1 x.2.1.2.2.1.2.2.2.2.1 x.2.1.2.2.2.1.1 x.2.1.2.2.2.1.2.1 x.2.1.2.2.2.1.2.2.1 x.2.1.2.2.2.1.2.2.2.1 x.2.1.2.2.2.1.2.2.2.2.1 := by kernel_rfl
theorem k30c2_3_ok : Con.LOK Try.prog Try.f30.ntmps l30c2_3 k30c2_3 := Con.LOK.fuel (loop_ok C30c2_3_ok (noL (by kernel_rfl)) i30c2_3 o30c2_3) 300 (funext e30c2_3)
noncomputable def C30c2 : Tab := [(13, c13c), (18, c18), (26, c26c2), (28, c28), (31, c31)]
theorem C30c2_ok : TabOK Try.prog C30c2 := ⟨c13c_ok, c18_ok, c26c2_ok, c28_ok, c31_ok, trivial⟩
noncomputable def LO30c2 : Tab := [(3, k30c2_3)]
noncomputable def i30c2 : Tm := { sl := [(0, .p 0 0), (1, .ki .i64 2), (2, .v (.l tDEv))], bx := [PXc, PNN, PNN, PNN], bf := [] }
noncomputable def o30c2 : OT := (.ret { sl := [(0, .v (.i .i64))], bx := [PXc, PNN, PNN, PNN], bf := [] })
noncomputable def F30c2 (a2 : A4) (b0_0 : Int) (b0_1 : A1) (b0_2 : A2) (b1_0 : (List Int)) (b1_1 : Int) (b1_2 : A3) (b1_3 : Int) (b1_4 : Int) (b2_0 : (List Int)) (b2_1 : Int) (b2_2 : A3) (b2_3 : Int) (b2_4 : Int) (b3_0 : (List Int)) (b3_1 : Int) (b3_2 : A3) (b3_3 : Int) (b3_4 : Int) : Option ((Int × Unit) × (TX × (TNN × (TNN × (TNN × Unit)))) × Unit) :=
 ((L30c2_3 2 a2 (((a2).length : Nat) : Int) 0 b0_0 b0_1 b0_2 b3_0 b3_1 b3_2 b3_3 b3_4 b1_0 b1_1 b1_2 b1_3 b1_4 b2_0 b2_1 b2_2 b2_3 b2_4).bind fun y0 => (Sum.elim (fun y1 => (some ((y1.1.1, ()), (y1.2.1.1, y1.2.1.2.2.1, y1.2.1.2.2.2.1, y1.2.1.2.1, ()), ()))) (fun y1 => ((F26c2 y1.2.1.1.1 y1.2.1.1.2.1 y1.2.1.1.2.2.1 y1.2.1.2.2.1.1 y1.2.1.2.2.1.2.1 y1.2.1.2.2.1.2.2.1 y1.2.1.2.2.1.2.2.2.1 y1.2.1.2.2.1.2.2.2.2.1 y1.2.1.2.2.2.1.1 y1.2.1.2.2.2.1.2.1 y1.2.1.2.2.2.1.2.2.1 y1.2.1.2.2.2.1.2.2.2.1 y1.2.1.2.2.2.1.2.2.2.2.1 y1.2.1.2.1.1 y1.2.1.2.1.2.1 y1.2.1.2.1.2.2.1 y1.2.1.2.1.2.2.2.1 y1.2.1.2.1.2.2.2.2.1).bind fun y2 => (some ((0, ()), y2.2.1, ())))) y0))
noncomputable def c30c2 : Con := ⟨i30c2, o30c2, fun x => F30c2 x.1.2.2.1 x.2.1.1.1 x.2.1.1.2.1 x.2.1.1.2.2.1 x.2.1.2.1.1 x.2.1.2.1.2.1 x.2.1.2.1.2.2.1 x.2.1.2.1.2.2.2.1 x.2.1.2.1.2.2.2.2.1 x.2.1.2.2.1.1 x.2.1.2.2.1.2.1 x.2.1.2.2.1.2.2.1 x.2.1.2.2.1.2.2.2.1 x.2.1.2.2.1.2.2.2.2.1 x.2.1.2.2.2.1.1 x.2.1.2.2.2.1.2.1 x.2.1.2.2.2.1.2.2.1 x.2.1.2.2.2.1.2.2.2.1 x.2.1.2.2.2.1.2.2.2.2.1⟩
theorem e30c2 (x : i30c2.E) : vfn Try.prog C30c2 LO30c2 Try.f30 b30c2 i30c2 o30c2 x = c30c2.F x := by kernel_rfl
theorem c30c2_ok : Con.OK Try.prog 30 c30c2 := (fn_ok C30c2_ok (fun _ => rfl) Try.func30 body30c2 (loops_of (l := [l30c2_3]) (by kernel_rfl) (show LoopsOK Try.prog Try.f30.ntmps [l30c2_3] LO30c2 from ⟨k30c2_3_ok, trivial⟩)) i30c2 o30c2).congr fun x => (e30c2 x).symm
noncomputable def b10c2 : Code := b10c1
theorem body10c2 : Try.f10.body = some b10c2 := by kernel_rfl
noncomputable def C10c2 : Tab := [(27, c27c2), (28, c28), (29, c29), (30, c30c2)]
theorem C10c2_ok : TabOK Try.prog C10c2 := ⟨c27c2_ok, c28_ok, c29_ok, c30c2_ok, trivial⟩
noncomputable def LO10c2 : Tab := []
noncomputable def i10c2 : Tm := { sl := [(0, .p 0 0), (1, .ki .i64 2), (2, .v (.l (.i .u64))), (3, .v (.l tDEv)), (4, .v (.i .i64))], bx := [PXc, PNN, PNN, PNN], bf := [] }
noncomputable def o10c2 : OT := (.ret { sl := [(0, .v (.i .i64))], bx := [PXc, PNN, PNN, PNN], bf := [] })
noncomputable def F10c2 (a2 : (List Int)) (a3 : A4) (a4 : Int) (b0_0 : Int) (b0_1 : A1) (b0_2 : A2) (b1_0 : (List Int)) (b1_1 : Int) (b1_2 : A3) (b1_3 : Int) (b1_4 : Int) (b2_0 : (List Int)) (b2_1 : Int) (b2_2 : A3) (b2_3 : Int) (b2_4 : Int) (b3_0 : (List Int)) (b3_1 : Int) (b3_2 : A3) (b3_3 : Int) (b3_4 : Int) : Option ((Int × Unit) × (TX × (TNN × (TNN × (TNN × Unit)))) × Unit) :=
 ((F27c2 b0_0 b0_1 b0_2 b1_0 b1_1 b1_2 b1_3 b1_4 b2_0 b2_1 b2_2 b2_3 b2_4 b3_0 b3_1 b3_2 b3_3 b3_4).bind fun y0 => ((F28 a2 y0.2.1.2.2.2.1.1).bind fun y1 => (bif (!y1.1.1) then (some ((9, ()), y0.2.1, ())) else ((F29 a3 y0.2.1.2.2.2.1.1 y0.2.1.2.2.2.1.2.1 y0.2.1.2.2.2.1.2.2.1 y0.2.1.2.2.2.1.2.2.2.1 y0.2.1.2.2.2.1.2.2.2.2.1).bind fun y2 => (bif (decide ((a4 : Int) < 0)) then (some ((1, ()), (y0.2.1.1, y0.2.1.2.1, y0.2.1.2.2.1, (y2.2.1.1.1, y2.2.1.1.2.1, y2.2.1.1.2.2.1, y2.2.1.1.2.2.2.1, y2.2.1.1.2.2.2.2.1, (), ()), ()), ())) else (bif (decide ((a4 : Int) > (((y2.1.1).length : Nat) : Int))) then (some ((1, ()), (y0.2.1.1, y0.2.1.2.1, y0.2.1.2.2.1, (y2.2.1.1.1, y2.2.1.1.2.1, y2.2.1.1.2.2.1, y2.2.1.1.2.2.2.1, y2.2.1.1.2.2.2.2.1, (), ()), ()), ())) else (bif (decide (0 ≤ (a4 : Int) ∧ (a4 : Int) ≤ (((y2.1.1).length : Nat) : Int))) then ((F30c2 ((y2.1.1).take (a4 : Int).toNat) y0.2.1.1.1 y0.2.1.1.2.1 y0.2.1.1.2.2.1 y0.2.1.2.1.1 y0.2.1.2.1.2.1 y0.2.1.2.1.2.2.1 y0.2.1.2.1.2.2.2.1 y0.2.1.2.1.2.2.2.2.1 y0.2.1.2.2.1.1 y0.2.1.2.2.1.2.1 y0.2.1.2.2.1.2.2.1 y0.2.1.2.2.1.2.2.2.1 y0.2.1.2.2.1.2.2.2.2.1 y2.2.1.1.1 y2.2.1.1.2.1 y2.2.1.1.2.2.1 y2.2.1.1.2.2.2.1 y2.2.1.1.2.2.2.2.1).bind fun y3 => (some ((y3.1.1, ()), y3.2.1, ()))) else none)))))))
noncomputable def F10c2sc (a2 : (List Int)) (a3 : A4) (a4 : Int) (s : (TX × (TNN × (TNN × (TNN × Unit))))) : Option ((Int × Unit) × (TX × (TNN × (TNN × (TNN × Unit)))) × Unit) := F10c2 a2 a3 a4 s.1.1 s.1.2.1 s.1.2.2.1 s.2.1.1 s.2.1.2.1 s.2.1.2.2.1 s.2.1.2.2.2.1 s.2.1.2.2.2.2.1 s.2.2.1.1 s.2.2.1.2.1 s.2.2.1.2.2.1 s.2.2.1.2.2.2.1 s.2.2.1.2.2.2.2.1 s.2.2.2.1.1 s.2.2.2.1.2.1 s.2.2.2.1.2.2.1 s.2.2.2.1.2.2.2.1 s.2.2.2.1.2.2.2.2.1
noncomputable def c10c2 : Con := ⟨i10c2, o10c2, fun x => F10c2 x.1.2.2.1 x.1.2.2.2.1 x.1.2.2.2.2.1 x.2.1.1.1 x.2.1.1.2.1 x.2.1.1.2.2.1 x.2.1.2.1.1 x.2.1.2.1.2.1 x.2.1.2.1.2.2.1 x.2.1.2.1.2.2.2.1 x.2.1.2.1.2.2.2.2.1 x.2.1.2.2.1.1 x.2.1.2.2.1.2.1 x.2.1.2.2.1.2.2.1 x.2.1.2.2.1.2.2.2.1 x.2.1.2.2.1.2.2.2.2.1 x.2.1.2.2.2.1.1 x.2.1.2.2.2.1.2.1 x.2.1.2.2.2.1.2.2.1 x.2.1.2.2.2.1.2.2.2.1 x.2.1.2.2.2.1.2.2.2.2.1⟩
theorem e10c2 (x : i10c2.E) : vfn Try.prog C10c2 LO10c2 Try.f10 b10c2 i10c2 o10c2 x = c10c2.F x := by kernel_rfl
theorem c10c2_ok : Con.OK Try.prog 10 c10c2 := (fn_ok C10c2_ok (fun _ => rfl) Try.func10 body10c2 (noL (by kernel_rfl)) i10c2 o10c2).congr fun x => (e10c2 x).symm
noncomputable def b26a0 : Code := b26c0
theorem body26a0 : Try.f26.body = some b26a0 := by kernel_rfl
noncomputable def C26a0 : Tab := [(48, c48)]
theorem C26a0_ok : TabOK Try.prog C26a0 := ⟨c48_ok, trivial⟩
noncomputable def LO26a0 : Tab := []
noncomputable def i26a0 : Tm := { sl := [(0, .p 0 0), (1, .ki .i64 0)], bx := [[.v (.i .i64), .sg 64 (.l tDEv), .sg 64 (.l (.l (.i .u64))), .p 1 0, .nl, .nl, .nl, .nl, .nl, .nl, .nl, .nl, .nl, .nl, .nl, .nl, .nl, .nl, .nl, .nl, .nl, .nl, .nl, .nl, .nl, .nl, .nl, .nl, .nl, .nl, .nl, .nl, .nl, .nl, .nl, .nl, .nl, .nl, .nl, .nl, .nl, .nl, .nl, .nl, .nl, .nl, .nl, .nl, .nl, .nl, .nl, .nl, .nl, .nl, .nl, .nl, .nl, .nl, .nl, .nl, .nl, .nl, .nl, .nl, .nl, .nl, .nl], PNN], bf := [] }
noncomputable def o26a0 : OT := (.ret { sl := [], bx := [[.v (.i .i64), .sg 64 (.l tDEv), .sg 64 (.l (.l (.i .u64))), .p 1 0, .nl, .nl, .nl, .nl, .nl, .nl, .nl, .nl, .nl, .nl, .nl, .nl, .nl, .nl, .nl, .nl, .nl, .nl, .nl, .nl, .nl, .nl, .nl, .nl, .nl, .nl, .nl, .nl, .nl, .nl, .nl, .nl, .nl, .nl, .nl, .nl, .nl, .nl, .nl, .nl, .nl, .nl, .nl, .nl, .nl, .nl, .nl, .nl, .nl, .nl, .nl, .nl, .nl, .nl, .nl, .nl, .nl, .nl, .nl, .nl, .nl, .nl, .nl], PNN], bf := [] })
noncomputable def F26a0 (b0_0 : Int) (b0_1 : A1) (b0_2 : A2) (b1_0 : (List Int)) (b1_1 : Int) (b1_2 : A3) (b1_3 : Int) (b1_4 : Int) : Option (Unit × (TX × (TNN × Unit)) × Unit) :=
 ((F48 (0, (b1_0, (b1_1, ()))) b1_0 b1_1 b1_2 b1_3 b1_4).bind fun y0 => (some ((), ((b0_0, b0_1, b0_2, UU), (y0.2.1.1.1, y0.2.1.1.2.1, y0.2.1.1.2.2.1, y0.2.1.1.2.2.2.1, y0.2.1.1.2.2.2.2.1, (), ()), ()), ())))
noncomputable def c26a0 : Con := ⟨i26a0, o26a0, fun x => F26a0 x.2.1.1.1 x.2.1.1.2.1 x.2.1.1.2.2.1 x.2.1.2.1.1 x.2.1.2.1.2.1 x.2.1.2.1.2.2.1 x.2.1.2.1.2.2.2.1 x.2.1.2.1.2.2.2.2.1⟩
theorem e26a0 (x : i26a0.E) : vfn Try.prog C26a0 LO26a0 Try.f26 b26a0 i26a0 o26a0 x = c26a0.F x := by kernel_rfl
theorem c26a0_ok : Con.OK Try.prog 26 c26a0 := (fn_ok C26a0_ok (fun _ => rfl) Try.func26 body26a0 (noL (by kernel_rfl)) i26a0 o26a0).congr fun x => (e26a0 x).symm
noncomputable def b26b1 : Code := b26c0
theorem body26b1 : Try.f26.body = some b26b1 := by kernel_rfl
noncomputable def C26b1 : Tab := [(48, c48)]
theorem C26b1_ok : TabOK Try.prog C26b1 := ⟨c48_ok, trivial⟩
noncomputable def LO26b1 : Tab := []
noncomputable def i26b1 : Tm := { sl := [(0, .p 0 0), (1, .ki .i64 1)], bx := [[.v (.i .i64), .sg 64 (.l tDEv), .sg 64 (.l (.l (.i .u64))), .p 1 0, .p 2 0, .nl, .nl, .nl, .nl, .nl, .nl, .nl, .nl, .nl, .nl, .nl, .nl, .nl, .nl, .nl, .nl, .nl, .nl, .nl, .nl, .nl, .nl, .nl, .nl, .nl, .nl, .nl, .nl, .nl, .nl, .nl, .nl, .nl, .nl, .nl, .nl, .nl, .nl, .nl, .nl, .nl, .nl, .nl, .nl, .nl, .nl, .nl, .nl, .nl, .nl, .nl, .nl, .nl, .nl, .nl, .nl, .nl, .nl, .nl, .nl, .nl, .nl], PNN, PNN], bf := [] }
noncomputable def o26b1 : OT := (.ret { sl := [], bx := [[.v (.i .i64), .sg 64 (.l tDEv), .sg 64 (.l (.l (.i .u64))), .p 1 0, .p 2 0, .nl, .nl, .nl, .nl, .nl, .nl, .nl, .nl, .nl, .nl, .nl, .nl, .nl, .nl, .nl, .nl, .nl, .nl, .nl, .nl, .nl, .nl, .nl, .nl, .nl, .nl, .nl, .nl, .nl, .nl, .nl, .nl, .nl, .nl, .nl, .nl, .nl, .nl, .nl, .nl, .nl, .nl, .nl, .nl, .nl, .nl, .nl, .nl, .nl, .nl, .nl, .nl, .nl, .nl, .nl, .nl, .nl, .nl, .nl, .nl, .nl, .nl], PNN, PNN], bf := [] })
noncomputable def F26b1 (b0_0 : Int) (b0_1 : A1) (b0_2 : A2) (b1_0 : (List Int)) (b1_1 : Int) (b1_2 : A3) (b1_3 : Int) (b1_4 : Int) (b2_0 : (List Int)) (b2_1 : Int) (b2_2 : A3) (b2_3 : Int) (b2_4 : Int) : Option (Unit × (TX × (TNN × (TNN × Unit))) × Unit) :=
 ((F48 (1, (b2_0, (b2_1, ()))) b2_0 b2_1 b2_2 b2_3 b2_4).bind fun y0 => (some ((), ((b0_0, b0_1, b0_2, UU), (b1_0, b1_1, b1_2, b1_3, b1_4, (), ()), (y0.2.1.1.1, y0.2.1.1.2.1, y0.2.1.1.2.2.1, y0.2.1.1.2.2.2.1, y0.2.1.1.2.2.2.2.1, (), ()), ()), ())))
noncomputable def c26b1 : Con := ⟨i26b1, o26b1, fun x => F26b1 x.2.1.1.1 x.2.1.1.2.1 x.2.1.1.2.2.1 x.2.1.2.1.1 x.2.1.2.1.2.1 x.2.1.2.1.2.2.1 x.2.1.2.1.2.2.2.1 x.2.1.2.1.2.2.2.2.1 x.2.1.2.2.1.1 x.2.1.2.2.1.2.1 x.2.1.2.2.1.2.2.1 x.2.1.2.2.1.2.2.2.1 x.2.1.2.2.1.2.2.2.2.1⟩
theorem e26b1 (x : i26b1.E) : vfn Try.prog C26b1 LO26b1 Try.f26 b26b1 i26b1 o26b1 x = c26b1.F x := by kernel_rfl
theorem c26b1_ok : Con.OK Try.prog 26 c26b1 := (fn_ok C26b1_ok (fun _ => rfl) Try.func26 body26b1 (noL (by kernel_rfl)) i26b1 o26b1).congr fun x => (e26b1 x).symm
noncomputable def l8c_3 : Code := (.seq (.region 3 (regOf Try.f8 3) false) (.seq (.cond (.tmp 12) .skip (.exit 0)) (.seq (.block 1 (.seq (.region 4 (regOf Try.f8 4) false) (.seq (.region 5 (regOf Try.f8 5) false) (.region 6 (regOf Try.f8 6) false)))) (.region 7 (regOf Try.f8 7) false))))
noncomputable def b8c : Code := (.seq (.region 0 (regOf Try.f8 0) false) (.seq (.region 1 (regOf Try.f8 1) false) (.seq (.seq (.region 2 (regOf Try.f8 2) false) (.block 0 (.loop l8c_3))) (.seq (.region 8 (regOf Try.f8 8) false) .ret))))
theorem body8c : Try.f8.body = some b8c := by kernel_rfl
noncomputable def C8c : Tab := [(26, c26a0), (26, c26b1), (26, c26c2), (900007, cHot), (900017, cHot), (700003, cHot)]
theorem C8c_ok : TabOK Try.prog C8c := ⟨c26a0_ok, c26b1_ok, c26c2_ok, cHot_ok, cHot_ok, cHot_ok, trivial⟩
noncomputable def LO8c : Tab := []
noncomputable def i8c : Tm := { sl := [(0, .ki .i64 3)], bx := [], bf := [] }
noncomputable def o8c : OT := (.ret { sl := [(0, .p 0 0)], bx := [PXc, PNN, PNN, PNN], bf := [] })
noncomputable def F8c : Option ((Unit × Unit) × (TX × (TNN × (TNN × (TNN × Unit)))) × Unit) :=
 ((F26a0 3 (List.replicate 64 (([] : List DEv) : A4)) (List.replicate 64 (([] : List (List Int)) : (List (List Int)))) ([] : List Int) 0 (List.replicate 64 ((0, (([] : List Int), (0, ()))) : (Int × ((List Int) × (Int × Unit))))) 0 0).bind fun y0 => ((F26b1 y0.2.1.1.1 y0.2.1.1.2.1 y0.2.1.1.2.2.1 y0.2.1.2.1.1 y0.2.1.2.1.2.1 y0.2.1.2.1.2.2.1 y0.2.1.2.1.2.2.2.1 y0.2.1.2.1.2.2.2.2.1 ([] : List Int) 0 (List.replicate 64 ((0, (([] : List Int), (0, ()))) : (Int × ((List Int) × (Int × Unit))))) 0 0).bind fun y1 => ((F26c2 y1.2.1.1.1 y1.2.1.1.2.1 y1.2.1.1.2.2.1 y1.2.1.2.1.1 y1.2.1.2.1.2.1 y1.2.1.2.1.2.2.1 y1.2.1.2.1.2.2.2.1 y1.2.1.2.1.2.2.2.2.1 y1.2.1.2.2.1.1 y1.2.1.2.2.1.2.1 y1.2.1.2.2.1.2.2.1 y1.2.1.2.2.1.2.2.2.1 y1.2.1.2.2.1.2.2.2.2.1 ([] : List Int) 0 (List.replicate 64 ((0, (([] : List Int), (0, ()))) : (Int × ((List Int) × (Int × Unit))))) 0 0).bind fun y2 => (some (((), ()), y2.2.1, ())))))
noncomputable def c8c : Con := ⟨i8c, o8c, fun x => F8c⟩
theorem e8c (x : i8c.E) : vfn Try.prog C8c LO8c Try.f8 b8c i8c o8c x = F8c := by kernel_rfl
theorem c8c_ok : Con.OK Try.prog 8 c8c := (fn_ok C8c_ok (fun _ => rfl) Try.func8 body8c (show ∀ b' ∈ loopsOf b8c, ∀ con, lookC LO8c (headReg b') = some con → con.LOK Try.prog Try.f8.ntmps b' from fun _ _ _ h => absurd (show (none : Option Con) = some _ from h) (fun h => by cases h)) i8c o8c).congr fun x => (e8c x).symm
noncomputable def l3_6 : Code := (.seq (.seq (.region 6 (regOf Try.f3 6) false) (.cond (.tmp 38) .skip (.exit 0))) (.seq (.block 1 (.region 8 (regOf Try.f3 8) false)) (.region 7 (regOf Try.f3 7) false)))
noncomputable def b3 : Code := (.seq (.region 0 (regOf Try.f3 0) false) (.seq (.seq (.region 1 (regOf Try.f3 1) false) (.cond (.tmp 29) (.seq (.region 2 (regOf Try.f3 2) false) .ret) .skip)) (.seq (.region 3 (regOf Try.f3 3) false) (.seq (.region 4 (regOf Try.f3 4) false) (.seq (.seq (.region 5 (regOf Try.f3 5) false) (.block 0 (.loop l3_6))) (.seq (.region 9 (regOf Try.f3 9) false) (.seq (.region 10 (regOf Try.f3 10) false) (.seq (.region 11 (regOf Try.f3 11) false) (.seq (.seq (.region 12 (regOf Try.f3 12) false) (.cond (.tmp 58) (.seq (.region 13 (regOf Try.f3 13) false) .ret) .skip)) (.seq (.region 14 (regOf Try.f3 14) false) (.seq (.region 15 (regOf Try.f3 15) false) (.seq (.seq (.region 16 (regOf Try.f3 16) false) (.block 2 (.seq (.region 20 (regOf Try.f3 20) false) (.cond (.tmp 74) (.region 21 (regOf Try.f3 21) false) (.seq (.region 22 (regOf Try.f3 22) false) (.cond (.tmp 77) (.region 23 (regOf Try.f3 23) false) (.seq (.region 24 (regOf Try.f3 24) false) (.cond (.tmp 79) (.seq (.region 25 (regOf Try.f3 25) false) (.region 26 (regOf Try.f3 26) false)) (.seq (.region 27 (regOf Try.f3 27) false) (.cond (.tmp 88) (.seq (.seq (.region 28 (regOf Try.f3 28) false) (.cond (.tmp 91) (.seq (.region 29 (regOf Try.f3 29) false) .ret) .skip)) (.seq (.region 30 (regOf Try.f3 30) false) (.region 31 (regOf Try.f3 31) false))) (.seq (.seq (.region 17 (regOf Try.f3 17) false) (.cond (.tmp 72) (.seq (.region 18 (regOf Try.f3 18) false) .ret) .skip)) (.region 19 (regOf Try.f3 19) false)))))))))))) (.seq (.region 32 (regOf Try.f3 32) false) (.seq (.region 33 (regOf Try.f3 33) false) (.seq (.region 34 (regOf Try.f3 34) false) (.seq (.region 35 (regOf Try.f3 35) false) .ret))))))))))))))))
theorem body3 : Try.f3.body = some b3 := by kernel_rfl
noncomputable def C3_6 : Tab := [(9, c9c0)]
theorem C3_6_ok : TabOK Try.prog C3_6 := ⟨c9c0_ok, trivial⟩
noncomputable def LO3_6 : Tab := []
noncomputable def i3_6 : Tm := { sl := [(7, .p 0 0), (8, .v (.i .i64)), (9, .v (.i .i64))], bx := [PXc, PNN, PNN, PNN], bf := [] }
noncomputable def o3_6 : OT := (.exit 0 { sl := [], bx := [PXc, PNN, PNN, PNN], bf := [] })
noncomputable def T3_6 (a8 : Int) (a9 : Int) (b0_0 : Int) (b0_1 : A1) (b0_2 : A2) (b1_0 : (List Int)) (b1_1 : Int) (b1_2 : A3) (b1_3 : Int) (b1_4 : Int) (b2_0 : (List Int)) (b2_1 : Int) (b2_2 : A3) (b2_3 : Int) (b2_4 : Int) (b3_0 : (List Int)) (b3_1 : Int) (b3_2 : A3) (b3_3 : Int) (b3_4 : Int) : Option (((Unit × (Int × (Int × Unit))) × (TX × (TNN × (TNN × (TNN × Unit)))) × Unit) ⊕ (Unit × (TX × (TNN × (TNN × (TNN × Unit)))) × Unit)) :=
 (bif (decide ((a9 : Int) < a8)) then ((F9c0 (0, (0, (0, (4, ((⟨#[97]⟩ : ByteArray), (([] : List Int), (0, (0, ())))))))) b0_0 b0_1 b0_2 b1_0 b1_1 b1_2 b1_3 b1_4 b2_0 b2_1 b2_2 b2_3 b2_4 b3_0 b3_1 b3_2 b3_3 b3_4).bind fun y0 => (some (.inl (((), a8, (IntKind.wrap .i64 (a9 + 1)), ()), y0.2.1, ())))) else (some (.inr ((), ((b0_0, b0_1, b0_2, UU), (b1_0, b1_1, b1_2, b1_3, b1_4, (), ()), (b2_0, b2_1, b2_2, b2_3, b2_4, (), ()), (b3_0, b3_1, b3_2, b3_3, b3_4, (), ()), ()), ()))))
noncomputable def L3_6 (a8 : Int) (a9 : Int) (b0_0 : Int) (b0_1 : A1) (b0_2 : A2) (b1_0 : (List Int)) (b1_1 : Int) (b1_2 : A3) (b1_3 : Int) (b1_4 : Int) (b2_0 : (List Int)) (b2_1 : Int) (b2_2 : A3) (b2_3 : Int) (b2_4 : Int) (b3_0 : (List Int)) (b3_1 : Int) (b3_2 : A3) (b3_3 : Int) (b3_4 : Int) : Option (Unit × (TX × (TNN × (TNN × (TNN × Unit)))) × Unit) := iter (fun x : ((Unit × (Int × (Int × Unit))) × (TX × (TNN × (TNN × (TNN × Unit)))) × Unit) => T3_6 x.1.2.1 x.1.2.2.1 x.2.1.1.1 x.2.1.1.2.1 x.2.1.1.2.2.1 x.2.1.2.1.1 x.2.1.2.1.2.1 x.2.1.2.1.2.2.1 x.2.1.2.1.2.2.2.1 x.2.1.2.1.2.2.2.2.1 x.2.1.2.2.1.1 x.2.1.2.2.1.2.1 x.2.1.2.2.1.2.2.1 x.2.1.2.2.1.2.2.2.1 x.2.1.2.2.1.2.2.2.2.1 x.2.1.2.2.2.1.1 x.2.1.2.2.2.1.2.1 x.2.1.2.2.2.1.2.2.1 x.2.1.2.2.2.1.2.2.2.1 x.2.1.2.2.2.1.2.2.2.2.1) 300 (((), a8, a9, ()), ((b0_0, b0_1, b0_2, UU), (b1_0, b1_1, b1_2, b1_3, b1_4, (), ()), (b2_0, b2_1, b2_2, b2_3, b2_4, (), ()), (b3_0, b3_1, b3_2, b3_3, b3_4, (), ()), ()), ())
noncomputable def L3_6sc (a8 : Int) (a9 : Int) (s : (TX × (TNN × (TNN × (TNN × Unit))))) : Option (Unit × (TX × (TNN × (TNN × (TNN × Unit)))) × Unit) := L3_6 a8 a9 s.1.1 s.1.2.1 s.1.2.2.1 s.2.1.1 s.2.1.2.1 s.2.1.2.2.1 s.2.1.2.2.2.1 s.2.1.2.2.2.2.1 s.2.2.1.1 s.2.2.1.2.1 s.2.2.1.2.2.1 s.2.2.1.2.2.2.1 s.2.2.1.2.2.2.2.1 s.2.2.2.1.1 s.2.2.2.1.2.1 s.2.2.2.1.2.2.1 s.2.2.2.1.2.2.2.1 s.2.2.2.1.2.2.2.2.1
noncomputable def k3_6 : Con := ⟨i3_6, o3_6, fun x => L3_6 x.1.2.1 x.1.2.2.1 x.2.1.1.1 x.2.1.1.2.1 x.2.1.1.2.2.1 x.2.1.2.1.1 x.2.1.2.1.2.1 x.2.1.2.1.2.2.1 x.2.1.2.1.2.2.2.1 x.2.1.2.1.2.2.2.2.1 x.2.1.2.2.1.1 x.2.1.2.2.1.2.1 x.2.1.2.2.1.2.2.1 x.2.1.2.2.1.2.2.2.1 x.2.1.2.2.1.2.2.2.2.1 x.2.1.2.2.2.1.1 x.2.1.2.2.2.1.2.1 x.2.1.2.2.2.1.2.2.1 x.2.1.2.2.2.1.2.2.2.1 x.2.1.2.2.2.1.2.2.2.2.1⟩
theorem e3_6 (x : i3_6.E) : vround Try.prog C3_6 LO3_6 Try.f3.ntmps l3_6 i3_6 o3_6 x = T3_6 x.1.2.1 x.1.2.2.1 x.2.1.1.1 x.2.1.1.2.1 x.2.1.1.2.2.1 x.2.1.2.1.1 x.2.1.2.1.2.1 x.2.1.2.1.2.2.1 x.2.1.2.1.2.2.2.1 x.2.1.2.1.2.2.2.2.1 x.2.1.2.2.1.1 x.2.1.2.2.1.2.1 x.2.1.2.2.1.2.2.1 x.2.1.2.2.1.2.2.2.1 x.2.1.2.2.1.2.2.2.2.1 x.2.1.2.2.2.1.1 x.2.1.2.2.2.1.2.1 x.2.1.2.2.2.1.2.2.1 x.2.1.2.2.2.1.2.2.2.1 x.2.1.2.2.2.1.2.2.2.2.1 := by kernel_rfl
theorem k3_6_ok : Con.LOK Try.prog Try.f3.ntmps l3_6 k3_6 := Con.LOK.fuel (loop_ok C3_6_ok (noL (by kernel_rfl)) i3_6 o3_6) 300 (funext e3_6)
noncomputable def C3 : Tab := [(7, c7), (8, c8c), (9, c9c0), (9, c9c1), (10, c10c1), (10, c10c2), (11, c11c0), (11, c11c1), (12, c12), (13, c13c), (14, c14c1), (14, c14c2), (15, c15)]
theorem C3_ok : TabOK Try.prog C3 := ⟨c7_ok, c8c_ok, c9c0_ok, c9c1_ok, c10c1_ok, c10c2_ok, c11c0_ok, c11c1_ok, c12_ok, c13c_ok, c14c1_ok, c14c2_ok, c15_ok, trivial⟩
noncomputable def LO3 : Tab := [(6, k3_6)]
noncomputable def i3 : Tm := { sl := [(0, .v (.i .u8)), (1, .v (.i .u8)), (2, .v tDEv)], bx := [], bf := [] }
noncomputable def o3 : OT := (.ret { sl := [(0, .v .b)], bx := [], bf := [] })
noncomputable def F3 (a0 : Int) (a1 : Int) (a2 : DEv) : Option ((Bool × Unit) × Unit × Unit) :=
 ((F7).bind fun y0 => (bif (!y0.1.1) then ((F7).bind fun y1 => (some ((y1.1.1, ()), (), ()))) else (bif (decide ((((a2.2.2.2.2.1.size : Nat) : Int) : Int) > 64)) then ((F7).bind fun y2 => (some ((y2.1.1, ()), (), ()))) else (bif (decide (((((a2.2.2.2.2.2.1).length : Nat) : Int) : Int) > 100)) then ((F7).bind fun y3 => (some ((y3.1.1, ()), (), ()))) else ((F8c).bind fun y4 => ((L3_6sc (IntKind.wrap .i64 (1 + (((IntKind.wrap .i64 a0) : Int).tmod 5))) 0 y4.2.1).bind fun y5 => ((F11c0sc y5.2.1).bind fun y6 => ((F10c1sc ([] : List Int) y6.1.1 (IntKind.wrap .i64 (1 + (((IntKind.wrap .i64 a0) : Int).tmod 5))) y6.2.1).bind fun y7 => ((F9c1sc (0, (0, (0, (4, ((⟨#[98]⟩ : ByteArray), (([] : List Int), (0, (0, ())))))))) y7.2.1).bind fun y8 => ((F11c1sc y8.2.1).bind fun y9 => (bif (((((y9.1.1).length : Nat) : Int) : Int) != (IntKind.wrap .i64 ((IntKind.wrap .i64 (1 + (((IntKind.wrap .i64 a0) : Int).tmod 5))) + 1))) then (some ((false, ()), (), ())) else (bif (decide (0 ≤ ((IntKind.wrap .i64 (1 + (((IntKind.wrap .i64 a0) : Int).tmod 5))) : Int) ∧ ((IntKind.wrap .i64 (1 + (((IntKind.wrap .i64 a0) : Int).tmod 5))) : Int) < (((y9.1.1).length : Nat) : Int))) then (bif ((((a1 : Int).tmod 5) : Int) == 0) then ((F10c2sc ([] : List Int) [(((y9.1.1).getD ((IntKind.wrap .i64 (1 + (((IntKind.wrap .i64 a0) : Int).tmod 5))) : Int).toNat zE).1, (((y9.1.1).getD ((IntKind.wrap .i64 (1 + (((IntKind.wrap .i64 a0) : Int).tmod 5))) : Int).toNat zE).2.1, (((y9.1.1).getD ((IntKind.wrap .i64 (1 + (((IntKind.wrap .i64 a0) : Int).tmod 5))) : Int).toNat zE).2.2.1, (((y9.1.1).getD ((IntKind.wrap .i64 (1 + (((IntKind.wrap .i64 a0) : Int).tmod 5))) : Int).toNat zE).2.2.2.1, ((⟨#[99]⟩ : ByteArray), (((y9.1.1).getD ((IntKind.wrap .i64 (1 + (((IntKind.wrap .i64 a0) : Int).tmod 5))) : Int).toNat zE).2.2.2.2.2.1, (((y9.1.1).getD ((IntKind.wrap .i64 (1 + (((IntKind.wrap .i64 a0) : Int).tmod 5))) : Int).toNat zE).2.2.2.2.2.2.1, (((y9.1.1).getD ((IntKind.wrap .i64 (1 + (((IntKind.wrap .i64 a0) : Int).tmod 5))) : Int).toNat zE).2.2.2.2.2.2.2.1, ()))))))))] 1 y9.2.1).bind fun y10 => ((F14c1sc y10.2.1).bind fun y11 => ((F10c2sc y11.1.1 y9.1.1 1 y11.2.1).bind fun y12 => ((F10c2sc ([] : List Int) y9.1.1 (((y9.1.1).length : Nat) : Int) y12.2.1).bind fun y13 => (bif ((y10.1.1 : Int) == 4) then (bif ((y12.1.1 : Int) == 9) then (bif ((y13.1.1 : Int) == 0) then ((F14c2sc y13.2.1).bind fun y14 => ((F14c1sc y14.2.1).bind fun y15 => ((F15 y14.1.1 y15.1.1).bind fun y16 => (some ((y16.1.1, ()), (), ()))))) else (some ((false, ()), (), ()))) else (some ((false, ()), (), ()))) else (some ((false, ()), (), ()))))))) else (bif ((((a1 : Int).tmod 5) : Int) == 1) then ((F10c2sc ([] : List Int) [((y9.1.1).getD ((IntKind.wrap .i64 (1 + (((IntKind.wrap .i64 a0) : Int).tmod 5))) : Int).toNat zE)] 1 y9.2.1).bind fun y17 => ((F14c1sc y17.2.1).bind fun y18 => ((F10c2sc y18.1.1 y9.1.1 1 y18.2.1).bind fun y19 => ((F10c2sc ([] : List Int) y9.1.1 (((y9.1.1).length : Nat) : Int) y19.2.1).bind fun y20 => (bif ((y17.1.1 : Int) == 10) then (bif ((y19.1.1 : Int) == 9) then (bif ((y20.1.1 : Int) == 0) then ((F14c2sc y20.2.1).bind fun y21 => ((F14c1sc y21.2.1).bind fun y22 => ((F15 y21.1.1 y22.1.1).bind fun y23 => (some ((y23.1.1, ()), (), ()))))) else (some ((false, ()), (), ()))) else (some ((false, ()), (), ()))) else (some ((false, ()), (), ()))))))) else (bif ((((a1 : Int).tmod 5) : Int) == 2) then (bif (decide (0 ≤ (0 : Int) ∧ (0 : Int) < (((y9.1.1).length : Nat) : Int))) then ((F10c2sc ([] : List Int) [(((y9.1.1).getD (0 : Int).toNat zE).1, ((IntKind.wrap .u64 (((y9.1.1).getD (0 : Int).toNat zE).2.1 + 100)), (((y9.1.1).getD (0 : Int).toNat zE).2.2.1, (((y9.1.1).getD (0 : Int).toNat zE).2.2.2.1, (((y9.1.1).getD (0 : Int).toNat zE).2.2.2.2.1, (((y9.1.1).getD (0 : Int).toNat zE).2.2.2.2.2.1, (((y9.1.1).getD (0 : Int).toNat zE).2.2.2.2.2.2.1, (((y9.1.1).getD (0 : Int).toNat zE).2.2.2.2.2.2.2.1, ()))))))))] 1 y9.2.1).bind fun y24 => ((F14c1sc y24.2.1).bind fun y25 => ((F10c2sc y25.1.1 y9.1.1 1 y25.2.1).bind fun y26 => ((F10c2sc ([] : List Int) y9.1.1 (((y9.1.1).length : Nat) : Int) y26.2.1).bind fun y27 => (bif ((y24.1.1 : Int) == 4) then (bif ((y26.1.1 : Int) == 9) then (bif ((y27.1.1 : Int) == 0) then ((F14c2sc y27.2.1).bind fun y28 => ((F14c1sc y28.2.1).bind fun y29 => ((F15 y28.1.1 y29.1.1).bind fun y30 => (some ((y30.1.1, ()), (), ()))))) else (some ((false, ()), (), ()))) else (some ((false, ()), (), ()))) else (some ((false, ()), (), ()))))))) else none) else (bif ((((a1 : Int).tmod 5) : Int) == 3) then (bif (((IntKind.wrap .i64 (1 + (((IntKind.wrap .i64 a0) : Int).tmod 5))) : Int) == 1) then (some ((true, ()), (), ())) else (bif (decide (0 ≤ (1 : Int) ∧ (1 : Int) < (((y9.1.1).length : Nat) : Int))) then ((F10c2sc ([] : List Int) [((y9.1.1).getD (1 : Int).toNat zE)] 1 y9.2.1).bind fun y31 => ((F14c1sc y31.2.1).bind fun y32 => ((F10c2sc y32.1.1 y9.1.1 1 y32.2.1).bind fun y33 => ((F10c2sc ([] : List Int) y9.1.1 (((y9.1.1).length : Nat) : Int) y33.2.1).bind fun y34 => (bif ((y31.1.1 : Int) == 9) then (bif ((y33.1.1 : Int) == 9) then (bif ((y34.1.1 : Int) == 0) then ((F14c2sc y34.2.1).bind fun y35 => ((F14c1sc y35.2.1).bind fun y36 => ((F15 y35.1.1 y36.1.1).bind fun y37 => (some ((y37.1.1, ()), (), ()))))) else (some ((false, ()), (), ()))) else (some ((false, ()), (), ()))) else (some ((false, ()), (), ()))))))) else none)) else ((F12 a2).bind fun y38 => (bif ((y38.1.1 : Int) != 0) then (some ((true, ()), (), ())) else ((F13csc a2 y9.2.1).bind fun y39 => (bif y39.1.1 then (some ((true, ()), (), ())) else ((F10c2sc ([] : List Int) [a2] 1 y39.2.1).bind fun y40 => ((F14c1sc y40.2.1).bind fun y41 => ((F10c2sc y41.1.1 y9.1.1 1 y41.2.1).bind fun y42 => ((F10c2sc ([] : List Int) y9.1.1 (((y9.1.1).length : Nat) : Int) y42.2.1).bind fun y43 => (bif ((y40.1.1 : Int) == 4) then (bif ((y42.1.1 : Int) == 9) then (bif ((y43.1.1 : Int) == 0) then ((F14c2sc y43.2.1).bind fun y44 => ((F14c1sc y44.2.1).bind fun y45 => ((F15 y44.1.1 y45.1.1).bind fun y46 => (some ((y46.1.1, ()), (), ()))))) else (some ((false, ()), (), ()))) else (some ((false, ()), (), ()))) else (some ((false, ()), (), ()))))))))))))))) else none))))))))))))
noncomputable def c3 : Con := ⟨i3, o3, fun x => F3 x.1.1 x.1.2.1 x.1.2.2.1⟩
theorem e3 (x : i3.E) : vfn Try.prog C3 LO3 Try.f3 b3 i3 o3 x = c3.F x := by kernel_rfl
theorem c3_ok : Con.OK Try.prog 3 c3 := (fn_ok C3_ok (fun _ => rfl) Try.func3 body3 (loops_of (l := [l3_6]) (by kernel_rfl) (show LoopsOK Try.prog Try.f3.ntmps [l3_6] LO3 from ⟨k3_6_ok, trivial⟩)) i3 o3).congr fun x => (e3 x).symm
end Go.IM.V
namespace Go.IM.V
open Go Go.IM Go.Proofs
theorem iter_succ {α β : Type} (T : α → Option (α ⊕ β)) (f : Nat) (x : α) : iter T (f + 1) x = (T x).bind (Sum.elim (iter T f) some) := rfl
theorem shr7' {n : Int} (h : 0 ≤ n) : iShr .u64 n 7 = n / 128 := by
 unfold iShr
 show n.fdiv (2 ^ 7) = _
 rw [Int.fdiv_eq_ediv_of_nonneg _ (by omega)]
 rfl
theorem L73_run : ∀ (k f : Nat) (n : Int) (q : List Int), 0 ≤ n → n < 128 ^ (k + 1) → k < f → q.length + k < lim →
  ∃ n' q', iter (fun x : ((Unit × (Int × Unit)) × Unit × ((List Int) × Unit)) => T73_1 x.1.2.1 x.2.2.1) f (((), n, ()), (), (q, ())) = some (((), n', ()), (), (q', ())) ∧ q'.length ≤ q.length + k := by
 intro k
 induction k with
 | zero =>
  intro f n q h0 h1 hf hq
  obtain ⟨f, rfl⟩ : ∃ j, f = j + 1 := ⟨f - 1, by omega⟩
  refine ⟨n, q, ?_, by omega⟩
  rw [iter_succ]
  unfold T73_1
  simp only [cif]
  rw [if_neg (by omega)]
  rfl
 | succ k ih =>
  intro f n q h0 h1 hf hq
  obtain ⟨f, rfl⟩ : ∃ j, f = j + 1 := ⟨f - 1, by omega⟩
  by_cases hn : n < 128
  ·refine ⟨n, q, ?_, by omega⟩
   rw [iter_succ]
   unfold T73_1
   simp only [cif]
   rw [if_neg (by omega)]
   rfl
  ·have hl : (q ++ [iOr .u8 (IntKind.wrap .u8 n) 128]).length = q.length + 1 := by simp
   obtain ⟨n', q', e, hle⟩ := ih f (n / 128) (q ++ [iOr .u8 (IntKind.wrap .u8 n) 128]) (by omega) (by rw [Int.pow_succ] at h1; omega) (by omega) (by rw [hl]; omega)
   refine ⟨n', q', ?_, by rw [hl] at hle; omega⟩
   have hT : T73_1 n q = some (.inl (((), n / 128, ()), (), (q ++ [iOr .u8 (IntKind.wrap .u8 n) 128], ()))) := by
    unfold T73_1
    simp only [cif]
    rw [if_pos (by omega), if_pos (by simp; omega), shr7' h0]
   rw [iter_succ]
   show (T73_1 n q).bind _ = _
   rw [hT]
   exact e
theorem F73_tot (n : Int) (q : List Int) (h0 : 0 ≤ n) (h1 : n < 18446744073709551616) (hq : q.length + 20 < lim) : ∃ q', F73 n q = some (((), ()), (), (q', ())) ∧ q'.length ≤ q.length + 10 := by
 obtain ⟨n', q', e, hle⟩ := L73_run 9 300 n q h0 (by rw [show (128 : Int) ^ (9 + 1) = 1180591620717411303424 from by decide]; omega) (by omega) (by omega)
 refine ⟨q' ++ [IntKind.wrap .u8 n'], ?_, by simp; omega⟩
 unfold F73 L73_1
 rw [e]
 simp only [Option.bind_some, cif]
 rw [if_pos (by simp; omega)]
theorem wrapu_lt (n : Int) : 0 ≤ IntKind.wrap .u64 n ∧ IntKind.wrap .u64 n < 18446744073709551616 := by rw [wu64_mod]; omega
theorem F74_tot (t q : List Int) (ht : t.length < 1000) (hq : q.length < 10000) : ∃ q', F74 t q = some (((), ()), (), (q', ())) ∧ q'.length ≤ q.length + 10 + t.length := by
 obtain ⟨q', e, hle⟩ := F73_tot (IntKind.wrap .u64 ((t.length : Nat) : Int)) q (wrapu_lt _).1 (wrapu_lt _).2 (by unfold lim; omega)
 refine ⟨q' ++ t, ?_, by simp; omega⟩
 unfold F74
 rw [e]
 simp only [Option.bind_some, cif]
 rw [if_pos (by unfold lim; omega)]
theorem L75_run (a : Int) : ∀ (k f : Nat) (q : List Int), k ≤ 8 → k < f → q.length + k < 20000 →
  ∃ q', iter (fun x : ((Unit × (Int × (Int × Unit))) × Unit × ((List Int) × Unit)) => T75_2 x.1.2.1 x.1.2.2.1 x.2.2.1) f (((), a, (k : Int) - 1, ()), (), (q, ())) = some (((), ()), (), (q', ())) ∧ q'.length ≤ q.length + k := by
 intro k
 induction k with
 | zero =>
  intro f q _ hf hq
  obtain ⟨f, rfl⟩ : ∃ j, f = j + 1 := ⟨f - 1, by omega⟩
  refine ⟨q, ?_, by omega⟩
  rw [iter_succ]
  unfold T75_2
  simp only [cif]
  rw [if_neg (by omega)]
  rfl
 | succ k ih =>
  intro f q hk hf hq
  obtain ⟨f, rfl⟩ : ∃ j, f = j + 1 := ⟨f - 1, by omega⟩
  have w1 : IntKind.wrap .i64 (8 * (((k + 1 : Nat) : Int) - 1)) = 8 * (k : Int) := by rw [IntKind.wrap_i64]; omega
  have w2 : IntKind.wrap .i64 ((((k + 1 : Nat) : Int) - 1) - 1) = (k : Int) - 1 := by rw [IntKind.wrap_i64]; omega
  have hl : (q ++ [IntKind.wrap .u8 (iShr .u64 a (8 * (k : Int)))]).length = q.length + 1 := by simp
  obtain ⟨q', e, hle⟩ := ih f (q ++ [IntKind.wrap .u8 (iShr .u64 a (8 * (k : Int)))]) (by omega) (by omega) (by
   rw [hl]
   omega)
  refine ⟨q', ?_, by rw [hl] at hle; omega⟩
  have hT : T75_2 a (((k + 1 : Nat) : Int) - 1) q = some (.inl (((), a, (k : Int) - 1, ()), (), (q ++ [IntKind.wrap .u8 (iShr .u64 a (8 * (k : Int)))], ()))) := by
   unfold T75_2
   rw [w1, w2]
   simp only [cif]
   rw [if_pos (by omega), if_pos (by omega), if_pos (by simp; unfold lim; omega)]
  rw [iter_succ]
  show (T75_2 a (((k + 1 : Nat) : Int) - 1) q).bind _ = _
  rw [hT]
  exact e
theorem F75_tot (a : Int) (q : List Int) (hq : q.length < 10000) : ∃ q', F75 a q = some (((), ()), (), (q', ())) ∧ q'.length ≤ q.length + 8 := by
 obtain ⟨q', e, hle⟩ := L75_run a 8 300 q (by omega) (by omega) (by omega)
 refine ⟨q', ?_, hle⟩
 unfold F75 L75_2
 rw [show (7 : Int) = ((8 : Nat) : Int) - 1 from rfl, e]
 rfl
theorem F76_tot (x : Nat) : ∃ v, F76 x = some ((v, ()), (), ()) := by
 unfold F76 F85
 simp only [Option.bind_some]
 cases ((FloatKind.f64).format.order x x != some Ordering.eq) <;> exact ⟨_, rfl⟩
def SmE (e : DEv) : Prop := (0 ≤ e.2.1 ∧ e.2.1 < 18446744073709551616) ∧ (0 ≤ e.2.2.1 ∧ e.2.2.1 < 18446744073709551616) ∧ e.2.2.2.2.1.size ≤ 64 ∧ e.2.2.2.2.2.1.length ≤ 100
theorem F54_tot (e : DEv) (h : SmE e) : ∃ q, F54 e = some (((), ()), (), (q, ())) := by
 obtain ⟨hs, ht, hk, hx⟩ := h
 have hb : (bytesL e.2.2.2.2.1).length ≤ 64 := by unfold bytesL; simpa using hk
 obtain ⟨q1, e1, l1⟩ := F73_tot (IntKind.wrap .u64 e.1) [] (wrapu_lt _).1 (wrapu_lt _).2 (by unfold lim; simp)
 obtain ⟨q2, e2, l2⟩ := F73_tot e.2.1 q1 hs.1 hs.2 (by unfold lim; simp at l1; omega)
 obtain ⟨q3, e3, l3⟩ := F73_tot e.2.2.1 q2 ht.1 ht.2 (by unfold lim; simp at l1; omega)
 have l3' : (q3 ++ [e.2.2.2.1]).length ≤ 31 := by simp at l1 ⊢; omega
 have tail : ∀ q : List Int, q.length ≤ 200 → (∃ q', F74 e.2.2.2.2.2.1 q = some (((), ()), (), (q', ()))) ∧ (∃ v, F76 e.2.2.2.2.2.2.1 = some ((v, ()), (), ()) ∧ ∃ q', F75 v q = some (((), ()), (), (q', ()))) ∧ ∃ q', F73 (IntKind.wrap .u64 e.2.2.2.2.2.2.2.1) q = some (((), ()), (), (q', ())) := by
  intro q hq
  obtain ⟨a, a1, _⟩ := F74_tot e.2.2.2.2.2.1 q (by omega) (by omega)
  obtain ⟨v, b1⟩ := F76_tot e.2.2.2.2.2.2.1
  obtain ⟨b, b2, _⟩ := F75_tot v q (by omega)
  obtain ⟨c, c1, _⟩ := F73_tot (IntKind.wrap .u64 e.2.2.2.2.2.2.2.1) q (wrapu_lt _).1 (wrapu_lt _).2 (by unfold lim; omega)
  exact ⟨⟨a, a1⟩, ⟨v, b1, b, b2⟩, ⟨c, c1⟩⟩
 obtain ⟨q4, e4, l4⟩ := F74_tot (bytesL e.2.2.2.2.1) (q3 ++ [e.2.2.2.1]) (by omega) (by omega)
 obtain ⟨⟨a, a1⟩, ⟨v, b1, b, b2⟩, ⟨c, c1⟩⟩ := tail (q3 ++ [e.2.2.2.1]) (by omega)
 obtain ⟨⟨a', a1'⟩, ⟨v', b1', b', b2'⟩, ⟨c', c1'⟩⟩ := tail q4 (by omega)
 rw [b1] at b1'
 cases b1'
 unfold F54
 rw [e1]
 simp only [Option.bind_some]
 rw [e2]
 simp only [Option.bind_some]
 rw [e3]
 simp only [Option.bind_some, e4, a1, a1', b1, b2, b2', c1, c1']
 rw [show (decide (q3.length + [e.2.2.2.1].length < lim)) = true from decide_eq_true (by unfold lim; simp at l1 ⊢; omega)]
 simp only [Bool.cond_eq_ite, if_true]
 repeat' split
 all_goals exact ⟨_, rfl⟩
end Go.IM.V