/- What the code of a law comes to, and what that tells: part 1. Lemmas alone; no conditions. -/
import Derived.Test.YtodkdfaempcjgaaProg
import Derived.KernelRfl
import Derived.Test.YtodkdfaempcjgaaImM5
import Derived.Test.YtodkdfaempcjgaaImM2
set_option linter.unusedVariables false
set_option linter.unusedSimpArgs false
set_option linter.constructorNameAsVariable false
namespace Go.IM.V
open Go Go.IM
variable {P : Program} {m m1 : M} {S0 : Nat → Prop} {env env1 : Env} {X Y : Cx}
def iT : Tm := { sl := [] }
def oT : Tm := { sl := [(0, .v .b)] }
def cT : Con := ⟨iT, .ret oT, fun _ => some ((true, ()), (), ())⟩
theorem orc_ok [Orc P] {k : FuncId} (h : Orc.O P k = some (.bool true)) : Con.OK P k cT := by
  intro x y hF S0 env m args hT hB hsl hnil
  have hs : args.size = 0 := hnil rfl
  have hy : y = ((true, ()), (), ()) := by have : some ((true, ()), (), ()) = some y := hF; cases this; rfl
  subst hy
  refine ⟨.ret (.bool true), m, env, ⟨0, fun n _ => ?_⟩, ⟨Fr2.refl hT.free, hT, fun j hj => absurd hj (Nat.not_lt_zero _), fun i w => .inl w, fun i w => .inl w, fun j hj => absurd hj (Nat.not_lt_zero _), fun j L hj => absurd hj (Nat.not_lt_zero _), fun i w => w⟩, ⟨.bool true, rfl, ofV_rep (.bool true)⟩⟩
  unfold callF orcF
  rw [if_pos hs, h]
end Go.IM.V
namespace Go.IM.V
open Go Go.IM Go.Proofs
set_option maxRecDepth 100000 in
theorem run19 : isT (run0 Try.prog 400 19 #[]) = true := by kernel_rfl
instance orc19 : Orc Try.prog := Orc.one Try.prog 19 400 run19
noncomputable def F19 : Option (OT.ret oT).E := some ((true, ()), (), ())
noncomputable def c19 : Con := ⟨iT, .ret oT, fun _ => F19⟩
theorem c19_ok : Con.OK Try.prog 19 c19 := orc_ok rfl
noncomputable def b89 : Code := (.seq (.region 0 (regOf Try.f89 0) false) (.seq (.region 1 (regOf Try.f89 1) false) .ret))
theorem body89 : Try.f89.body = some b89 := by kernel_rfl
noncomputable def C89 : Tab := []
theorem C89_ok : TabOK Try.prog C89 := trivial
noncomputable def LO89 : Tab := []
noncomputable def i89 : Tm := { sl := [(0, .v (.i .i64))], bx := [], bf := [] }
noncomputable def o89 : OT := (.ret { sl := [(0, .v .b)], bx := [], bf := [] })
noncomputable def F89 (a0 : Int) : Option ((Bool × Unit) × Unit × Unit) :=
  (bif (decide ((a0 : Int) ≥ 0)) then (some (((decide ((a0 : Int) < 64)), ()), (), ())) else (some ((false, ()), (), ())))
noncomputable def c89 : Con := ⟨i89, o89, fun x => F89 x.1.1⟩
theorem e89 (x : i89.E) : vfn Try.prog C89 LO89 Try.f89 b89 i89 o89 x = F89 x.1.1 := by kernel_rfl
theorem c89_ok : Con.OK Try.prog 89 c89 := (fn_ok C89_ok rfl Try.func89 body89 (loops_of (l := []) (by kernel_rfl) (show LoopsOK Try.prog Try.f89.ntmps [] LO89 from trivial)) i89 o89).congr fun x => (e89 x).symm
noncomputable def b51 : Code := (.seq (.region 0 (regOf Try.f51 0) false) (.seq (.region 1 (regOf Try.f51 1) false) (.seq (.block 0 (.seq (.region 2 (regOf Try.f51 2) false) (.cond (.tmp 12) (.seq (.region 3 (regOf Try.f51 3) false) .ret) (.seq (.region 4 (regOf Try.f51 4) false) (.cond (.tmp 48) (.seq (.region 5 (regOf Try.f51 5) false) .ret) (.seq (.region 6 (regOf Try.f51 6) false) (.cond (.tmp 73) (.seq (.region 7 (regOf Try.f51 7) false) .ret) .skip))))))) (.seq (.region 8 (regOf Try.f51 8) false) .ret))))
theorem body51 : Try.f51.body = some b51 := by kernel_rfl
noncomputable def C51 : Tab := [(89, c89)]
theorem C51_ok : TabOK Try.prog C51 := ⟨c89_ok, trivial⟩
noncomputable def LO51 : Tab := []
noncomputable def i51 : Tm := { sl := [(0, .v (.p (.i .i64) (.p (.i .u64) (.p (.i .u64) (.p (.i .u8) (.p .s (.p (.l (.i .u8)) (.p (.f .f64) (.p (.i .i64) .u)))))))))], bx := [], bf := [] }
noncomputable def o51 : OT := (.ret { sl := [(0, .v (.i .i64))], bx := [], bf := [] })
noncomputable def F51 (a0 : (Int × (Int × (Int × (Int × (ByteArray × ((List Int) × (Nat × (Int × Unit))))))))) : Option ((Int × Unit) × Unit × Unit) :=
  (bif (decide ((a0.2.2.2.1 : Int) ≥ 1)) then ((F89 a0.1).bind fun y1 => (bif (!y1.1.1) then (some ((1, ()), (), ())) else (bif ((a0.2.1 : Int) == 0) then (some ((1, ()), (), ())) else (bif ((a0.2.2.1 : Int) == 0) then (some ((1, ()), (), ())) else (bif (decide ((a0.2.2.2.1 : Int) < 1)) then (some ((1, ()), (), ())) else (bif (decide ((a0.2.2.2.1 : Int) > 6)) then (some ((1, ()), (), ())) else (bif ((a0.2.2.2.1 : Int) == 5) then ((F89 a0.2.2.2.2.2.2.2.1).bind fun y2 => (bif (!y2.1.1) then (some ((1, ()), (), ())) else (bif (decide ((a0.2.2.2.1 : Int) ≤ 4)) then (bif ((((a0.2.2.2.2.1.size : Nat) : Int) : Int) == 0) then (some ((6, ()), (), ())) else (bif (decide ((((a0.2.2.2.2.1.size : Nat) : Int) : Int) > 64)) then (some ((6, ()), (), ())) else (bif ((a0.2.2.2.1 : Int) == 1) then (bif (decide (((((a0.2.2.2.2.2.1).length : Nat) : Int) : Int) > 1048576)) then (some ((6, ()), (), ())) else (bif (decide ((a0.2.1 : Int) > 9223372036854775807)) then (some ((8, ()), (), ())) else (bif (decide ((a0.2.2.1 : Int) > 9223372036854775807)) then (some ((8, ()), (), ())) else (some ((0, ()), (), ()))))) else (bif (decide ((a0.2.1 : Int) > 9223372036854775807)) then (some ((8, ()), (), ())) else (bif (decide ((a0.2.2.1 : Int) > 9223372036854775807)) then (some ((8, ()), (), ())) else (some ((0, ()), (), ()))))))) else (bif ((a0.2.2.2.1 : Int) == 1) then (bif (decide (((((a0.2.2.2.2.2.1).length : Nat) : Int) : Int) > 1048576)) then (some ((6, ()), (), ())) else (bif (decide ((a0.2.1 : Int) > 9223372036854775807)) then (some ((8, ()), (), ())) else (bif (decide ((a0.2.2.1 : Int) > 9223372036854775807)) then (some ((8, ()), (), ())) else (some ((0, ()), (), ()))))) else (bif (decide ((a0.2.1 : Int) > 9223372036854775807)) then (some ((8, ()), (), ())) else (bif (decide ((a0.2.2.1 : Int) > 9223372036854775807)) then (some ((8, ()), (), ())) else (some ((0, ()), (), ())))))))) else (bif (decide ((a0.2.2.2.1 : Int) ≤ 4)) then (bif ((((a0.2.2.2.2.1.size : Nat) : Int) : Int) == 0) then (some ((6, ()), (), ())) else (bif (decide ((((a0.2.2.2.2.1.size : Nat) : Int) : Int) > 64)) then (some ((6, ()), (), ())) else (bif ((a0.2.2.2.1 : Int) == 1) then (bif (decide (((((a0.2.2.2.2.2.1).length : Nat) : Int) : Int) > 1048576)) then (some ((6, ()), (), ())) else (bif (decide ((a0.2.1 : Int) > 9223372036854775807)) then (some ((8, ()), (), ())) else (bif (decide ((a0.2.2.1 : Int) > 9223372036854775807)) then (some ((8, ()), (), ())) else (some ((0, ()), (), ()))))) else (bif (decide ((a0.2.1 : Int) > 9223372036854775807)) then (some ((8, ()), (), ())) else (bif (decide ((a0.2.2.1 : Int) > 9223372036854775807)) then (some ((8, ()), (), ())) else (some ((0, ()), (), ()))))))) else (bif ((a0.2.2.2.1 : Int) == 1) then (bif (decide (((((a0.2.2.2.2.2.1).length : Nat) : Int) : Int) > 1048576)) then (some ((6, ()), (), ())) else (bif (decide ((a0.2.1 : Int) > 9223372036854775807)) then (some ((8, ()), (), ())) else (bif (decide ((a0.2.2.1 : Int) > 9223372036854775807)) then (some ((8, ()), (), ())) else (some ((0, ()), (), ()))))) else (bif (decide ((a0.2.1 : Int) > 9223372036854775807)) then (some ((8, ()), (), ())) else (bif (decide ((a0.2.2.1 : Int) > 9223372036854775807)) then (some ((8, ()), (), ())) else (some ((0, ()), (), ()))))))))))))) else ((F89 a0.1).bind fun y3 => (bif (!y3.1.1) then (some ((1, ()), (), ())) else (bif ((a0.2.1 : Int) == 0) then (some ((1, ()), (), ())) else (bif ((a0.2.2.1 : Int) == 0) then (some ((1, ()), (), ())) else (bif (decide ((a0.2.2.2.1 : Int) < 1)) then (some ((1, ()), (), ())) else (bif (decide ((a0.2.2.2.1 : Int) > 6)) then (some ((1, ()), (), ())) else (bif ((a0.2.2.2.1 : Int) == 5) then ((F89 a0.2.2.2.2.2.2.2.1).bind fun y4 => (bif (!y4.1.1) then (some ((1, ()), (), ())) else (bif ((a0.2.2.2.1 : Int) == 1) then (bif (decide (((((a0.2.2.2.2.2.1).length : Nat) : Int) : Int) > 1048576)) then (some ((6, ()), (), ())) else (bif (decide ((a0.2.1 : Int) > 9223372036854775807)) then (some ((8, ()), (), ())) else (bif (decide ((a0.2.2.1 : Int) > 9223372036854775807)) then (some ((8, ()), (), ())) else (some ((0, ()), (), ()))))) else (bif (decide ((a0.2.1 : Int) > 9223372036854775807)) then (some ((8, ()), (), ())) else (bif (decide ((a0.2.2.1 : Int) > 9223372036854775807)) then (some ((8, ()), (), ())) else (some ((0, ()), (), ()))))))) else (bif ((a0.2.2.2.1 : Int) == 1) then (bif (decide (((((a0.2.2.2.2.2.1).length : Nat) : Int) : Int) > 1048576)) then (some ((6, ()), (), ())) else (bif (decide ((a0.2.1 : Int) > 9223372036854775807)) then (some ((8, ()), (), ())) else (bif (decide ((a0.2.2.1 : Int) > 9223372036854775807)) then (some ((8, ()), (), ())) else (some ((0, ()), (), ()))))) else (bif (decide ((a0.2.1 : Int) > 9223372036854775807)) then (some ((8, ()), (), ())) else (bif (decide ((a0.2.2.1 : Int) > 9223372036854775807)) then (some ((8, ()), (), ())) else (some ((0, ()), (), ())))))))))))))
noncomputable def c51 : Con := ⟨i51, o51, fun x => F51 x.1.1⟩
theorem e51 (x : i51.E) : vfn Try.prog C51 LO51 Try.f51 b51 i51 o51 x = F51 x.1.1 := by kernel_rfl
theorem c51_ok : Con.OK Try.prog 51 c51 := (fn_ok C51_ok rfl Try.func51 body51 (loops_of (l := []) (by kernel_rfl) (show LoopsOK Try.prog Try.f51.ntmps [] LO51 from trivial)) i51 o51).congr fun x => (e51 x).symm
noncomputable def l23_12 : Code := (.seq (.region 12 (regOf Try.f23 12) false) (.seq (.cond (.tmp 61) .skip (.exit 1)) (.seq (.block 2 (.seq (.region 13 (regOf Try.f23 13) false) (.region 14 (regOf Try.f23 14) false))) (.region 15 (regOf Try.f23 15) false))))
noncomputable def b23 : Code := (.seq (.region 0 (regOf Try.f23 0) false) (.seq (.seq (.region 1 (regOf Try.f23 1) false) (.block 0 (.seq (.region 2 (regOf Try.f23 2) false) (.cond (.tmp 12) (.seq (.region 3 (regOf Try.f23 3) false) .ret) (.seq (.region 4 (regOf Try.f23 4) false) (.cond (.tmp 15) (.seq (.region 5 (regOf Try.f23 5) false) .ret) (.seq (.region 6 (regOf Try.f23 6) true) (.cond (.tmp 19) (.seq (.region 7 (regOf Try.f23 7) false) .ret) (.seq (.region 8 (regOf Try.f23 8) true) (.cond (.tmp 28) (.seq (.region 9 (regOf Try.f23 9) false) .ret) .skip)))))))))) (.seq (.region 10 (regOf Try.f23 10) true) (.seq (.seq (.region 11 (regOf Try.f23 11) false) (.block 1 (.loop l23_12))) (.seq (.seq (.region 16 (regOf Try.f23 16) false) (.block 3 (.seq (.region 17 (regOf Try.f23 17) false) (.cond (.tmp 78) (.region 18 (regOf Try.f23 18) true) (.seq (.region 19 (regOf Try.f23 19) false) (.cond (.tmp 90) (.region 20 (regOf Try.f23 20) true) (.seq (.region 21 (regOf Try.f23 21) false) (.cond (.tmp 102) (.seq (.region 22 (regOf Try.f23 22) true) (.seq (.region 23 (regOf Try.f23 23) false) (.seq (.seq (.region 24 (regOf Try.f23 24) false) (.cond (.tmp 116) (.region 25 (regOf Try.f23 25) false) .skip)) (.region 26 (regOf Try.f23 26) true)))) (.seq (.region 27 (regOf Try.f23 27) false) (.cond (.tmp 130) (.region 28 (regOf Try.f23 28) true) (.seq (.region 29 (regOf Try.f23 29) false) (.cond (.tmp 138) (.region 30 (regOf Try.f23 30) true) (.seq (.region 31 (regOf Try.f23 31) false) (.cond (.tmp 146) (.region 32 (regOf Try.f23 32) true) .skip)))))))))))))) (.seq (.region 33 (regOf Try.f23 33) false) .ret))))))
theorem body23 : Try.f23.body = some b23 := by kernel_rfl
noncomputable def C23 : Tab := [(51, c51)]
theorem C23_ok : TabOK Try.prog C23 := ⟨c51_ok, trivial⟩
noncomputable def LO23 : Tab := []
noncomputable def i23 : Tm := { sl := [(0, .nl), (1, .v (.p (.i .i64) (.p (.i .u64) (.p (.i .u64) (.p (.i .u8) (.p .s (.p (.l (.i .u8)) (.p (.f .f64) (.p (.i .i64) .u)))))))))], bx := [], bf := [] }
noncomputable def o23 : OT := (.ret { sl := [(0, .v (.i .i64))], bx := [], bf := [] })
noncomputable def F23 (a1 : (Int × (Int × (Int × (Int × (ByteArray × ((List Int) × (Nat × (Int × Unit))))))))) : Option ((Int × Unit) × Unit × Unit) :=
  ((F51 (a1.1, (a1.2.1, (a1.2.2.1, (a1.2.2.2.1, (a1.2.2.2.2.1, (a1.2.2.2.2.2.1, (a1.2.2.2.2.2.2.1, (a1.2.2.2.2.2.2.2.1, ()))))))))).bind fun y5 => (some ((2, ()), (), ())))
noncomputable def c23 : Con := ⟨i23, o23, fun x => F23 x.1.2.1⟩
theorem e23 (x : i23.E) : vfn Try.prog C23 LO23 Try.f23 b23 i23 o23 x = F23 x.1.2.1 := by kernel_rfl
theorem c23_ok : Con.OK Try.prog 23 c23 := (fn_ok C23_ok rfl Try.func23 body23 (show ∀ b' ∈ loopsOf b23, ∀ con, lookC LO23 (headReg b') = some con → con.LOK Try.prog Try.f23.ntmps b' from fun _ _ _ h => absurd (show (none : Option Con) = some _ from h) (fun h => by cases h)) i23 o23).congr fun x => (e23 x).symm
noncomputable def b27 : Code := (.seq (.region 0 (regOf Try.f27 0) false) (.seq (.seq (.region 1 (regOf Try.f27 1) false) (.cond (.tmp 9) (.seq (.region 2 (regOf Try.f27 2) false) .ret) .skip)) (.seq (.region 3 (regOf Try.f27 3) false) (.seq (.region 4 (regOf Try.f27 4) false) (.seq (.region 5 (regOf Try.f27 5) false) .ret)))))
theorem body27 : Try.f27.body = some b27 := by kernel_rfl
noncomputable def C27 : Tab := []
theorem C27_ok : TabOK Try.prog C27 := trivial
noncomputable def LO27 : Tab := []
noncomputable def i27 : Tm := { sl := [(0, .nl), (1, .v .s)], bx := [], bf := [] }
noncomputable def o27 : OT := (.ret { sl := [(0, .v (.p (.i .u8) (.p (.l (.i .u8)) (.p (.f .f64) .u)))), (1, .v .b)], bx := [], bf := [] })
noncomputable def F27 (a1 : ByteArray) : Option (((Int × ((List Int) × (Nat × Unit))) × (Bool × Unit)) × Unit × Unit) :=
  (some (((0, (([] : List Int), (0, ()))), false, ()), (), ()))
noncomputable def c27 : Con := ⟨i27, o27, fun x => F27 x.1.2.1⟩
theorem e27 (x : i27.E) : vfn Try.prog C27 LO27 Try.f27 b27 i27 o27 x = F27 x.1.2.1 := by kernel_rfl
theorem c27_ok : Con.OK Try.prog 27 c27 := (fn_ok C27_ok rfl Try.func27 body27 (loops_of (l := []) (by kernel_rfl) (show LoopsOK Try.prog Try.f27.ntmps [] LO27 from trivial)) i27 o27).congr fun x => (e27 x).symm
noncomputable def b28 : Code := (.seq (.region 0 (regOf Try.f28 0) false) (.seq (.seq (.region 1 (regOf Try.f28 1) false) (.cond (.tmp 4) (.seq (.region 2 (regOf Try.f28 2) false) .ret) .skip)) (.seq (.region 3 (regOf Try.f28 3) false) .ret)))
theorem body28 : Try.f28.body = some b28 := by kernel_rfl
noncomputable def C28 : Tab := []
theorem C28_ok : TabOK Try.prog C28 := trivial
noncomputable def LO28 : Tab := []
noncomputable def i28 : Tm := { sl := [(0, .nl)], bx := [], bf := [] }
noncomputable def o28 : OT := (.ret { sl := [(0, .v (.l .s))], bx := [], bf := [] })
noncomputable def F28 : Option (((List ByteArray) × Unit) × Unit × Unit) :=
  (some ((([] : List ByteArray), ()), (), ()))
noncomputable def c28 : Con := ⟨i28, o28, fun x => F28⟩
theorem e28 (x : i28.E) : vfn Try.prog C28 LO28 Try.f28 b28 i28 o28 x = F28 := by kernel_rfl
theorem c28_ok : Con.OK Try.prog 28 c28 := (fn_ok C28_ok rfl Try.func28 body28 (loops_of (l := []) (by kernel_rfl) (show LoopsOK Try.prog Try.f28.ntmps [] LO28 from trivial)) i28 o28).congr fun x => (e28 x).symm
noncomputable def b34 : Code := (.seq (.region 0 (regOf Try.f34 0) false) (.seq (.region 1 (regOf Try.f34 1) false) .ret))
theorem body34 : Try.f34.body = some b34 := by kernel_rfl
noncomputable def C34 : Tab := []
theorem C34_ok : TabOK Try.prog C34 := trivial
noncomputable def LO34 : Tab := []
noncomputable def i34 : Tm := { sl := [(0, .nl), (1, .v (.i .i64))], bx := [], bf := [] }
noncomputable def o34 : OT := (.ret { sl := [(0, .v .b)], bx := [], bf := [] })
noncomputable def F34 (a1 : Int) : Option ((Bool × Unit) × Unit × Unit) :=
  (some ((false, ()), (), ()))
noncomputable def c34 : Con := ⟨i34, o34, fun x => F34 x.1.2.1⟩
theorem e34 (x : i34.E) : vfn Try.prog C34 LO34 Try.f34 b34 i34 o34 x = F34 x.1.2.1 := by kernel_rfl
theorem c34_ok : Con.OK Try.prog 34 c34 := (fn_ok C34_ok rfl Try.func34 body34 (loops_of (l := []) (by kernel_rfl) (show LoopsOK Try.prog Try.f34.ntmps [] LO34 from trivial)) i34 o34).congr fun x => (e34 x).symm
noncomputable def b33 : Code := (.seq (.region 0 (regOf Try.f33 0) false) (.seq (.region 1 (regOf Try.f33 1) false) .ret))
theorem body33 : Try.f33.body = some b33 := by kernel_rfl
noncomputable def C33 : Tab := []
theorem C33_ok : TabOK Try.prog C33 := trivial
noncomputable def LO33 : Tab := []
noncomputable def i33 : Tm := { sl := [(0, .nl), (1, .v (.i .i64))], bx := [], bf := [] }
noncomputable def o33 : OT := (.ret { sl := [(0, .v .b)], bx := [], bf := [] })
noncomputable def F33 (a1 : Int) : Option ((Bool × Unit) × Unit × Unit) :=
  (some ((false, ()), (), ()))
noncomputable def c33 : Con := ⟨i33, o33, fun x => F33 x.1.2.1⟩
theorem e33 (x : i33.E) : vfn Try.prog C33 LO33 Try.f33 b33 i33 o33 x = F33 x.1.2.1 := by kernel_rfl
theorem c33_ok : Con.OK Try.prog 33 c33 := (fn_ok C33_ok rfl Try.func33 body33 (loops_of (l := []) (by kernel_rfl) (show LoopsOK Try.prog Try.f33.ntmps [] LO33 from trivial)) i33 o33).congr fun x => (e33 x).symm
noncomputable def b32 : Code := (.seq (.region 0 (regOf Try.f32 0) false) (.seq (.region 1 (regOf Try.f32 1) false) .ret))
theorem body32 : Try.f32.body = some b32 := by kernel_rfl
noncomputable def C32 : Tab := [(33, c33), (34, c34)]
theorem C32_ok : TabOK Try.prog C32 := ⟨c33_ok, c34_ok, trivial⟩
noncomputable def LO32 : Tab := []
noncomputable def i32 : Tm := { sl := [(0, .nl), (1, .v (.i .i64))], bx := [], bf := [] }
noncomputable def o32 : OT := (.ret { sl := [(0, .v .b)], bx := [], bf := [] })
noncomputable def F32 (a1 : Int) : Option ((Bool × Unit) × Unit × Unit) :=
  ((F33 a1).bind fun y6 => (bif y6.1.1 then ((F34 a1).bind fun y7 => (some (((!y7.1.1), ()), (), ()))) else (some ((false, ()), (), ()))))
noncomputable def c32 : Con := ⟨i32, o32, fun x => F32 x.1.2.1⟩
theorem e32 (x : i32.E) : vfn Try.prog C32 LO32 Try.f32 b32 i32 o32 x = F32 x.1.2.1 := by kernel_rfl
theorem c32_ok : Con.OK Try.prog 32 c32 := (fn_ok C32_ok rfl Try.func32 body32 (loops_of (l := []) (by kernel_rfl) (show LoopsOK Try.prog Try.f32.ntmps [] LO32 from trivial)) i32 o32).congr fun x => (e32 x).symm
noncomputable def l29_3 : Code := (.seq (.region 3 (regOf Try.f29 3) false) (.seq (.cond (.tmp 6) .skip (.exit 0)) (.seq (.block 1 (.seq (.region 4 (regOf Try.f29 4) false) (.seq (.region 5 (regOf Try.f29 5) false) (.cond (.tmp 10) (.region 6 (regOf Try.f29 6) false) .skip)))) (.region 7 (regOf Try.f29 7) false))))
noncomputable def b29 : Code := (.seq (.region 0 (regOf Try.f29 0) false) (.seq (.region 1 (regOf Try.f29 1) false) (.seq (.seq (.region 2 (regOf Try.f29 2) false) (.block 0 (.loop l29_3))) (.seq (.region 8 (regOf Try.f29 8) false) .ret))))
theorem body29 : Try.f29.body = some b29 := by kernel_rfl
noncomputable def C29_3 : Tab := [(32, c32)]
theorem C29_3_ok : TabOK Try.prog C29_3 := ⟨c32_ok, trivial⟩
noncomputable def LO29_3 : Tab := []
noncomputable def i29_3 : Tm := { sl := [(0, .nl), (3, .o 0), (5, .v (.i .i64))], bx := [], bf := [(.i .i64)] }
noncomputable def o29_3 : OT := (.exit 0 { sl := [(3, .o 0)], bx := [], bf := [(.i .i64)] })
noncomputable def T29_3 (a5 : Int) (q0 : (List Int)) : Option (((Unit × (Unit × (Int × Unit))) × Unit × ((List Int) × Unit)) ⊕ ((Unit × Unit) × Unit × ((List Int) × Unit))) :=
  (bif (decide ((a5 : Int) < 64)) then ((F32 a5).bind fun y9 => (bif y9.1.1 then (bif (decide ((q0).length + ([a5]).length < lim)) then (some (.inl (((), (), (IntKind.wrap .i64 (a5 + 1)), ()), (), ((q0 ++ [a5]), ())))) else none) else (some (.inl (((), (), (IntKind.wrap .i64 (a5 + 1)), ()), (), (q0, ())))))) else (some (.inr (((), ()), (), (q0, ())))))
noncomputable def L29_3 (a5 : Int) (q0 : (List Int)) : Option ((Unit × Unit) × Unit × ((List Int) × Unit)) := loopF (fun x : ((Unit × (Unit × (Int × Unit))) × Unit × ((List Int) × Unit)) => T29_3 x.1.2.2.1 x.2.2.1) (((), (), a5, ()), (), (q0, ()))
theorem L29_3_eq (a5 : Int) (q0 : (List Int)) : L29_3 a5 q0 = (T29_3 a5 q0).bind (Sum.elim (fun x => L29_3 x.1.2.2.1 x.2.2.1) some) := loopF_eq _ _
noncomputable def k29_3 : Con := ⟨i29_3, o29_3, fun x => L29_3 x.1.2.2.1 x.2.2.1⟩
theorem e29_3 (x : i29_3.E) : vround Try.prog C29_3 LO29_3 Try.f29.ntmps l29_3 i29_3 o29_3 x = T29_3 x.1.2.2.1 x.2.2.1 := by kernel_rfl
theorem k29_3_ok : Con.LOK Try.prog Try.f29.ntmps l29_3 k29_3 := (loop_ok C29_3_ok (loops_of (l := []) (by kernel_rfl) (show LoopsOK Try.prog Try.f29.ntmps [] LO29_3 from trivial)) i29_3 o29_3).congr fun x => (congrArg (fun T => loopF T x) (funext e29_3)).symm
noncomputable def C29 : Tab := [(32, c32)]
theorem C29_ok : TabOK Try.prog C29 := ⟨c32_ok, trivial⟩
noncomputable def LO29 : Tab := [(3, k29_3)]
noncomputable def i29 : Tm := { sl := [(0, .nl)], bx := [], bf := [] }
noncomputable def o29 : OT := (.ret { sl := [(0, .v (.l (.i .i64)))], bx := [], bf := [] })
noncomputable def F29 : Option (((List Int) × Unit) × Unit × Unit) :=
  ((L29_3 0 ([] : List Int)).bind fun y10 => (some ((y10.2.2.1, ()), (), ())))
noncomputable def c29 : Con := ⟨i29, o29, fun x => F29⟩
theorem e29 (x : i29.E) : vfn Try.prog C29 LO29 Try.f29 b29 i29 o29 x = F29 := by kernel_rfl
theorem c29_ok : Con.OK Try.prog 29 c29 := (fn_ok C29_ok rfl Try.func29 body29 (loops_of (l := [l29_3]) (by kernel_rfl) (show LoopsOK Try.prog Try.f29.ntmps [l29_3] LO29 from ⟨k29_3_ok, trivial⟩)) i29 o29).congr fun x => (e29 x).symm
noncomputable def b30 : Code := (.seq (.region 0 (regOf Try.f30 0) false) (.seq (.seq (.region 1 (regOf Try.f30 1) false) (.cond (.tmp 4) (.seq (.region 2 (regOf Try.f30 2) false) .ret) .skip)) (.seq (.region 3 (regOf Try.f30 3) false) .ret)))
theorem body30 : Try.f30.body = some b30 := by kernel_rfl
noncomputable def C30 : Tab := []
theorem C30_ok : TabOK Try.prog C30 := trivial
noncomputable def LO30 : Tab := []
noncomputable def i30 : Tm := { sl := [(0, .nl)], bx := [], bf := [] }
noncomputable def o30 : OT := (.ret { sl := [(0, .v (.l (.i .u64)))], bx := [], bf := [] })
noncomputable def F30 : Option (((List Int) × Unit) × Unit × Unit) :=
  (some ((([] : List Int), ()), (), ()))
noncomputable def c30 : Con := ⟨i30, o30, fun x => F30⟩
theorem e30 (x : i30.E) : vfn Try.prog C30 LO30 Try.f30 b30 i30 o30 x = F30 := by kernel_rfl
theorem c30_ok : Con.OK Try.prog 30 c30 := (fn_ok C30_ok rfl Try.func30 body30 (loops_of (l := []) (by kernel_rfl) (show LoopsOK Try.prog Try.f30.ntmps [] LO30 from trivial)) i30 o30).congr fun x => (e30 x).symm
noncomputable def l31_8 : Code := (.seq (.region 8 (regOf Try.f31 8) false) (.seq (.cond (.tmp 54) .skip (.exit 0)) (.seq (.block 1 (.seq (.region 9 (regOf Try.f31 9) false) (.seq (.region 10 (regOf Try.f31 10) false) (.seq (.region 11 (regOf Try.f31 11) true) (.seq (.region 12 (regOf Try.f31 12) false) (.cond (.tmp 73) (.region 13 (regOf Try.f31 13) false) (.region 14 (regOf Try.f31 14) false))))))) (.region 15 (regOf Try.f31 15) false))))
noncomputable def b31 : Code := (.seq (.region 0 (regOf Try.f31 0) false) (.seq (.seq (.region 1 (regOf Try.f31 1) false) (.cond (.tmp 8) (.seq (.region 2 (regOf Try.f31 2) false) .ret) .skip)) (.seq (.region 3 (regOf Try.f31 3) false) (.seq (.region 4 (regOf Try.f31 4) true) (.seq (.region 5 (regOf Try.f31 5) true) (.seq (.region 6 (regOf Try.f31 6) false) (.seq (.seq (.region 7 (regOf Try.f31 7) false) (.block 0 (.loop l31_8))) (.seq (.region 16 (regOf Try.f31 16) false) .ret))))))))
theorem body31 : Try.f31.body = some b31 := by kernel_rfl
noncomputable def C31 : Tab := []
theorem C31_ok : TabOK Try.prog C31 := trivial
noncomputable def LO31 : Tab := []
noncomputable def i31 : Tm := { sl := [(0, .nl)], bx := [], bf := [] }
noncomputable def o31 : OT := (.ret { sl := [(0, .v (.l (.i .u8)))], bx := [], bf := [] })
noncomputable def F31 : Option (((List Int) × Unit) × Unit × Unit) :=
  (some ((([] : List Int), ()), (), ()))
noncomputable def c31 : Con := ⟨i31, o31, fun x => F31⟩
theorem e31 (x : i31.E) : vfn Try.prog C31 LO31 Try.f31 b31 i31 o31 x = F31 := by kernel_rfl
theorem c31_ok : Con.OK Try.prog 31 c31 := (fn_ok C31_ok rfl Try.func31 body31 (show ∀ b' ∈ loopsOf b31, ∀ con, lookC LO31 (headReg b') = some con → con.LOK Try.prog Try.f31.ntmps b' from fun _ _ _ h => absurd (show (none : Option Con) = some _ from h) (fun h => by cases h)) i31 o31).congr fun x => (e31 x).symm
noncomputable def b35 : Code := (.seq (.region 0 (regOf Try.f35 0) false) (.seq (.seq (.region 1 (regOf Try.f35 1) false) (.cond (.tmp 4) (.seq (.region 2 (regOf Try.f35 2) false) .ret) .skip)) (.seq (.region 3 (regOf Try.f35 3) false) .ret)))
theorem body35 : Try.f35.body = some b35 := by kernel_rfl
noncomputable def C35 : Tab := []
theorem C35_ok : TabOK Try.prog C35 := trivial
noncomputable def LO35 : Tab := []
noncomputable def i35 : Tm := { sl := [(0, .nl)], bx := [], bf := [] }
noncomputable def o35 : OT := (.ret { sl := [(0, .v (.p (.i .u64) (.p (.i .i64) .u)))], bx := [], bf := [] })
noncomputable def F35 : Option (((Int × (Int × Unit)) × Unit) × Unit × Unit) :=
  (some (((0, (0, ())), ()), (), ()))
noncomputable def c35 : Con := ⟨i35, o35, fun x => F35⟩
theorem e35 (x : i35.E) : vfn Try.prog C35 LO35 Try.f35 b35 i35 o35 x = F35 := by kernel_rfl
theorem c35_ok : Con.OK Try.prog 35 c35 := (fn_ok C35_ok rfl Try.func35 body35 (loops_of (l := []) (by kernel_rfl) (show LoopsOK Try.prog Try.f35.ntmps [] LO35 from trivial)) i35 o35).congr fun x => (e35 x).symm
noncomputable def b36 : Code := (.seq (.region 0 (regOf Try.f36 0) false) (.seq (.seq (.region 1 (regOf Try.f36 1) false) (.cond (.tmp 4) (.seq (.region 2 (regOf Try.f36 2) false) .ret) .skip)) (.seq (.region 3 (regOf Try.f36 3) false) .ret)))
theorem body36 : Try.f36.body = some b36 := by kernel_rfl
noncomputable def C36 : Tab := []
theorem C36_ok : TabOK Try.prog C36 := trivial
noncomputable def LO36 : Tab := []
noncomputable def i36 : Tm := { sl := [(0, .nl)], bx := [], bf := [] }
noncomputable def o36 : OT := (.ret { sl := [(0, .v (.i .u64))], bx := [], bf := [] })
noncomputable def F36 : Option ((Int × Unit) × Unit × Unit) :=
  (some ((0, ()), (), ()))
noncomputable def c36 : Con := ⟨i36, o36, fun x => F36⟩
theorem e36 (x : i36.E) : vfn Try.prog C36 LO36 Try.f36 b36 i36 o36 x = F36 := by kernel_rfl
theorem c36_ok : Con.OK Try.prog 36 c36 := (fn_ok C36_ok rfl Try.func36 body36 (loops_of (l := []) (by kernel_rfl) (show LoopsOK Try.prog Try.f36.ntmps [] LO36 from trivial)) i36 o36).congr fun x => (e36 x).symm
noncomputable def b25 : Code := (.seq (.region 0 (regOf Try.f25 0) false) (.seq (.seq (.region 1 (regOf Try.f25 1) false) (.cond (.tmp 5) (.seq (.region 2 (regOf Try.f25 2) false) .ret) .skip)) (.seq (.region 3 (regOf Try.f25 3) false) (.seq (.region 4 (regOf Try.f25 4) false) (.seq (.region 5 (regOf Try.f25 5) false) .ret)))))
theorem body25 : Try.f25.body = some b25 := by kernel_rfl
noncomputable def C25 : Tab := []
theorem C25_ok : TabOK Try.prog C25 := trivial
noncomputable def LO25 : Tab := []
noncomputable def i25 : Tm := { sl := [(0, .nl)], bx := [], bf := [] }
noncomputable def o25 : OT := (.ret { sl := [(0, .nl)], bx := [], bf := [] })
noncomputable def F25 : Option ((Unit × Unit) × Unit × Unit) :=
  (some (((), ()), (), ()))
noncomputable def c25 : Con := ⟨i25, o25, fun x => F25⟩
theorem e25 (x : i25.E) : vfn Try.prog C25 LO25 Try.f25 b25 i25 o25 x = F25 := by kernel_rfl
theorem c25_ok : Con.OK Try.prog 25 c25 := (fn_ok C25_ok rfl Try.func25 body25 (loops_of (l := []) (by kernel_rfl) (show LoopsOK Try.prog Try.f25.ntmps [] LO25 from trivial)) i25 o25).congr fun x => (e25 x).symm
noncomputable def b6 : Code := (.seq (.region 0 (regOf Try.f6 0) false) (.seq (.seq (.region 1 (regOf Try.f6 1) false) (.cond (.tmp 28) (.seq (.region 2 (regOf Try.f6 2) false) .ret) .skip)) (.seq (.region 3 (regOf Try.f6 3) false) (.seq (.region 4 (regOf Try.f6 4) false) (.seq (.region 5 (regOf Try.f6 5) false) .ret)))))
theorem body6 : Try.f6.body = some b6 := by kernel_rfl
noncomputable def C6 : Tab := [(19, c19), (23, c23), (25, c25), (27, c27), (28, c28), (29, c29), (30, c30), (31, c31), (32, c32), (33, c33), (34, c34), (35, c35), (36, c36)]
theorem C6_ok : TabOK Try.prog C6 := ⟨c19_ok, c23_ok, c25_ok, c27_ok, c28_ok, c29_ok, c30_ok, c31_ok, c32_ok, c33_ok, c34_ok, c35_ok, c36_ok, trivial⟩
noncomputable def LO6 : Tab := []
noncomputable def i6 : Tm := { sl := [(0, .v (.p (.i .i64) (.p (.i .u64) (.p (.i .u64) (.p (.i .u8) (.p .s (.p (.l (.i .u8)) (.p (.f .f64) (.p (.i .i64) .u))))))))), (1, .v .s), (2, .v (.i .i64))], bx := [], bf := [] }
noncomputable def o6 : OT := (.ret { sl := [(0, .v .b)], bx := [], bf := [] })
noncomputable def F6 (a0 : (Int × (Int × (Int × (Int × (ByteArray × ((List Int) × (Nat × (Int × Unit))))))))) (a1 : ByteArray) (a2 : Int) : Option ((Bool × Unit) × Unit × Unit) :=
  ((F19).bind fun y11 => (bif (!y11.1.1) then ((F19).bind fun y12 => (some ((y12.1.1, ()), (), ()))) else (bif (decide ((((a1.size : Nat) : Int) : Int) > 100)) then ((F19).bind fun y13 => (some ((y13.1.1, ()), (), ()))) else (bif (decide ((((a0.2.2.2.2.1.size : Nat) : Int) : Int) > 100)) then ((F19).bind fun y14 => (some ((y14.1.1, ()), (), ()))) else (bif (decide (((((a0.2.2.2.2.2.1).length : Nat) : Int) : Int) > 100)) then ((F19).bind fun y15 => (some ((y15.1.1, ()), (), ()))) else ((F27 a1).bind fun y16 => ((F23 (a0.1, (a0.2.1, (a0.2.2.1, (a0.2.2.2.1, (a0.2.2.2.2.1, (a0.2.2.2.2.2.1, (a0.2.2.2.2.2.2.1, (a0.2.2.2.2.2.2.2.1, ()))))))))).bind fun y17 => (bif ((y17.1.1 : Int) == 2) then (bif (!y16.1.2.1) then ((F28).bind fun y18 => ((F29).bind fun y19 => ((F30).bind fun y20 => ((F31).bind fun y21 => (bif (((IntKind.wrap .i64 ((IntKind.wrap .i64 ((IntKind.wrap .i64 ((((y18.1.1).length : Nat) : Int) + (((y19.1.1).length : Nat) : Int))) + (((y20.1.1).length : Nat) : Int))) + (((y21.1.1).length : Nat) : Int))) : Int) == 0) then ((F32 a2).bind fun y22 => (bif (!y22.1.1) then ((F33 a2).bind fun y23 => (bif (!y23.1.1) then ((F34 a2).bind fun y24 => (bif (!y24.1.1) then ((F35).bind fun y25 => (bif (((y25.1.1.1 : Int) == 0) && ((y25.1.1.2.1 : Int) == 0)) then ((F36).bind fun y26 => (bif ((y26.1.1 : Int) == 0) then ((F25).bind fun y27 => (some ((true, ()), (), ()))) else (some ((false, ()), (), ())))) else (some ((false, ()), (), ())))) else (some ((false, ()), (), ())))) else (some ((false, ()), (), ())))) else (some ((false, ()), (), ())))) else (some ((false, ()), (), ()))))))) else (some ((false, ()), (), ()))) else (some ((false, ()), (), ()))))))))))
noncomputable def c6 : Con := ⟨i6, o6, fun x => F6 x.1.1 x.1.2.1 x.1.2.2.1⟩
theorem e6 (x : i6.E) : vfn Try.prog C6 LO6 Try.f6 b6 i6 o6 x = F6 x.1.1 x.1.2.1 x.1.2.2.1 := by kernel_rfl
theorem c6_ok : Con.OK Try.prog 6 c6 := (fn_ok C6_ok rfl Try.func6 body6 (loops_of (l := []) (by kernel_rfl) (show LoopsOK Try.prog Try.f6.ntmps [] LO6 from trivial)) i6 o6).congr fun x => (e6 x).symm
end Go.IM.V
namespace Go.IM.V
open Go Go.IM Go.Proofs
theorem node_any (n : Int) : ∃ b, F89 n = some ((b, ()), (), ()) := by
  unfold F89
  cases decide ((n : Int) ≥ 0) <;> exact ⟨_, rfl⟩
def OkI (x : Option ((Int × Unit) × Unit × Unit)) : Prop := ∃ n, x = some ((n, ()), (), ())
theorem OkI.cond {b : Bool} {x y : Option ((Int × Unit) × Unit × Unit)} (h : OkI x) (k : OkI y) : OkI (bif b then x else y) := by cases b <;> assumption
theorem OkI.some (n : Int) : OkI (some ((n, ()), (), ())) := ⟨n, rfl⟩
theorem right_any (a : (Int × (Int × (Int × (Int × (ByteArray × ((List Int) × (Nat × (Int × Unit))))))))) : OkI (F51 a) := by
  obtain ⟨b, hb⟩ := node_any a.1
  obtain ⟨c, hc⟩ := node_any a.2.2.2.2.2.2.2.1
  unfold F51
  rw [hb, hc]
  simp only [Option.bind_some]
  repeat' first | exact OkI.some _ | apply OkI.cond
theorem apply_nil (a : (Int × (Int × (Int × (Int × (ByteArray × ((List Int) × (Nat × (Int × Unit))))))))) : F23 a = some ((2, ()), (), ()) := by
  obtain ⟨n, hn⟩ := right_any a
  unfold F23
  rw [show (a.1, (a.2.1, (a.2.2.1, (a.2.2.2.1, (a.2.2.2.2.1, (a.2.2.2.2.2.1, (a.2.2.2.2.2.2.1, (a.2.2.2.2.2.2.2.1, ())))))))) = a from rfl, hn]
  rfl
theorem member_nil (n : Int) : F32 n = some ((false, ()), (), ()) := rfl
theorem members_nil : ∀ (k : Nat) (j : Int), j = 64 - (k : Int) → k ≤ 64 → L29_3 j [] = some (((), ()), (), (([] : List Int), ())) := by
  intro k
  induction k with
  | zero => intro j hj hk; subst hj; rw [L29_3_eq]; rfl
  | succ k ih =>
    intro j hj hk
    rw [L29_3_eq]
    unfold T29_3
    rw [decide_eq_true (show j < 64 by omega), member_nil]
    simp only [cond_true, cond_false, Option.bind_some, Sum.elim_inl]
    rw [show IntKind.wrap .i64 (j + 1) = j + 1 by simp [IntKind.wrap, IntKind.signed, IntKind.bits]; omega]
    exact ih (j + 1) (by omega) (by omega)
theorem members_none : F29 = some ((([] : List Int), ()), (), ()) := by
  unfold F29
  rw [members_nil 64 0 (by omega) (by omega)]
  rfl
theorem foldNil_pure (a0 : (Int × (Int × (Int × (Int × (ByteArray × ((List Int) × (Nat × (Int × Unit))))))))) (a1 : ByteArray) (a2 : Int) : F6 a0 a1 a2 = some ((true, ()), (), ()) := by
  unfold F6
  rw [show (a0.1, (a0.2.1, (a0.2.2.1, (a0.2.2.2.1, (a0.2.2.2.2.1, (a0.2.2.2.2.2.1, (a0.2.2.2.2.2.2.1, (a0.2.2.2.2.2.2.2.1, ())))))))) = a0 from rfl, apply_nil, members_none]
  generalize decide ((((a1.size : Nat) : Int) : Int) > 100) = d1
  generalize decide ((((a0.2.2.2.2.1.size : Nat) : Int) : Int) > 100) = d2
  generalize decide (((((a0.2.2.2.2.2.1).length : Nat) : Int) : Int) > 100) = d3
  cases d1 <;> cases d2 <;> cases d3 <;> rfl
end Go.IM.V