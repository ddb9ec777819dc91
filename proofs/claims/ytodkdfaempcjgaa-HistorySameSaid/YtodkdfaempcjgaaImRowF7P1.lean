/- What the code of a law comes to, and what that tells: part 1. Lemmas alone; no conditions. -/
import Derived.Test.YtodkdfaempcjgaaProg
import Derived.KernelRfl
import Derived.Test.YtodkdfaempcjgaaImM5
import Derived.Test.YtodkdfaempcjgaaImM2
set_option linter.unusedVariables false
set_option linter.unusedSimpArgs false
set_option linter.constructorNameAsVariable false
namespace Go.IM.V
open Go Go.IM
variable {P : Program} {m m1 : M} {S0 : Nat → Prop} {env env1 : Env} {X Y : Cx}
def iT : Tm := { sl := [] }
def oT : Tm := { sl := [(0, .v .b)] }
def cT : Con := ⟨iT, .ret oT, fun _ => some ((true, ()), (), ())⟩
theorem orc_ok [Orc P] {k : FuncId} (h : Orc.O P k = some (.bool true)) : Con.OK P k cT := by
  intro x y hF S0 env m args hT hB hsl hnil
  have hs : args.size = 0 := hnil rfl
  have hy : y = ((true, ()), (), ()) := by have : some ((true, ()), (), ()) = some y := hF; cases this; rfl
  subst hy
  refine ⟨.ret (.bool true), m, env, ⟨0, fun n _ => ?_⟩, ⟨Fr2.refl hT.free, hT, fun j hj => absurd hj (Nat.not_lt_zero _), fun i w => .inl w, fun i w => .inl w, fun j hj => absurd hj (Nat.not_lt_zero _), fun j L hj => absurd hj (Nat.not_lt_zero _), fun i w => w⟩, ⟨.bool true, rfl, ofV_rep (.bool true)⟩⟩
  unfold callF orcF
  rw [if_pos hs, h]
end Go.IM.V
namespace Go.IM.V
open Go Go.IM Go.Proofs
set_option maxRecDepth 100000 in
theorem run8 : isT (run0 Try.prog 400 8 #[]) = true := by kernel_rfl
instance orc8 : Orc Try.prog := Orc.one Try.prog 8 400 run8
noncomputable def F8 : Option (OT.ret oT).E := some ((true, ()), (), ())
noncomputable def c8 : Con := ⟨iT, .ret oT, fun _ => F8⟩
theorem c8_ok : Con.OK Try.prog 8 c8 := orc_ok rfl
noncomputable def b103 : Code := (.seq (.region 0 (regOf Try.f103 0) false) (.seq (.region 1 (regOf Try.f103 1) false) .ret))
theorem body103 : Try.f103.body = some b103 := by kernel_rfl
noncomputable def C103 : Tab := []
theorem C103_ok : TabOK Try.prog C103 := trivial
noncomputable def LO103 : Tab := []
noncomputable def i103 : Tm := { sl := [(0, .v (.f .f64))], bx := [], bf := [] }
noncomputable def o103 : OT := (.ret { sl := [(0, .v .b)], bx := [], bf := [] })
noncomputable def F103 (a0 : Nat) : Option ((Bool × Unit) × Unit × Unit) :=
  (some ((((FloatKind.f64).format.order (a0) (a0) != some Ordering.eq), ()), (), ()))
noncomputable def c103 : Con := ⟨i103, o103, fun x => F103 x.1.1⟩
theorem e103 (x : i103.E) : vfn Try.prog C103 LO103 Try.f103 b103 i103 o103 x = F103 x.1.1 := by kernel_rfl
theorem c103_ok : Con.OK Try.prog 103 c103 := (fn_ok C103_ok rfl Try.func103 body103 (loops_of (l := []) (by kernel_rfl) (show LoopsOK Try.prog Try.f103.ntmps [] LO103 from trivial)) i103 o103).congr fun x => (e103 x).symm
noncomputable def b77 : Code := (.seq (.region 0 (regOf Try.f77 0) false) (.seq (.seq (.region 1 (regOf Try.f77 1) false) (.cond (.tmp 4) (.seq (.region 2 (regOf Try.f77 2) false) .ret) .skip)) (.seq (.region 3 (regOf Try.f77 3) false) .ret)))
theorem body77 : Try.f77.body = some b77 := by kernel_rfl
noncomputable def C77 : Tab := [(103, c103)]
theorem C77_ok : TabOK Try.prog C77 := ⟨c103_ok, trivial⟩
noncomputable def LO77 : Tab := []
noncomputable def i77 : Tm := { sl := [(0, .v (.f .f64))], bx := [], bf := [] }
noncomputable def o77 : OT := (.ret { sl := [(0, .v (.i .u64))], bx := [], bf := [] })
noncomputable def F77 (a0 : Nat) : Option ((Int × Unit) × Unit × Unit) :=
  ((F103 a0).bind fun y1 => (bif y1.1.1 then (some ((9221120237041090561, ()), (), ())) else (some (((((a0) : Nat) : Int), ()), (), ()))))
noncomputable def c77 : Con := ⟨i77, o77, fun x => F77 x.1.1⟩
theorem e77 (x : i77.E) : vfn Try.prog C77 LO77 Try.f77 b77 i77 o77 x = F77 x.1.1 := by kernel_rfl
theorem c77_ok : Con.OK Try.prog 77 c77 := (fn_ok C77_ok rfl Try.func77 body77 (loops_of (l := []) (by kernel_rfl) (show LoopsOK Try.prog Try.f77.ntmps [] LO77 from trivial)) i77 o77).congr fun x => (e77 x).symm
noncomputable def b38 : Code := (.seq (.region 0 (regOf Try.f38 0) false) (.seq (.region 1 (regOf Try.f38 1) false) .ret))
theorem body38 : Try.f38.body = some b38 := by kernel_rfl
noncomputable def C38 : Tab := [(77, c77)]
theorem C38_ok : TabOK Try.prog C38 := ⟨c77_ok, trivial⟩
noncomputable def LO38 : Tab := []
noncomputable def i38 : Tm := { sl := [(0, .v (.f .f64)), (1, .v (.f .f64))], bx := [], bf := [] }
noncomputable def o38 : OT := (.ret { sl := [(0, .v .b)], bx := [], bf := [] })
noncomputable def F38 (a0 : Nat) (a1 : Nat) : Option ((Bool × Unit) × Unit × Unit) :=
  ((F77 a0).bind fun y2 => ((F77 a1).bind fun y3 => (some ((((y2.1.1 : Int) == y3.1.1), ()), (), ()))))
noncomputable def c38 : Con := ⟨i38, o38, fun x => F38 x.1.1 x.1.2.1⟩
theorem e38 (x : i38.E) : vfn Try.prog C38 LO38 Try.f38 b38 i38 o38 x = F38 x.1.1 x.1.2.1 := by kernel_rfl
theorem c38_ok : Con.OK Try.prog 38 c38 := (fn_ok C38_ok rfl Try.func38 body38 (loops_of (l := []) (by kernel_rfl) (show LoopsOK Try.prog Try.f38.ntmps [] LO38 from trivial)) i38 o38).congr fun x => (e38 x).symm
noncomputable def b50 : Code := (.seq (.region 0 (regOf Try.f50 0) false) (.seq (.region 1 (regOf Try.f50 1) false) .ret))
theorem body50 : Try.f50.body = some b50 := by kernel_rfl
noncomputable def C50 : Tab := []
theorem C50_ok : TabOK Try.prog C50 := trivial
noncomputable def LO50 : Tab := []
noncomputable def i50 : Tm := { sl := [(0, .v (.l (.i .u8))), (1, .v (.l (.i .u8)))], bx := [], bf := [] }
noncomputable def o50 : OT := (.ret { sl := [(0, .v .b)], bx := [], bf := [] })
noncomputable def F50 (a0 : (List Int)) (a1 : (List Int)) : Option ((Bool × Unit) × Unit × Unit) :=
  (some (((((strL a0) : ByteArray).toList == ((strL a1) : ByteArray).toList), ()), (), ()))
noncomputable def c50 : Con := ⟨i50, o50, fun x => F50 x.1.1 x.1.2.1⟩
theorem e50 (x : i50.E) : vfn Try.prog C50 LO50 Try.f50 b50 i50 o50 x = F50 x.1.1 x.1.2.1 := by kernel_rfl
theorem c50_ok : Con.OK Try.prog 50 c50 := (fn_ok C50_ok rfl Try.func50 body50 (loops_of (l := []) (by kernel_rfl) (show LoopsOK Try.prog Try.f50.ntmps [] LO50 from trivial)) i50 o50).congr fun x => (e50 x).symm
noncomputable def b18 : Code := (.seq (.region 0 (regOf Try.f18 0) false) (.seq (.region 1 (regOf Try.f18 1) false) .ret))
theorem body18 : Try.f18.body = some b18 := by kernel_rfl
noncomputable def C18 : Tab := [(38, c38), (50, c50)]
theorem C18_ok : TabOK Try.prog C18 := ⟨c38_ok, c50_ok, trivial⟩
noncomputable def LO18 : Tab := []
noncomputable def i18 : Tm := { sl := [(0, .v (.p (.i .u8) (.p (.l (.i .u8)) (.p (.f .f64) .u)))), (1, .v (.p (.i .u8) (.p (.l (.i .u8)) (.p (.f .f64) .u))))], bx := [], bf := [] }
noncomputable def o18 : OT := (.ret { sl := [(0, .v .b)], bx := [], bf := [] })
noncomputable def F18 (a0 : (Int × ((List Int) × (Nat × Unit)))) (a1 : (Int × ((List Int) × (Nat × Unit)))) : Option ((Bool × Unit) × Unit × Unit) :=
  (bif ((a0.1 : Int) == a1.1) then ((F50 a0.2.1 a1.2.1).bind fun y4 => (bif y4.1.1 then ((F38 a0.2.2.1 a1.2.2.1).bind fun y5 => (some ((y5.1.1, ()), (), ()))) else (some ((false, ()), (), ())))) else (some ((false, ()), (), ())))
noncomputable def c18 : Con := ⟨i18, o18, fun x => F18 x.1.1 x.1.2.1⟩
theorem e18 (x : i18.E) : vfn Try.prog C18 LO18 Try.f18 b18 i18 o18 x = F18 x.1.1 x.1.2.1 := by kernel_rfl
theorem c18_ok : Con.OK Try.prog 18 c18 := (fn_ok C18_ok rfl Try.func18 body18 (loops_of (l := []) (by kernel_rfl) (show LoopsOK Try.prog Try.f18.ntmps [] LO18 from trivial)) i18 o18).congr fun x => (e18 x).symm
noncomputable def b13 : Code := (.seq (.region 0 (regOf Try.f13 0) false) (.seq (.seq (.region 1 (regOf Try.f13 1) false) (.cond (.tmp 4) (.seq (.region 2 (regOf Try.f13 2) false) .ret) .skip)) (.seq (.region 3 (regOf Try.f13 3) false) .ret)))
theorem body13 : Try.f13.body = some b13 := by kernel_rfl
noncomputable def C13 : Tab := []
theorem C13_ok : TabOK Try.prog C13 := trivial
noncomputable def LO13 : Tab := []
noncomputable def i13 : Tm := { sl := [(0, .nl)], bx := [], bf := [] }
noncomputable def o13 : OT := (.ret { sl := [(0, .v (.p (.i .u64) (.p (.i .i64) .u)))], bx := [], bf := [] })
noncomputable def F13 : Option (((Int × (Int × Unit)) × Unit) × Unit × Unit) :=
  (some (((0, (0, ())), ()), (), ()))
noncomputable def c13 : Con := ⟨i13, o13, fun x => F13⟩
theorem e13 (x : i13.E) : vfn Try.prog C13 LO13 Try.f13 b13 i13 o13 x = F13 := by kernel_rfl
theorem c13_ok : Con.OK Try.prog 13 c13 := (fn_ok C13_ok rfl Try.func13 body13 (loops_of (l := []) (by kernel_rfl) (show LoopsOK Try.prog Try.f13.ntmps [] LO13 from trivial)) i13 o13).congr fun x => (e13 x).symm
noncomputable def b16 : Code := (.seq (.region 0 (regOf Try.f16 0) false) (.seq (.block 0 (.seq (.region 1 (regOf Try.f16 1) false) (.cond (.tmp 14) (.seq (.region 2 (regOf Try.f16 2) false) .ret) (.seq (.region 3 (regOf Try.f16 3) true) (.cond (.tmp 18) (.seq (.region 4 (regOf Try.f16 4) false) .ret) .skip))))) (.seq (.region 5 (regOf Try.f16 5) false) (.seq (.region 6 (regOf Try.f16 6) false) (.seq (.seq (.region 7 (regOf Try.f16 7) false) (.cond (.tmp 41) (.seq (.region 8 (regOf Try.f16 8) false) (.seq (.region 9 (regOf Try.f16 9) false) .ret)) .skip)) (.seq (.region 10 (regOf Try.f16 10) true) .ret))))))
theorem body16 : Try.f16.body = some b16 := by kernel_rfl
noncomputable def C16 : Tab := []
theorem C16_ok : TabOK Try.prog C16 := trivial
noncomputable def LO16 : Tab := []
noncomputable def i16 : Tm := { sl := [(0, .nl), (1, .v .s), (2, .v (.p (.i .u64) (.p (.i .i64) .u)))], bx := [], bf := [] }
noncomputable def o16 : OT := (.ret { sl := [(0, .v (.p (.i .u8) (.p (.l (.i .u8)) (.p (.f .f64) .u)))), (1, .v .b), (2, .v (.i .i64))], bx := [], bf := [] })
noncomputable def F16 (a1 : ByteArray) (a2 : (Int × (Int × Unit))) : Option (((Int × ((List Int) × (Nat × Unit))) × (Bool × (Int × Unit))) × Unit × Unit) :=
  (some (((0, (([] : List Int), (0, ()))), false, 2, ()), (), ()))
noncomputable def c16 : Con := ⟨i16, o16, fun x => F16 x.1.2.1 x.1.2.2.1⟩
theorem e16 (x : i16.E) : vfn Try.prog C16 LO16 Try.f16 b16 i16 o16 x = F16 x.1.2.1 x.1.2.2.1 := by kernel_rfl
theorem c16_ok : Con.OK Try.prog 16 c16 := (fn_ok C16_ok rfl Try.func16 body16 (loops_of (l := []) (by kernel_rfl) (show LoopsOK Try.prog Try.f16.ntmps [] LO16 from trivial)) i16 o16).congr fun x => (e16 x).symm
noncomputable def l39_5 : Code := (.seq (.region 5 (regOf Try.f39 5) false) (.seq (.cond (.tmp 14) .skip (.exit 0)) (.block 1 (.seq (.region 6 (regOf Try.f39 6) false) (.region 7 (regOf Try.f39 7) false)))))
noncomputable def b39 : Code := (.seq (.region 0 (regOf Try.f39 0) false) (.seq (.region 1 (regOf Try.f39 1) false) (.seq (.seq (.region 2 (regOf Try.f39 2) false) (.cond (.tmp 6) (.seq (.region 3 (regOf Try.f39 3) false) .ret) .skip)) (.seq (.seq (.region 4 (regOf Try.f39 4) false) (.block 0 (.loop l39_5))) (.seq (.region 8 (regOf Try.f39 8) false) (.seq (.region 9 (regOf Try.f39 9) false) .ret))))))
theorem body39 : Try.f39.body = some b39 := by kernel_rfl
noncomputable def C39 : Tab := []
theorem C39_ok : TabOK Try.prog C39 := trivial
noncomputable def LO39 : Tab := []
noncomputable def i39 : Tm := { sl := [(0, .nl)], bx := [], bf := [] }
noncomputable def o39 : OT := (.ret { sl := [(0, .v (.l .s))], bx := [], bf := [] })
noncomputable def F39 : Option (((List ByteArray) × Unit) × Unit × Unit) :=
  (some ((([] : List ByteArray), ()), (), ()))
noncomputable def c39 : Con := ⟨i39, o39, fun x => F39⟩
theorem e39 (x : i39.E) : vfn Try.prog C39 LO39 Try.f39 b39 i39 o39 x = F39 := by kernel_rfl
theorem c39_ok : Con.OK Try.prog 39 c39 := (fn_ok C39_ok rfl Try.func39 body39 (show ∀ b' ∈ loopsOf b39, ∀ con, lookC LO39 (headReg b') = some con → con.LOK Try.prog Try.f39.ntmps b' from fun _ _ _ h => absurd (show (none : Option Con) = some _ from h) (fun h => by cases h)) i39 o39).congr fun x => (e39 x).symm
noncomputable def b40 : Code := (.seq (.region 0 (regOf Try.f40 0) false) (.seq (.seq (.region 1 (regOf Try.f40 1) false) (.cond (.tmp 6) (.seq (.region 2 (regOf Try.f40 2) false) .ret) .skip)) (.seq (.region 3 (regOf Try.f40 3) false) .ret)))
theorem body40 : Try.f40.body = some b40 := by kernel_rfl
noncomputable def C40 : Tab := []
theorem C40_ok : TabOK Try.prog C40 := trivial
noncomputable def LO40 : Tab := []
noncomputable def i40 : Tm := { sl := [(0, .nl), (1, .v .s)], bx := [], bf := [] }
noncomputable def o40 : OT := (.ret { sl := [(0, .v (.l (.p (.p (.i .u64) (.p (.i .i64) .u)) (.p (.p (.i .u8) (.p (.l (.i .u8)) (.p (.f .f64) .u))) (.p .b .u)))))], bx := [], bf := [] })
noncomputable def F40 (a1 : ByteArray) : Option (((List ((Int × (Int × Unit)) × ((Int × ((List Int) × (Nat × Unit))) × (Bool × Unit)))) × Unit) × Unit × Unit) :=
  (some ((([] : List ((Int × (Int × Unit)) × ((Int × ((List Int) × (Nat × Unit))) × (Bool × Unit)))), ()), (), ()))
noncomputable def c40 : Con := ⟨i40, o40, fun x => F40 x.1.2.1⟩
theorem e40 (x : i40.E) : vfn Try.prog C40 LO40 Try.f40 b40 i40 o40 x = F40 x.1.2.1 := by kernel_rfl
theorem c40_ok : Con.OK Try.prog 40 c40 := (fn_ok C40_ok rfl Try.func40 body40 (loops_of (l := []) (by kernel_rfl) (show LoopsOK Try.prog Try.f40.ntmps [] LO40 from trivial)) i40 o40).congr fun x => (e40 x).symm
noncomputable def l37_3 : Code := (.seq (.region 3 (regOf Try.f37 3) false) (.seq (.cond (.tmp 21) .skip (.exit 0)) (.seq (.block 1 (.seq (.region 4 (regOf Try.f37 4) false) (.seq (.region 5 (regOf Try.f37 5) false) (.seq (.region 6 (regOf Try.f37 6) false) (.seq (.seq (.region 7 (regOf Try.f37 7) false) (.cond (.tmp 45) (.seq (.region 8 (regOf Try.f37 8) false) .ret) .skip)) (.seq (.region 9 (regOf Try.f37 9) false) (.cond (.tmp 60) (.region 10 (regOf Try.f37 10) false) .skip))))))) (.region 11 (regOf Try.f37 11) false))))
noncomputable def b37 : Code := (.seq (.region 0 (regOf Try.f37 0) false) (.seq (.region 1 (regOf Try.f37 1) false) (.seq (.seq (.region 2 (regOf Try.f37 2) false) (.block 0 (.loop l37_3))) (.seq (.seq (.region 12 (regOf Try.f37 12) false) (.cond (.tmp 67) (.seq (.region 13 (regOf Try.f37 13) false) .ret) .skip)) (.seq (.seq (.region 14 (regOf Try.f37 14) true) (.cond (.tmp 79) (.seq (.region 15 (regOf Try.f37 15) false) .ret) .skip)) (.seq (.region 16 (regOf Try.f37 16) false) .ret))))))
theorem body37 : Try.f37.body = some b37 := by kernel_rfl
noncomputable def C37 : Tab := [(39, c39), (700003, cHot)]
theorem C37_ok : TabOK Try.prog C37 := ⟨c39_ok, cHot_ok, trivial⟩
noncomputable def LO37 : Tab := []
noncomputable def i37 : Tm := { sl := [(0, .nl), (1, .v (.p (.i .u64) (.p (.i .i64) .u))), (2, .v (.p (.i .u64) (.p (.i .i64) .u)))], bx := [], bf := [] }
noncomputable def o37 : OT := (.ret { sl := [(0, .v (.l .s)), (1, .v (.i .i64))], bx := [], bf := [] })
noncomputable def F37 (a1 : (Int × (Int × Unit))) (a2 : (Int × (Int × Unit))) : Option (((List ByteArray) × (Int × Unit)) × Unit × Unit) :=
  (some ((([] : List ByteArray), 2, ()), (), ()))
noncomputable def c37 : Con := ⟨i37, o37, fun x => F37 x.1.2.1 x.1.2.2.1⟩
theorem e37 (x : i37.E) : vfn Try.prog C37 LO37 Try.f37 b37 i37 o37 x = F37 x.1.2.1 x.1.2.2.1 := by kernel_rfl
theorem c37_ok : Con.OK Try.prog 37 c37 := (fn_ok C37_ok rfl Try.func37 body37 (show ∀ b' ∈ loopsOf b37, ∀ con, lookC LO37 (headReg b') = some con → con.LOK Try.prog Try.f37.ntmps b' from fun _ _ _ h => absurd (show (none : Option Con) = some _ from h) (fun h => by cases h)) i37 o37).congr fun x => (e37 x).symm
noncomputable def l41_3 : Code := (.seq (.region 3 (regOf Try.f41 3) false) (.seq (.cond (.tmp 15) .skip (.exit 0)) (.seq (.block 1 (.seq (.region 4 (regOf Try.f41 4) false) (.seq (.region 5 (regOf Try.f41 5) false) (.seq (.region 6 (regOf Try.f41 6) false) (.cond (.tmp 27) (.region 7 (regOf Try.f41 7) false) .skip))))) (.region 8 (regOf Try.f41 8) false))))
noncomputable def b41 : Code := (.seq (.region 0 (regOf Try.f41 0) false) (.seq (.region 1 (regOf Try.f41 1) false) (.seq (.seq (.region 2 (regOf Try.f41 2) false) (.block 0 (.loop l41_3))) (.seq (.region 9 (regOf Try.f41 9) false) .ret))))
theorem body41 : Try.f41.body = some b41 := by kernel_rfl
noncomputable def C41 : Tab := [(40, c40), (700003, cHot)]
theorem C41_ok : TabOK Try.prog C41 := ⟨c40_ok, cHot_ok, trivial⟩
noncomputable def LO41 : Tab := []
noncomputable def i41 : Tm := { sl := [(0, .nl), (1, .v .s)], bx := [], bf := [] }
noncomputable def o41 : OT := (.ret { sl := [(0, .v (.l (.i .i64)))], bx := [], bf := [] })
noncomputable def F41 (a1 : ByteArray) : Option (((List Int) × Unit) × Unit × Unit) :=
  (some ((([] : List Int), ()), (), ()))
noncomputable def c41 : Con := ⟨i41, o41, fun x => F41 x.1.2.1⟩
theorem e41 (x : i41.E) : vfn Try.prog C41 LO41 Try.f41 b41 i41 o41 x = F41 x.1.2.1 := by kernel_rfl
theorem c41_ok : Con.OK Try.prog 41 c41 := (fn_ok C41_ok rfl Try.func41 body41 (show ∀ b' ∈ loopsOf b41, ∀ con, lookC LO41 (headReg b') = some con → con.LOK Try.prog Try.f41.ntmps b' from fun _ _ _ h => absurd (show (none : Option Con) = some _ from h) (fun h => by cases h)) i41 o41).congr fun x => (e41 x).symm
noncomputable def l42_5 : Code := (.seq (.region 5 (regOf Try.f42 5) false) (.seq (.cond (.tmp 20) .skip (.exit 0)) (.seq (.block 1 (.seq (.region 6 (regOf Try.f42 6) false) (.seq (.region 7 (regOf Try.f42 7) false) (.region 8 (regOf Try.f42 8) true)))) (.region 9 (regOf Try.f42 9) false))))
noncomputable def l42_13 : Code := (.seq (.region 13 (regOf Try.f42 13) false) (.seq (.cond (.tmp 55) .skip (.exit 2)) (.seq (.block 3 (.seq (.region 14 (regOf Try.f42 14) false) (.seq (.region 15 (regOf Try.f42 15) false) (.seq (.seq (.region 16 (regOf Try.f42 16) false) (.cond (.tmp 68) (.exit 3) .skip)) (.seq (.region 17 (regOf Try.f42 17) false) (.region 18 (regOf Try.f42 18) true)))))) (.region 19 (regOf Try.f42 19) false))))
noncomputable def b42 : Code := (.seq (.region 0 (regOf Try.f42 0) false) (.seq (.seq (.region 1 (regOf Try.f42 1) false) (.cond (.tmp 13) (.seq (.region 2 (regOf Try.f42 2) false) .ret) .skip)) (.seq (.region 3 (regOf Try.f42 3) false) (.seq (.seq (.region 4 (regOf Try.f42 4) false) (.block 0 (.loop l42_5))) (.seq (.region 10 (regOf Try.f42 10) false) (.seq (.region 11 (regOf Try.f42 11) false) (.seq (.seq (.region 12 (regOf Try.f42 12) false) (.block 2 (.loop l42_13))) (.seq (.region 20 (regOf Try.f42 20) false) .ret))))))))
theorem body42 : Try.f42.body = some b42 := by kernel_rfl
noncomputable def C42 : Tab := []
theorem C42_ok : TabOK Try.prog C42 := trivial
noncomputable def LO42 : Tab := []
noncomputable def i42 : Tm := { sl := [(0, .nl)], bx := [], bf := [] }
noncomputable def o42 : OT := (.ret { sl := [(0, .nl)], bx := [], bf := [] })
noncomputable def F42 : Option ((Unit × Unit) × Unit × Unit) :=
  (some (((), ()), (), ()))
noncomputable def c42 : Con := ⟨i42, o42, fun x => F42⟩
theorem e42 (x : i42.E) : vfn Try.prog C42 LO42 Try.f42 b42 i42 o42 x = F42 := by kernel_rfl
theorem c42_ok : Con.OK Try.prog 42 c42 := (fn_ok C42_ok rfl Try.func42 body42 (show ∀ b' ∈ loopsOf b42, ∀ con, lookC LO42 (headReg b') = some con → con.LOK Try.prog Try.f42.ntmps b' from fun _ _ _ h => absurd (show (none : Option Con) = some _ from h) (fun h => by cases h)) i42 o42).congr fun x => (e42 x).symm
noncomputable def b7 : Code := (.seq (.region 0 (regOf Try.f7 0) false) (.seq (.seq (.region 1 (regOf Try.f7 1) false) (.cond (.tmp 34) (.seq (.region 2 (regOf Try.f7 2) false) .ret) .skip)) (.seq (.region 3 (regOf Try.f7 3) false) (.seq (.region 4 (regOf Try.f7 4) false) (.seq (.region 5 (regOf Try.f7 5) false) (.seq (.region 6 (regOf Try.f7 6) false) (.seq (.region 7 (regOf Try.f7 7) false) .ret)))))))
theorem body7 : Try.f7.body = some b7 := by kernel_rfl
noncomputable def C7 : Tab := [(8, c8), (13, c13), (16, c16), (18, c18), (37, c37), (38, c38), (39, c39), (40, c40), (41, c41), (42, c42)]
theorem C7_ok : TabOK Try.prog C7 := ⟨c8_ok, c13_ok, c16_ok, c18_ok, c37_ok, c38_ok, c39_ok, c40_ok, c41_ok, c42_ok, trivial⟩
noncomputable def LO7 : Tab := []
noncomputable def i7 : Tm := { sl := [(0, .v (.p (.i .u8) (.p (.l (.i .u8)) (.p (.f .f64) .u)))), (1, .v (.p (.i .u8) (.p (.l (.i .u8)) (.p (.f .f64) .u)))), (2, .v .s), (3, .v (.p (.i .u64) (.p (.i .i64) .u)))], bx := [], bf := [] }
noncomputable def o7 : OT := (.ret { sl := [(0, .v .b)], bx := [], bf := [] })
noncomputable def F7 (a0 : (Int × ((List Int) × (Nat × Unit)))) (a1 : (Int × ((List Int) × (Nat × Unit)))) (a2 : ByteArray) (a3 : (Int × (Int × Unit))) : Option ((Bool × Unit) × Unit × Unit) :=
  ((F8).bind fun y6 => (bif (!y6.1.1) then ((F8).bind fun y7 => (some ((y7.1.1, ()), (), ()))) else (bif (decide (((((a0.2.1).length : Nat) : Int) : Int) > 200)) then ((F8).bind fun y8 => (some ((y8.1.1, ()), (), ()))) else (bif (decide (((((a1.2.1).length : Nat) : Int) : Int) > 200)) then ((F8).bind fun y9 => (some ((y9.1.1, ()), (), ()))) else (bif (decide ((((a2.size : Nat) : Int) : Int) > 100)) then ((F8).bind fun y10 => (some ((y10.1.1, ()), (), ()))) else ((F16 a2 (a3.1, (a3.2.1, ()))).bind fun y11 => ((F37 (a3.1, (a3.2.1, ())) (a3.1, (a3.2.1, ()))).bind fun y12 => (bif ((a0.1 : Int) == a1.1) then (bif (((strL a0.2.1) : ByteArray).toList == ((strL a1.2.1) : ByteArray).toList) then ((F38 a0.2.2.1 a1.2.2.1).bind fun y13 => ((F18 (a0.1, (a0.2.1, (a0.2.2.1, ()))) (a1.1, (a1.2.1, (a1.2.2.1, ())))).bind fun y14 => (bif (y14.1.1 == y13.1.1) then ((F18 (a0.1, (a0.2.1, (a0.2.2.1, ()))) (a0.1, (a0.2.1, (a0.2.2.1, ())))).bind fun y15 => (bif y15.1.1 then (bif (!y11.1.2.1) then (bif ((y11.1.2.2.1 : Int) == 2) then (bif ((y12.1.2.1 : Int) == 2) then ((F39).bind fun y16 => ((F40 a2).bind fun y17 => ((F41 a2).bind fun y18 => (bif (((IntKind.wrap .i64 ((IntKind.wrap .i64 ((((y16.1.1).length : Nat) : Int) + (((y17.1.1).length : Nat) : Int))) + (((y18.1.1).length : Nat) : Int))) : Int) == 0) then ((F13).bind fun y19 => (bif (((y19.1.1.1 : Int) == 0) && ((y19.1.1.2.1 : Int) == 0)) then ((F42).bind fun y20 => (some ((true, ()), (), ()))) else (some ((false, ()), (), ())))) else (some ((false, ()), (), ())))))) else (some ((false, ()), (), ()))) else (some ((false, ()), (), ()))) else (some ((false, ()), (), ()))) else (some ((false, ()), (), ())))) else (some ((false, ()), (), ()))))) else ((F18 (a0.1, (a0.2.1, (a0.2.2.1, ()))) (a1.1, (a1.2.1, (a1.2.2.1, ())))).bind fun y21 => (bif (y21.1.1 == false) then ((F18 (a0.1, (a0.2.1, (a0.2.2.1, ()))) (a0.1, (a0.2.1, (a0.2.2.1, ())))).bind fun y22 => (bif y22.1.1 then (bif (!y11.1.2.1) then (bif ((y11.1.2.2.1 : Int) == 2) then (bif ((y12.1.2.1 : Int) == 2) then ((F39).bind fun y23 => ((F40 a2).bind fun y24 => ((F41 a2).bind fun y25 => (bif (((IntKind.wrap .i64 ((IntKind.wrap .i64 ((((y23.1.1).length : Nat) : Int) + (((y24.1.1).length : Nat) : Int))) + (((y25.1.1).length : Nat) : Int))) : Int) == 0) then ((F13).bind fun y26 => (bif (((y26.1.1.1 : Int) == 0) && ((y26.1.1.2.1 : Int) == 0)) then ((F42).bind fun y27 => (some ((true, ()), (), ()))) else (some ((false, ()), (), ())))) else (some ((false, ()), (), ())))))) else (some ((false, ()), (), ()))) else (some ((false, ()), (), ()))) else (some ((false, ()), (), ()))) else (some ((false, ()), (), ())))) else (some ((false, ()), (), ()))))) else ((F18 (a0.1, (a0.2.1, (a0.2.2.1, ()))) (a1.1, (a1.2.1, (a1.2.2.1, ())))).bind fun y28 => (bif (y28.1.1 == false) then ((F18 (a0.1, (a0.2.1, (a0.2.2.1, ()))) (a0.1, (a0.2.1, (a0.2.2.1, ())))).bind fun y29 => (bif y29.1.1 then (bif (!y11.1.2.1) then (bif ((y11.1.2.2.1 : Int) == 2) then (bif ((y12.1.2.1 : Int) == 2) then ((F39).bind fun y30 => ((F40 a2).bind fun y31 => ((F41 a2).bind fun y32 => (bif (((IntKind.wrap .i64 ((IntKind.wrap .i64 ((((y30.1.1).length : Nat) : Int) + (((y31.1.1).length : Nat) : Int))) + (((y32.1.1).length : Nat) : Int))) : Int) == 0) then ((F13).bind fun y33 => (bif (((y33.1.1.1 : Int) == 0) && ((y33.1.1.2.1 : Int) == 0)) then ((F42).bind fun y34 => (some ((true, ()), (), ()))) else (some ((false, ()), (), ())))) else (some ((false, ()), (), ())))))) else (some ((false, ()), (), ()))) else (some ((false, ()), (), ()))) else (some ((false, ()), (), ()))) else (some ((false, ()), (), ())))) else (some ((false, ()), (), ()))))))))))))
noncomputable def c7 : Con := ⟨i7, o7, fun x => F7 x.1.1 x.1.2.1 x.1.2.2.1 x.1.2.2.2.1⟩
theorem e7 (x : i7.E) : vfn Try.prog C7 LO7 Try.f7 b7 i7 o7 x = F7 x.1.1 x.1.2.1 x.1.2.2.1 x.1.2.2.2.1 := by kernel_rfl
theorem c7_ok : Con.OK Try.prog 7 c7 := (fn_ok C7_ok rfl Try.func7 body7 (loops_of (l := []) (by kernel_rfl) (show LoopsOK Try.prog Try.f7.ntmps [] LO7 from trivial)) i7 o7).congr fun x => (e7 x).symm
end Go.IM.V
namespace Go.IM.V
open Go Go.IM Go.Proofs
abbrev CellV : Type := (Int × ((List Int) × (Nat × Unit)))
theorem bits_any (x : Nat) : ∃ n, F77 x = some ((n, ()), (), ()) := by
  unfold F77 F103
  simp only [Option.bind_some]
  cases ((FloatKind.f64).format.order (x) (x) != some Ordering.eq) <;> exact ⟨_, rfl⟩
theorem qsame_any (x y : Nat) : ∃ b, F38 x y = some ((b, ()), (), ()) := by
  obtain ⟨n, hn⟩ := bits_any x
  obtain ⟨k, hk⟩ := bits_any y
  unfold F38
  rw [hn, hk]
  exact ⟨_, rfl⟩
theorem qsame_self (x : Nat) : F38 x x = some ((true, ()), (), ()) := by
  obtain ⟨n, hn⟩ := bits_any x
  unfold F38
  rw [hn]
  simp
theorem csame_eq (a b : CellV) {c : Bool} (h : F38 a.2.2.1 b.2.2.1 = some ((c, ()), (), ())) :
    F18 a b = some (((bif (a.1 == b.1) then (bif ((strL a.2.1).toList == (strL b.2.1).toList) then c else false) else false), ()), (), ()) := by
  unfold F18 F50
  rw [h]
  simp only [Option.bind_some]
  cases (a.1 == b.1) <;> cases ((strL a.2.1).toList == (strL b.2.1).toList) <;> rfl
theorem historySame_pure (a0 a1 : CellV) (a2 : ByteArray) (a3 : (Int × (Int × Unit))) : F7 a0 a1 a2 a3 = some ((true, ()), (), ()) := by
  obtain ⟨c, hc⟩ := qsame_any a0.2.2.1 a1.2.2.1
  have h1 : F18 (a0.1, (a0.2.1, (a0.2.2.1, ()))) (a1.1, (a1.2.1, (a1.2.2.1, ()))) = _ := csame_eq a0 a1 hc
  have h2 : F18 (a0.1, (a0.2.1, (a0.2.2.1, ()))) (a0.1, (a0.2.1, (a0.2.2.1, ()))) = _ := csame_eq a0 a0 (qsame_self _)
  have e1 : ((a0.1 : Int) == a0.1) = true := by simp
  have e2 : ((strL a0.2.1).toList == (strL a0.2.1).toList) = true := by simp
  rw [e1, e2] at h2
  unfold F7
  rw [h1, h2, hc]
  generalize decide (((((a0.2.1).length : Nat) : Int) : Int) > 200) = d1
  generalize decide (((((a1.2.1).length : Nat) : Int) : Int) > 200) = d2
  generalize decide ((((a2.size : Nat) : Int) : Int) > 100) = d3
  generalize ((a0.1 : Int) == a1.1) = d4
  generalize (((strL a0.2.1) : ByteArray).toList == ((strL a1.2.1) : ByteArray).toList) = d5
  cases d1 <;> cases d2 <;> cases d3 <;> cases d4 <;> cases d5 <;> cases c <;> rfl
end Go.IM.V