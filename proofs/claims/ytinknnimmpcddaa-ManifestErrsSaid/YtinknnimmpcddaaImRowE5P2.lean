/- What the code of a law comes to, and what that tells: part 2. Lemmas alone; no conditions. -/
import Derived.Test.YtinknnimmpcddaaImRowE5P1
set_option linter.unusedVariables false
set_option linter.constructorNameAsVariable false
namespace Go.IM.V
open Go Go.IM Go.Proofs
abbrev DS0 : Type := ((Unit × (Int × (Int × (Int × (Int × (Bool × Unit)))))) × ((Unit × Unit) × Unit))
abbrev DS1 : Type := ((Unit × (Int × (Int × (Int × (Int × (Bool × Unit)))))) × ((Unit × Unit) × ((Unit × (Int × Unit)) × Unit)))
abbrev DS2 : Type := ((Unit × (Int × (Int × (Int × (Int × (Bool × Unit)))))) × ((Unit × Unit) × (((List Int) × (Int × Unit)) × Unit)))
abbrev pD : List Pt := [.mv 1, .v (.i .i64), .v (.i .i64), .v (.i .i64), .v (.i .i64), .v .b]
abbrev bNM : ByteArray := ⟨#[109, 97, 110, 105, 102, 101, 115, 116]⟩
abbrev bNN : ByteArray := ⟨#[109, 97, 110, 105, 102, 101, 115, 116, 46, 110, 101, 119]⟩
abbrev DSh : Type := ((Int × (Int × (Int × Unit))) × ((List (List Int)) × (Int × (Int × Unit))))
abbrev tDSh : Ty := (.p (.p (.i .u8) (.p (.i .u64) (.p (.i .u64) .u))) (.p (.l (.l (.i .u8))) (.p (.i .i64) (.p (.i .i64) .u))))
noncomputable def b15 : Code := (.seq (.region 0 (regOf Try.f15 0) false) (.seq (.region 1 (regOf Try.f15 1) false) .ret))
theorem body15 : Try.f15.body = some b15 := by kernel_rfl
noncomputable def C15 : Tab := []
theorem C15_ok : TabOK Try.prog C15 := trivial
noncomputable def LO15 : Tab := []
noncomputable def i15 : Tm := { sl := [(0, .v (.i .i64))], bx := [], bf := [] }
noncomputable def o15 : OT := (.ret { sl := [(0, .p 0 0)], bx := [pD, [.mx 0 []]], bf := [] })
noncomputable def F15 (a0 : Int) : Option ((Unit × Unit) × DS0 × Unit) :=
  (some (((), ()), (((), a0, (-1), 0, 0, false, ()), ((), ()), ()), ()))
noncomputable def c15 : Con := ⟨i15, o15, fun x => F15 x.1.1⟩
theorem e15 (x : i15.E) : vfn Try.prog C15 LO15 Try.f15 b15 i15 o15 x = F15 x.1.1 := by kernel_rfl
theorem c15_ok : Con.OK Try.prog 15 c15 := (fn_ok C15_ok (fun _ => rfl) Try.func15 body15 (loops_of (l := []) (by kernel_rfl) (show LoopsOK Try.prog Try.f15.ntmps [] LO15 from trivial)) i15 o15).congr fun x => (e15 x).symm
noncomputable def l420_5 : Code := (.seq (.region 5 (regOf Try.f42 5) false) (.seq (.cond (.tmp 15) .skip (.exit 0)) (.block 1 (.seq (.region 6 (regOf Try.f42 6) false) (.region 7 (regOf Try.f42 7) false)))))
noncomputable def b420 : Code := (.seq (.region 0 (regOf Try.f42 0) false) (.seq (.seq (.region 1 (regOf Try.f42 1) false) (.cond (.tmp 8) (.seq (.region 2 (regOf Try.f42 2) false) .ret) .skip)) (.seq (.region 3 (regOf Try.f42 3) false) (.seq (.seq (.region 4 (regOf Try.f42 4) false) (.block 0 (.loop l420_5))) (.seq (.region 8 (regOf Try.f42 8) false) .ret)))))
theorem body420 : Try.f42.body = some b420 := by kernel_rfl
noncomputable def C420 : Tab := [(700005, cHot)]
theorem C420_ok : TabOK Try.prog C420 := ⟨cHot_ok, trivial⟩
noncomputable def LO420 : Tab := []
noncomputable def i420 : Tm := { sl := [(0, .p 0 0)], bx := [pD, [.mx 0 []]], bf := [] }
noncomputable def o420 : OT := (.ret { sl := [(0, .v (.i .i64)), (1, .v (.i .i64))], bx := [pD, [.mx 0 []]], bf := [] })
noncomputable def F420 (b0_1 b0_2 b0_3 b0_4 : Int) (b0_5 : Bool) : Option ((Int × (Int × Unit)) × DS0 × Unit) :=
  (some ((b0_1, 0, ()), (((), b0_1, b0_2, b0_3, b0_4, b0_5, ()), ((), ()), ()), ()))
noncomputable def c420 : Con := ⟨i420, o420, fun x => F420 x.2.1.1.2.1 x.2.1.1.2.2.1 x.2.1.1.2.2.2.1 x.2.1.1.2.2.2.2.1 x.2.1.1.2.2.2.2.2.1⟩
theorem e420 (x : i420.E) : vfn Try.prog C420 LO420 Try.f42 b420 i420 o420 x = F420 x.2.1.1.2.1 x.2.1.1.2.2.1 x.2.1.1.2.2.2.1 x.2.1.1.2.2.2.2.1 x.2.1.1.2.2.2.2.2.1 := by kernel_rfl
theorem c420_ok : Con.OK Try.prog 42 c420 := (fn_ok C420_ok (fun _ => rfl) Try.func42 body420 (show ∀ b' ∈ loopsOf b420, ∀ con, lookC LO420 (headReg b') = some con → con.LOK Try.prog Try.f42.ntmps b' from fun _ _ _ h => absurd (show (none : Option Con) = some _ from h) (fun h => by cases h)) i420 o420).congr fun x => (e420 x).symm
noncomputable def b430 : Code := (.seq (.region 0 (regOf Try.f43 0) false) (.seq (.region 1 (regOf Try.f43 1) false) .ret))
theorem body430 : Try.f43.body = some b430 := by kernel_rfl
noncomputable def C430 : Tab := []
theorem C430_ok : TabOK Try.prog C430 := trivial
noncomputable def LO430 : Tab := []
noncomputable def i430 : Tm := { sl := [(0, .p 0 0)], bx := [pD, [.mx 0 []]], bf := [] }
noncomputable def o430 : OT := (.ret { sl := [(0, .v .b)], bx := [pD, [.mx 0 []]], bf := [] })
noncomputable def F430 (b0_1 b0_2 b0_3 b0_4 : Int) (b0_5 : Bool) : Option ((Bool × Unit) × DS0 × Unit) :=
  (some (((!b0_5), ()), (((), b0_1, b0_2, b0_3, b0_4, b0_5, ()), ((), ()), ()), ()))
noncomputable def c430 : Con := ⟨i430, o430, fun x => F430 x.2.1.1.2.1 x.2.1.1.2.2.1 x.2.1.1.2.2.2.1 x.2.1.1.2.2.2.2.1 x.2.1.1.2.2.2.2.2.1⟩
theorem e430 (x : i430.E) : vfn Try.prog C430 LO430 Try.f43 b430 i430 o430 x = F430 x.2.1.1.2.1 x.2.1.1.2.2.1 x.2.1.1.2.2.2.1 x.2.1.1.2.2.2.2.1 x.2.1.1.2.2.2.2.2.1 := by kernel_rfl
theorem c430_ok : Con.OK Try.prog 43 c430 := (fn_ok C430_ok (fun _ => rfl) Try.func43 body430 (loops_of (l := []) (by kernel_rfl) (show LoopsOK Try.prog Try.f43.ntmps [] LO430 from trivial)) i430 o430).congr fun x => (e430 x).symm
noncomputable def b43n : Code := (.seq (.region 0 (regOf Try.f43 0) false) (.seq (.region 1 (regOf Try.f43 1) false) .ret))
theorem body43n : Try.f43.body = some b43n := by kernel_rfl
noncomputable def C43n : Tab := []
theorem C43n_ok : TabOK Try.prog C43n := trivial
noncomputable def LO43n : Tab := []
noncomputable def i43n : Tm := { sl := [(0, .p 0 0)], bx := [pD, [.mx 2 [(bNM, 1, 2)]], [.v (.l (.i .u8)), .v (.i .i64)]], bf := [] }
noncomputable def o43n : OT := (.ret { sl := [(0, .v .b)], bx := [pD, [.mx 2 [(bNM, 1, 2)]], [.v (.l (.i .u8)), .v (.i .i64)]], bf := [] })
noncomputable def F43n (b0_1 b0_2 b0_3 b0_4 : Int) (b0_5 : Bool) (b2_0 : (List Int)) (b2_1 : Int) : Option ((Bool × Unit) × DS2 × Unit) :=
  (some (((!b0_5), ()), (((), b0_1, b0_2, b0_3, b0_4, b0_5, ()), ((), ()), (b2_0, b2_1, ()), ()), ()))
noncomputable def c43n : Con := ⟨i43n, o43n, fun x => F43n x.2.1.1.2.1 x.2.1.1.2.2.1 x.2.1.1.2.2.2.1 x.2.1.1.2.2.2.2.1 x.2.1.1.2.2.2.2.2.1 x.2.1.2.2.1.1 x.2.1.2.2.1.2.1⟩
theorem e43n (x : i43n.E) : vfn Try.prog C43n LO43n Try.f43 b43n i43n o43n x = F43n x.2.1.1.2.1 x.2.1.1.2.2.1 x.2.1.1.2.2.2.1 x.2.1.1.2.2.2.2.1 x.2.1.1.2.2.2.2.2.1 x.2.1.2.2.1.1 x.2.1.2.2.1.2.1 := by kernel_rfl
theorem c43n_ok : Con.OK Try.prog 43 c43n := (fn_ok C43n_ok (fun _ => rfl) Try.func43 body43n (loops_of (l := []) (by kernel_rfl) (show LoopsOK Try.prog Try.f43.ntmps [] LO43n from trivial)) i43n o43n).congr fun x => (e43n x).symm
noncomputable def b43d : Code := (.seq (.region 0 (regOf Try.f43 0) false) (.seq (.region 1 (regOf Try.f43 1) false) .ret))
theorem body43d : Try.f43.body = some b43d := by kernel_rfl
noncomputable def C43d : Tab := []
theorem C43d_ok : TabOK Try.prog C43d := trivial
noncomputable def LO43d : Tab := []
noncomputable def i43d : Tm := { sl := [(0, .p 0 0)], bx := [pD, [.mx 1 [(bNM, 0, 2)]], [.v (.l (.i .u8)), .v (.i .i64)]], bf := [] }
noncomputable def o43d : OT := (.ret { sl := [(0, .v .b)], bx := [pD, [.mx 1 [(bNM, 0, 2)]], [.v (.l (.i .u8)), .v (.i .i64)]], bf := [] })
noncomputable def F43d (b0_1 b0_2 b0_3 b0_4 : Int) (b0_5 : Bool) (b2_0 : (List Int)) (b2_1 : Int) : Option ((Bool × Unit) × DS2 × Unit) :=
  (some (((!b0_5), ()), (((), b0_1, b0_2, b0_3, b0_4, b0_5, ()), ((), ()), (b2_0, b2_1, ()), ()), ()))
noncomputable def c43d : Con := ⟨i43d, o43d, fun x => F43d x.2.1.1.2.1 x.2.1.1.2.2.1 x.2.1.1.2.2.2.1 x.2.1.1.2.2.2.2.1 x.2.1.1.2.2.2.2.2.1 x.2.1.2.2.1.1 x.2.1.2.2.1.2.1⟩
theorem e43d (x : i43d.E) : vfn Try.prog C43d LO43d Try.f43 b43d i43d o43d x = F43d x.2.1.1.2.1 x.2.1.1.2.2.1 x.2.1.1.2.2.2.1 x.2.1.1.2.2.2.2.1 x.2.1.1.2.2.2.2.2.1 x.2.1.2.2.1.1 x.2.1.2.2.1.2.1 := by kernel_rfl
theorem c43d_ok : Con.OK Try.prog 43 c43d := (fn_ok C43d_ok (fun _ => rfl) Try.func43 body43d (loops_of (l := []) (by kernel_rfl) (show LoopsOK Try.prog Try.f43.ntmps [] LO43d from trivial)) i43d o43d).congr fun x => (e43d x).symm
noncomputable def b440 : Code := (.seq (.region 0 (regOf Try.f44 0) false) (.seq (.seq (.region 1 (regOf Try.f44 1) false) (.cond (.tmp 10) (.seq (.region 2 (regOf Try.f44 2) false) .ret) .skip)) (.seq (.region 3 (regOf Try.f44 3) false) (.seq (.seq (.region 4 (regOf Try.f44 4) false) (.cond (.tmp 22) (.seq (.region 5 (regOf Try.f44 5) false) (.seq (.region 6 (regOf Try.f44 6) false) .ret)) .skip)) (.seq (.seq (.region 7 (regOf Try.f44 7) false) (.cond (.tmp 30) (.region 8 (regOf Try.f44 8) false) .skip)) (.seq (.region 9 (regOf Try.f44 9) false) .ret))))))
theorem body440 : Try.f44.body = some b440 := by kernel_rfl
noncomputable def C440 : Tab := []
theorem C440_ok : TabOK Try.prog C440 := trivial
noncomputable def LO440 : Tab := []
noncomputable def i440 : Tm := { sl := [(0, .p 0 0)], bx := [pD, [.mx 0 []]], bf := [] }
noncomputable def o440 : OT := (.ret { sl := [(0, .v (.i .i64))], bx := [pD, [.mx 0 []]], bf := [] })
noncomputable def F440 (b0_1 b0_2 b0_3 b0_4 : Int) (b0_5 : Bool) : Option ((Int × Unit) × DS0 × Unit) :=
  (bif b0_5 then (some ((7, ()), (((), b0_1, b0_2, b0_3, b0_4, b0_5, ()), ((), ()), ()), ())) else (bif ((b0_2 : Int) == 0) then (some ((7, ()), (((), b0_1, b0_2, b0_3, (IntKind.wrap .i64 (b0_4 + 1)), true, ()), ((), ()), ()), ())) else (bif (decide ((b0_2 : Int) > 0)) then (some ((0, ()), (((), b0_1, (IntKind.wrap .i64 (b0_2 - 1)), b0_3, (IntKind.wrap .i64 (b0_4 + 1)), b0_5, ()), ((), ()), ()), ())) else (some ((0, ()), (((), b0_1, b0_2, b0_3, (IntKind.wrap .i64 (b0_4 + 1)), b0_5, ()), ((), ()), ()), ())))))
noncomputable def c440 : Con := ⟨i440, o440, fun x => F440 x.2.1.1.2.1 x.2.1.1.2.2.1 x.2.1.1.2.2.2.1 x.2.1.1.2.2.2.2.1 x.2.1.1.2.2.2.2.2.1⟩
theorem e440 (x : i440.E) : vfn Try.prog C440 LO440 Try.f44 b440 i440 o440 x = F440 x.2.1.1.2.1 x.2.1.1.2.2.1 x.2.1.1.2.2.2.1 x.2.1.1.2.2.2.2.1 x.2.1.1.2.2.2.2.2.1 := by kernel_rfl
theorem c440_ok : Con.OK Try.prog 44 c440 := (fn_ok C440_ok (fun _ => rfl) Try.func44 body440 (loops_of (l := []) (by kernel_rfl) (show LoopsOK Try.prog Try.f44.ntmps [] LO440 from trivial)) i440 o440).congr fun x => (e440 x).symm
noncomputable def b44a : Code := (.seq (.region 0 (regOf Try.f44 0) false) (.seq (.seq (.region 1 (regOf Try.f44 1) false) (.cond (.tmp 10) (.seq (.region 2 (regOf Try.f44 2) false) .ret) .skip)) (.seq (.region 3 (regOf Try.f44 3) false) (.seq (.seq (.region 4 (regOf Try.f44 4) false) (.cond (.tmp 22) (.seq (.region 5 (regOf Try.f44 5) false) (.seq (.region 6 (regOf Try.f44 6) false) .ret)) .skip)) (.seq (.seq (.region 7 (regOf Try.f44 7) false) (.cond (.tmp 30) (.region 8 (regOf Try.f44 8) false) .skip)) (.seq (.region 9 (regOf Try.f44 9) false) .ret))))))
theorem body44a : Try.f44.body = some b44a := by kernel_rfl
noncomputable def C44a : Tab := []
theorem C44a_ok : TabOK Try.prog C44a := trivial
noncomputable def LO44a : Tab := []
noncomputable def i44a : Tm := { sl := [(0, .p 0 0)], bx := [pD, [.mx 1 [(bNN, 0, 2)]], [.o 0, .v (.i .i64)]], bf := [(.i .u8)] }
noncomputable def o44a : OT := (.ret { sl := [(0, .v (.i .i64))], bx := [pD, [.mx 1 [(bNN, 0, 2)]], [.o 0, .v (.i .i64)]], bf := [(.i .u8)] })
noncomputable def F44a (b0_1 b0_2 b0_3 b0_4 : Int) (b0_5 : Bool) (b2_1 : Int) (q0 : (List Int)) : Option ((Int × Unit) × DS1 × ((List Int) × Unit)) :=
  (bif b0_5 then (some ((7, ()), (((), b0_1, b0_2, b0_3, b0_4, b0_5, ()), ((), ()), ((), b2_1, ()), ()), (q0, ()))) else (bif ((b0_2 : Int) == 0) then (some ((7, ()), (((), b0_1, b0_2, b0_3, (IntKind.wrap .i64 (b0_4 + 1)), true, ()), ((), ()), ((), b2_1, ()), ()), (q0, ()))) else (bif (decide ((b0_2 : Int) > 0)) then (some ((0, ()), (((), b0_1, (IntKind.wrap .i64 (b0_2 - 1)), b0_3, (IntKind.wrap .i64 (b0_4 + 1)), b0_5, ()), ((), ()), ((), b2_1, ()), ()), (q0, ()))) else (some ((0, ()), (((), b0_1, b0_2, b0_3, (IntKind.wrap .i64 (b0_4 + 1)), b0_5, ()), ((), ()), ((), b2_1, ()), ()), (q0, ()))))))
noncomputable def c44a : Con := ⟨i44a, o44a, fun x => F44a x.2.1.1.2.1 x.2.1.1.2.2.1 x.2.1.1.2.2.2.1 x.2.1.1.2.2.2.2.1 x.2.1.1.2.2.2.2.2.1 x.2.1.2.2.1.2.1 x.2.2.1⟩
theorem e44a (x : i44a.E) : vfn Try.prog C44a LO44a Try.f44 b44a i44a o44a x = F44a x.2.1.1.2.1 x.2.1.1.2.2.1 x.2.1.1.2.2.2.1 x.2.1.1.2.2.2.2.1 x.2.1.1.2.2.2.2.2.1 x.2.1.2.2.1.2.1 x.2.2.1 := by kernel_rfl
theorem c44a_ok : Con.OK Try.prog 44 c44a := (fn_ok C44a_ok (fun _ => rfl) Try.func44 body44a (loops_of (l := []) (by kernel_rfl) (show LoopsOK Try.prog Try.f44.ntmps [] LO44a from trivial)) i44a o44a).congr fun x => (e44a x).symm
noncomputable def b44n : Code := (.seq (.region 0 (regOf Try.f44 0) false) (.seq (.seq (.region 1 (regOf Try.f44 1) false) (.cond (.tmp 10) (.seq (.region 2 (regOf Try.f44 2) false) .ret) .skip)) (.seq (.region 3 (regOf Try.f44 3) false) (.seq (.seq (.region 4 (regOf Try.f44 4) false) (.cond (.tmp 22) (.seq (.region 5 (regOf Try.f44 5) false) (.seq (.region 6 (regOf Try.f44 6) false) .ret)) .skip)) (.seq (.seq (.region 7 (regOf Try.f44 7) false) (.cond (.tmp 30) (.region 8 (regOf Try.f44 8) false) .skip)) (.seq (.region 9 (regOf Try.f44 9) false) .ret))))))
theorem body44n : Try.f44.body = some b44n := by kernel_rfl
noncomputable def C44n : Tab := []
theorem C44n_ok : TabOK Try.prog C44n := trivial
noncomputable def LO44n : Tab := []
noncomputable def i44n : Tm := { sl := [(0, .p 0 0)], bx := [pD, [.mx 2 [(bNM, 1, 2)]], [.v (.l (.i .u8)), .v (.i .i64)]], bf := [] }
noncomputable def o44n : OT := (.ret { sl := [(0, .v (.i .i64))], bx := [pD, [.mx 2 [(bNM, 1, 2)]], [.v (.l (.i .u8)), .v (.i .i64)]], bf := [] })
noncomputable def F44n (b0_1 b0_2 b0_3 b0_4 : Int) (b0_5 : Bool) (b2_0 : (List Int)) (b2_1 : Int) : Option ((Int × Unit) × DS2 × Unit) :=
  (bif b0_5 then (some ((7, ()), (((), b0_1, b0_2, b0_3, b0_4, b0_5, ()), ((), ()), (b2_0, b2_1, ()), ()), ())) else (bif ((b0_2 : Int) == 0) then (some ((7, ()), (((), b0_1, b0_2, b0_3, (IntKind.wrap .i64 (b0_4 + 1)), true, ()), ((), ()), (b2_0, b2_1, ()), ()), ())) else (bif (decide ((b0_2 : Int) > 0)) then (some ((0, ()), (((), b0_1, (IntKind.wrap .i64 (b0_2 - 1)), b0_3, (IntKind.wrap .i64 (b0_4 + 1)), b0_5, ()), ((), ()), (b2_0, b2_1, ()), ()), ())) else (some ((0, ()), (((), b0_1, b0_2, b0_3, (IntKind.wrap .i64 (b0_4 + 1)), b0_5, ()), ((), ()), (b2_0, b2_1, ()), ()), ())))))
noncomputable def c44n : Con := ⟨i44n, o44n, fun x => F44n x.2.1.1.2.1 x.2.1.1.2.2.1 x.2.1.1.2.2.2.1 x.2.1.1.2.2.2.2.1 x.2.1.1.2.2.2.2.2.1 x.2.1.2.2.1.1 x.2.1.2.2.1.2.1⟩
theorem e44n (x : i44n.E) : vfn Try.prog C44n LO44n Try.f44 b44n i44n o44n x = F44n x.2.1.1.2.1 x.2.1.1.2.2.1 x.2.1.1.2.2.2.1 x.2.1.1.2.2.2.2.1 x.2.1.1.2.2.2.2.2.1 x.2.1.2.2.1.1 x.2.1.2.2.1.2.1 := by kernel_rfl
theorem c44n_ok : Con.OK Try.prog 44 c44n := (fn_ok C44n_ok (fun _ => rfl) Try.func44 body44n (loops_of (l := []) (by kernel_rfl) (show LoopsOK Try.prog Try.f44.ntmps [] LO44n from trivial)) i44n o44n).congr fun x => (e44n x).symm
noncomputable def b450a : Code := (.seq (.region 0 (regOf Try.f45 0) false) (.seq (.seq (.region 1 (regOf Try.f45 1) false) (.cond (.tmp 18) (.seq (.region 2 (regOf Try.f45 2) false) (.region 3 (regOf Try.f45 3) false)) .skip)) (.region 4 (regOf Try.f45 4) false)))
theorem body450a : Try.f45.body = some b450a := by kernel_rfl
noncomputable def C450a : Tab := []
theorem C450a_ok : TabOK Try.prog C450a := trivial
noncomputable def LO450a : Tab := []
noncomputable def i450a : Tm := { sl := [(0, .p 0 0), (1, .kt bNN), (2, .v (.l (.i .u8)))], bx := [pD, [.mx 0 []]], bf := [] }
noncomputable def o450a : OT := (.ret { sl := [], bx := [pD, [.mx 1 [(bNN, 0, 2)]], [.o 0, .v (.i .i64)]], bf := [(.i .u8)] })
noncomputable def F450a (a2 : (List Int)) (b0_1 b0_2 b0_3 b0_4 : Int) (b0_5 : Bool) : Option (Unit × DS1 × ((List Int) × Unit)) :=
  (bif (decide ((a2).length < lim)) then (some ((), (((), b0_1, b0_2, b0_3, b0_4, b0_5, ()), ((), ()), ((), 0, ()), ()), (a2, ()))) else none)
noncomputable def c450a : Con := ⟨i450a, o450a, fun x => F450a x.1.2.2.1 x.2.1.1.2.1 x.2.1.1.2.2.1 x.2.1.1.2.2.2.1 x.2.1.1.2.2.2.2.1 x.2.1.1.2.2.2.2.2.1⟩
theorem e450a (x : i450a.E) : vfn Try.prog C450a LO450a Try.f45 b450a i450a o450a x = F450a x.1.2.2.1 x.2.1.1.2.1 x.2.1.1.2.2.1 x.2.1.1.2.2.2.1 x.2.1.1.2.2.2.2.1 x.2.1.1.2.2.2.2.2.1 := by kernel_rfl
theorem c450a_ok : Con.OK Try.prog 45 c450a := (fn_ok C450a_ok (fun _ => rfl) Try.func45 body450a (loops_of (l := []) (by kernel_rfl) (show LoopsOK Try.prog Try.f45.ntmps [] LO450a from trivial)) i450a o450a).congr fun x => (e450a x).symm
noncomputable def b450c : Code := (.seq (.region 0 (regOf Try.f45 0) false) (.seq (.seq (.region 1 (regOf Try.f45 1) false) (.cond (.tmp 18) (.seq (.region 2 (regOf Try.f45 2) false) (.region 3 (regOf Try.f45 3) false)) .skip)) (.region 4 (regOf Try.f45 4) false)))
theorem body450c : Try.f45.body = some b450c := by kernel_rfl
noncomputable def C450c : Tab := []
theorem C450c_ok : TabOK Try.prog C450c := trivial
noncomputable def LO450c : Tab := []
noncomputable def i450c : Tm := { sl := [(0, .p 0 0), (1, .kt bNM), (2, .v (.l (.i .u8)))], bx := [pD, [.mx 0 []]], bf := [] }
noncomputable def o450c : OT := (.ret { sl := [], bx := [pD, [.mx 1 [(bNM, 0, 2)]], [.o 0, .v (.i .i64)]], bf := [(.i .u8)] })
noncomputable def F450c (a2 : (List Int)) (b0_1 b0_2 b0_3 b0_4 : Int) (b0_5 : Bool) : Option (Unit × DS1 × ((List Int) × Unit)) :=
  (bif (decide ((a2).length < lim)) then (some ((), (((), b0_1, b0_2, b0_3, b0_4, b0_5, ()), ((), ()), ((), 0, ()), ()), (a2, ()))) else none)
noncomputable def c450c : Con := ⟨i450c, o450c, fun x => F450c x.1.2.2.1 x.2.1.1.2.1 x.2.1.1.2.2.1 x.2.1.1.2.2.2.1 x.2.1.1.2.2.2.2.1 x.2.1.1.2.2.2.2.2.1⟩
theorem e450c (x : i450c.E) : vfn Try.prog C450c LO450c Try.f45 b450c i450c o450c x = F450c x.1.2.2.1 x.2.1.1.2.1 x.2.1.1.2.2.1 x.2.1.1.2.2.2.1 x.2.1.1.2.2.2.2.1 x.2.1.1.2.2.2.2.2.1 := by kernel_rfl
theorem c450c_ok : Con.OK Try.prog 45 c450c := (fn_ok C450c_ok (fun _ => rfl) Try.func45 body450c (loops_of (l := []) (by kernel_rfl) (show LoopsOK Try.prog Try.f45.ntmps [] LO450c from trivial)) i450c o450c).congr fun x => (e450c x).symm
noncomputable def b180a : Code := (.seq (.region 0 (regOf Try.f18 0) false) (.seq (.seq (.region 1 (regOf Try.f18 1) false) (.cond (.tmp 13) (.seq (.region 2 (regOf Try.f18 2) false) .ret) .skip)) (.seq (.region 3 (regOf Try.f18 3) false) (.seq (.region 4 (regOf Try.f18 4) false) (.seq (.seq (.region 5 (regOf Try.f18 5) false) (.seq (.region 6 (regOf Try.f18 6) false) (.cond (.tmp 24) (.seq (.seq (.region 7 (regOf Try.f18 7) false) (.cond (.tmp 45) (.region 8 (regOf Try.f18 8) false) .skip)) (.seq (.region 9 (regOf Try.f18 9) false) .ret)) .skip))) (.seq (.seq (.region 10 (regOf Try.f18 10) false) (.cond (.tmp 64) (.seq (.region 11 (regOf Try.f18 11) false) .ret) .skip)) (.seq (.region 12 (regOf Try.f18 12) false) (.seq (.region 13 (regOf Try.f18 13) false) .ret))))))))
theorem body180a : Try.f18.body = some b180a := by kernel_rfl
noncomputable def C180a : Tab := [(16, c16), (42, c420), (43, c430), (44, c440), (45, c450a)]
theorem C180a_ok : TabOK Try.prog C180a := ⟨c16_ok, c420_ok, c430_ok, c440_ok, c450a_ok, trivial⟩
noncomputable def LO180a : Tab := []
noncomputable def i180a : Tm := { sl := [(0, .p 0 0), (1, .kt bNN), (2, .v (.l (.i .u8)))], bx := [pD, [.mx 0 []]], bf := [] }
noncomputable def o180a : OT := (.ret { sl := [(0, .v (.i .i64))], bx := [pD, [.mx 1 [(bNN, 0, 2)]], [.o 0, .v (.i .i64)]], bf := [(.i .u8)] })
noncomputable def F180a (a2 : (List Int)) (b0_1 b0_2 b0_3 b0_4 : Int) (b0_5 : Bool) : Option ((Int × Unit) × DS1 × ((List Int) × Unit)) :=
  ((F16 bNN).bind fun y484 => (bif (!y484.1.1) then none else ((F420 b0_1 b0_2 b0_3 b0_4 b0_5).bind fun y485 => ((F430 y485.2.1.1.2.1 y485.2.1.1.2.2.1 y485.2.1.1.2.2.2.1 y485.2.1.1.2.2.2.2.1 y485.2.1.1.2.2.2.2.2.1).bind fun y486 => ((F440 y486.2.1.1.2.1 y486.2.1.1.2.2.1 y486.2.1.1.2.2.2.1 y486.2.1.1.2.2.2.2.1 y486.2.1.1.2.2.2.2.2.1).bind fun y487 => (bif ((y487.1.1 : Int) != 0) then (bif y486.1.1 then (bif (decide ((y487.2.1.1.2.2.2.1 : Int) > 0)) then (bif (decide (((IntKind.wrap .i64 (y485.1.2.1 + (if ((((a2).length : Nat) : Int) : Int) < y487.2.1.1.2.2.2.1 then (((a2).length : Nat) : Int) else y487.2.1.1.2.2.2.1))) : Int) ≤ y485.1.1)) then (bif (decide (0 ≤ ((if ((((a2).length : Nat) : Int) : Int) < y487.2.1.1.2.2.2.1 then (((a2).length : Nat) : Int) else y487.2.1.1.2.2.2.1) : Int) ∧ ((if ((((a2).length : Nat) : Int) : Int) < y487.2.1.1.2.2.2.1 then (((a2).length : Nat) : Int) else y487.2.1.1.2.2.2.1) : Int) ≤ (((a2).length : Nat) : Int))) then ((F450a ((a2).take ((if ((((a2).length : Nat) : Int) : Int) < y487.2.1.1.2.2.2.1 then (((a2).length : Nat) : Int) else y487.2.1.1.2.2.2.1) : Int).toNat) y487.2.1.1.2.1 y487.2.1.1.2.2.1 y487.2.1.1.2.2.2.1 y487.2.1.1.2.2.2.2.1 y487.2.1.1.2.2.2.2.2.1).bind fun y488 => (some ((y487.1.1, ()), (((), y488.2.1.1.2.1, y488.2.1.1.2.2.1, y488.2.1.1.2.2.2.1, y488.2.1.1.2.2.2.2.1, y488.2.1.1.2.2.2.2.2.1, ()), ((), ()), ((), y488.2.1.2.2.1.2.1, ()), ()), (y488.2.2.1, ())))) else none) else none) else none) else none) else (bif (decide (((((a2).length : Nat) : Int) : Int) > (IntKind.wrap .i64 (y485.1.1 - y485.1.2.1)))) then none else ((F450a a2 y487.2.1.1.2.1 y487.2.1.1.2.2.1 y487.2.1.1.2.2.2.1 y487.2.1.1.2.2.2.2.1 y487.2.1.1.2.2.2.2.2.1).bind fun y489 => (some ((0, ()), (((), y489.2.1.1.2.1, y489.2.1.1.2.2.1, y489.2.1.1.2.2.2.1, y489.2.1.1.2.2.2.2.1, y489.2.1.1.2.2.2.2.2.1, ()), ((), ()), ((), y489.2.1.2.2.1.2.1, ()), ()), (y489.2.2.1, ())))))))))))
noncomputable def c180a : Con := ⟨i180a, o180a, fun x => F180a x.1.2.2.1 x.2.1.1.2.1 x.2.1.1.2.2.1 x.2.1.1.2.2.2.1 x.2.1.1.2.2.2.2.1 x.2.1.1.2.2.2.2.2.1⟩
theorem e180a (x : i180a.E) : vfn Try.prog C180a LO180a Try.f18 b180a i180a o180a x = F180a x.1.2.2.1 x.2.1.1.2.1 x.2.1.1.2.2.1 x.2.1.1.2.2.2.1 x.2.1.1.2.2.2.2.1 x.2.1.1.2.2.2.2.2.1 := by kernel_rfl
theorem c180a_ok : Con.OK Try.prog 18 c180a := (fn_ok C180a_ok (fun _ => rfl) Try.func18 body180a (loops_of (l := []) (by kernel_rfl) (show LoopsOK Try.prog Try.f18.ntmps [] LO180a from trivial)) i180a o180a).congr fun x => (e180a x).symm
noncomputable def b180c : Code := (.seq (.region 0 (regOf Try.f18 0) false) (.seq (.seq (.region 1 (regOf Try.f18 1) false) (.cond (.tmp 13) (.seq (.region 2 (regOf Try.f18 2) false) .ret) .skip)) (.seq (.region 3 (regOf Try.f18 3) false) (.seq (.region 4 (regOf Try.f18 4) false) (.seq (.seq (.region 5 (regOf Try.f18 5) false) (.seq (.region 6 (regOf Try.f18 6) false) (.cond (.tmp 24) (.seq (.seq (.region 7 (regOf Try.f18 7) false) (.cond (.tmp 45) (.region 8 (regOf Try.f18 8) false) .skip)) (.seq (.region 9 (regOf Try.f18 9) false) .ret)) .skip))) (.seq (.seq (.region 10 (regOf Try.f18 10) false) (.cond (.tmp 64) (.seq (.region 11 (regOf Try.f18 11) false) .ret) .skip)) (.seq (.region 12 (regOf Try.f18 12) false) (.seq (.region 13 (regOf Try.f18 13) false) .ret))))))))
theorem body180c : Try.f18.body = some b180c := by kernel_rfl
noncomputable def C180c : Tab := [(16, c16), (42, c420), (43, c430), (44, c440), (45, c450c)]
theorem C180c_ok : TabOK Try.prog C180c := ⟨c16_ok, c420_ok, c430_ok, c440_ok, c450c_ok, trivial⟩
noncomputable def LO180c : Tab := []
noncomputable def i180c : Tm := { sl := [(0, .p 0 0), (1, .kt bNM), (2, .v (.l (.i .u8)))], bx := [pD, [.mx 0 []]], bf := [] }
noncomputable def o180c : OT := (.ret { sl := [(0, .v (.i .i64))], bx := [pD, [.mx 1 [(bNM, 0, 2)]], [.o 0, .v (.i .i64)]], bf := [(.i .u8)] })
noncomputable def F180c (a2 : (List Int)) (b0_1 b0_2 b0_3 b0_4 : Int) (b0_5 : Bool) : Option ((Int × Unit) × DS1 × ((List Int) × Unit)) :=
  ((F16 bNM).bind fun y490 => (bif (!y490.1.1) then none else ((F420 b0_1 b0_2 b0_3 b0_4 b0_5).bind fun y491 => ((F430 y491.2.1.1.2.1 y491.2.1.1.2.2.1 y491.2.1.1.2.2.2.1 y491.2.1.1.2.2.2.2.1 y491.2.1.1.2.2.2.2.2.1).bind fun y492 => ((F440 y492.2.1.1.2.1 y492.2.1.1.2.2.1 y492.2.1.1.2.2.2.1 y492.2.1.1.2.2.2.2.1 y492.2.1.1.2.2.2.2.2.1).bind fun y493 => (bif ((y493.1.1 : Int) != 0) then (bif y492.1.1 then (bif (decide ((y493.2.1.1.2.2.2.1 : Int) > 0)) then (bif (decide (((IntKind.wrap .i64 (y491.1.2.1 + (if ((((a2).length : Nat) : Int) : Int) < y493.2.1.1.2.2.2.1 then (((a2).length : Nat) : Int) else y493.2.1.1.2.2.2.1))) : Int) ≤ y491.1.1)) then (bif (decide (0 ≤ ((if ((((a2).length : Nat) : Int) : Int) < y493.2.1.1.2.2.2.1 then (((a2).length : Nat) : Int) else y493.2.1.1.2.2.2.1) : Int) ∧ ((if ((((a2).length : Nat) : Int) : Int) < y493.2.1.1.2.2.2.1 then (((a2).length : Nat) : Int) else y493.2.1.1.2.2.2.1) : Int) ≤ (((a2).length : Nat) : Int))) then ((F450c ((a2).take ((if ((((a2).length : Nat) : Int) : Int) < y493.2.1.1.2.2.2.1 then (((a2).length : Nat) : Int) else y493.2.1.1.2.2.2.1) : Int).toNat) y493.2.1.1.2.1 y493.2.1.1.2.2.1 y493.2.1.1.2.2.2.1 y493.2.1.1.2.2.2.2.1 y493.2.1.1.2.2.2.2.2.1).bind fun y494 => (some ((y493.1.1, ()), (((), y494.2.1.1.2.1, y494.2.1.1.2.2.1, y494.2.1.1.2.2.2.1, y494.2.1.1.2.2.2.2.1, y494.2.1.1.2.2.2.2.2.1, ()), ((), ()), ((), y494.2.1.2.2.1.2.1, ()), ()), (y494.2.2.1, ())))) else none) else none) else none) else none) else (bif (decide (((((a2).length : Nat) : Int) : Int) > (IntKind.wrap .i64 (y491.1.1 - y491.1.2.1)))) then none else ((F450c a2 y493.2.1.1.2.1 y493.2.1.1.2.2.1 y493.2.1.1.2.2.2.1 y493.2.1.1.2.2.2.2.1 y493.2.1.1.2.2.2.2.2.1).bind fun y495 => (some ((0, ()), (((), y495.2.1.1.2.1, y495.2.1.1.2.2.1, y495.2.1.1.2.2.2.1, y495.2.1.1.2.2.2.2.1, y495.2.1.1.2.2.2.2.2.1, ()), ((), ()), ((), y495.2.1.2.2.1.2.1, ()), ()), (y495.2.2.1, ())))))))))))
noncomputable def c180c : Con := ⟨i180c, o180c, fun x => F180c x.1.2.2.1 x.2.1.1.2.1 x.2.1.1.2.2.1 x.2.1.1.2.2.2.1 x.2.1.1.2.2.2.2.1 x.2.1.1.2.2.2.2.2.1⟩
theorem e180c (x : i180c.E) : vfn Try.prog C180c LO180c Try.f18 b180c i180c o180c x = F180c x.1.2.2.1 x.2.1.1.2.1 x.2.1.1.2.2.1 x.2.1.1.2.2.2.1 x.2.1.1.2.2.2.2.1 x.2.1.1.2.2.2.2.2.1 := by kernel_rfl
theorem c180c_ok : Con.OK Try.prog 18 c180c := (fn_ok C180c_ok (fun _ => rfl) Try.func18 body180c (loops_of (l := []) (by kernel_rfl) (show LoopsOK Try.prog Try.f18.ntmps [] LO180c from trivial)) i180c o180c).congr fun x => (e180c x).symm
noncomputable def b23a : Code := (.seq (.region 0 (regOf Try.f23 0) false) (.seq (.seq (.region 1 (regOf Try.f23 1) false) (.seq (.region 2 (regOf Try.f23 2) false) (.cond (.tmp 11) (.seq (.region 3 (regOf Try.f23 3) false) .ret) .skip))) (.seq (.region 4 (regOf Try.f23 4) false) (.seq (.seq (.region 5 (regOf Try.f23 5) false) (.cond (.tmp 23) (.seq (.region 6 (regOf Try.f23 6) false) .ret) .skip)) (.seq (.region 7 (regOf Try.f23 7) false) (.seq (.region 8 (regOf Try.f23 8) false) .ret))))))
theorem body23a : Try.f23.body = some b23a := by kernel_rfl
noncomputable def C23a : Tab := [(44, c44a)]
theorem C23a_ok : TabOK Try.prog C23a := ⟨c44a_ok, trivial⟩
noncomputable def LO23a : Tab := []
noncomputable def i23a : Tm := { sl := [(0, .p 0 0), (1, .kt bNN)], bx := [pD, [.mx 1 [(bNN, 0, 2)]], [.o 0, .v (.i .i64)]], bf := [(.i .u8)] }
noncomputable def o23a : OT := (.ret { sl := [(0, .v (.i .i64))], bx := [pD, [.mx 1 [(bNN, 0, 2)]], [.o 0, .v (.i .i64)]], bf := [(.i .u8)] })
noncomputable def F23a (b0_1 b0_2 b0_3 b0_4 : Int) (b0_5 : Bool) (b2_1 : Int) (q0 : (List Int)) : Option ((Int × Unit) × DS1 × ((List Int) × Unit)) :=
  ((F44a b0_1 b0_2 b0_3 b0_4 b0_5 b2_1 q0).bind fun y496 => (bif ((y496.1.1 : Int) != 0) then (some ((y496.1.1, ()), (((), y496.2.1.1.2.1, y496.2.1.1.2.2.1, y496.2.1.1.2.2.2.1, y496.2.1.1.2.2.2.2.1, y496.2.1.1.2.2.2.2.2.1, ()), ((), ()), ((), y496.2.1.2.2.1.2.1, ()), ()), (y496.2.2.1, ()))) else (some ((0, ()), (((), y496.2.1.1.2.1, y496.2.1.1.2.2.1, y496.2.1.1.2.2.2.1, y496.2.1.1.2.2.2.2.1, y496.2.1.1.2.2.2.2.2.1, ()), ((), ()), ((), (((y496.2.2.1).length : Nat) : Int), ()), ()), (y496.2.2.1, ())))))
noncomputable def c23a : Con := ⟨i23a, o23a, fun x => F23a x.2.1.1.2.1 x.2.1.1.2.2.1 x.2.1.1.2.2.2.1 x.2.1.1.2.2.2.2.1 x.2.1.1.2.2.2.2.2.1 x.2.1.2.2.1.2.1 x.2.2.1⟩
theorem e23a (x : i23a.E) : vfn Try.prog C23a LO23a Try.f23 b23a i23a o23a x = F23a x.2.1.1.2.1 x.2.1.1.2.2.1 x.2.1.1.2.2.2.1 x.2.1.1.2.2.2.2.1 x.2.1.1.2.2.2.2.2.1 x.2.1.2.2.1.2.1 x.2.2.1 := by kernel_rfl
theorem c23a_ok : Con.OK Try.prog 23 c23a := (fn_ok C23a_ok (fun _ => rfl) Try.func23 body23a (loops_of (l := []) (by kernel_rfl) (show LoopsOK Try.prog Try.f23.ntmps [] LO23a from trivial)) i23a o23a).congr fun x => (e23a x).symm
noncomputable def b23n : Code := (.seq (.region 0 (regOf Try.f23 0) false) (.seq (.seq (.region 1 (regOf Try.f23 1) false) (.seq (.region 2 (regOf Try.f23 2) false) (.cond (.tmp 11) (.seq (.region 3 (regOf Try.f23 3) false) .ret) .skip))) (.seq (.region 4 (regOf Try.f23 4) false) (.seq (.seq (.region 5 (regOf Try.f23 5) false) (.cond (.tmp 23) (.seq (.region 6 (regOf Try.f23 6) false) .ret) .skip)) (.seq (.region 7 (regOf Try.f23 7) false) (.seq (.region 8 (regOf Try.f23 8) false) .ret))))))
theorem body23n : Try.f23.body = some b23n := by kernel_rfl
noncomputable def C23n : Tab := [(44, c44n)]
theorem C23n_ok : TabOK Try.prog C23n := ⟨c44n_ok, trivial⟩
noncomputable def LO23n : Tab := []
noncomputable def i23n : Tm := { sl := [(0, .p 0 0), (1, .kt bNM)], bx := [pD, [.mx 2 [(bNM, 1, 2)]], [.v (.l (.i .u8)), .v (.i .i64)]], bf := [] }
noncomputable def o23n : OT := (.ret { sl := [(0, .v (.i .i64))], bx := [pD, [.mx 2 [(bNM, 1, 2)]], [.v (.l (.i .u8)), .v (.i .i64)]], bf := [] })
noncomputable def F23n (b0_1 b0_2 b0_3 b0_4 : Int) (b0_5 : Bool) (b2_0 : (List Int)) (b2_1 : Int) : Option ((Int × Unit) × DS2 × Unit) :=
  ((F44n b0_1 b0_2 b0_3 b0_4 b0_5 b2_0 b2_1).bind fun y497 => (bif ((y497.1.1 : Int) != 0) then (some ((y497.1.1, ()), (((), y497.2.1.1.2.1, y497.2.1.1.2.2.1, y497.2.1.1.2.2.2.1, y497.2.1.1.2.2.2.2.1, y497.2.1.1.2.2.2.2.2.1, ()), ((), ()), (y497.2.1.2.2.1.1, y497.2.1.2.2.1.2.1, ()), ()), ())) else (some ((0, ()), (((), y497.2.1.1.2.1, y497.2.1.1.2.2.1, y497.2.1.1.2.2.2.1, y497.2.1.1.2.2.2.2.1, y497.2.1.1.2.2.2.2.2.1, ()), ((), ()), (y497.2.1.2.2.1.1, (((y497.2.1.2.2.1.1).length : Nat) : Int), ()), ()), ()))))
noncomputable def c23n : Con := ⟨i23n, o23n, fun x => F23n x.2.1.1.2.1 x.2.1.1.2.2.1 x.2.1.1.2.2.2.1 x.2.1.1.2.2.2.2.1 x.2.1.1.2.2.2.2.2.1 x.2.1.2.2.1.1 x.2.1.2.2.1.2.1⟩
theorem e23n (x : i23n.E) : vfn Try.prog C23n LO23n Try.f23 b23n i23n o23n x = F23n x.2.1.1.2.1 x.2.1.1.2.2.1 x.2.1.1.2.2.2.1 x.2.1.1.2.2.2.2.1 x.2.1.1.2.2.2.2.2.1 x.2.1.2.2.1.1 x.2.1.2.2.1.2.1 := by kernel_rfl
theorem c23n_ok : Con.OK Try.prog 23 c23n := (fn_ok C23n_ok (fun _ => rfl) Try.func23 body23n (loops_of (l := []) (by kernel_rfl) (show LoopsOK Try.prog Try.f23.ntmps [] LO23n from trivial)) i23n o23n).congr fun x => (e23n x).symm
noncomputable def b470 : Code := (.seq (.region 0 (regOf Try.f47 0) false) (.seq (.seq (.region 1 (regOf Try.f47 1) false) (.seq (.region 2 (regOf Try.f47 2) false) (.cond (.tmp 11) (.seq (.region 3 (regOf Try.f47 3) false) .ret) .skip))) (.seq (.seq (.region 4 (regOf Try.f47 4) false) (.seq (.region 5 (regOf Try.f47 5) false) (.cond (.tmp 23) (.seq (.region 6 (regOf Try.f47 6) false) .ret) .skip))) (.seq (.region 7 (regOf Try.f47 7) false) (.seq (.region 8 (regOf Try.f47 8) false) .ret)))))
theorem body470 : Try.f47.body = some b470 := by kernel_rfl
noncomputable def C470 : Tab := [(44, c440)]
theorem C470_ok : TabOK Try.prog C470 := ⟨c440_ok, trivial⟩
noncomputable def LO470 : Tab := []
noncomputable def i470 : Tm := { sl := [(0, .p 0 0), (1, .kt bNN)], bx := [pD, [.mx 0 []]], bf := [] }
noncomputable def o470 : OT := (.ret { sl := [(0, .v (.i .i64))], bx := [pD, [.mx 0 []]], bf := [] })
noncomputable def F470 (b0_1 b0_2 b0_3 b0_4 : Int) (b0_5 : Bool) : Option ((Int × Unit) × DS0 × Unit) :=
  ((F440 b0_1 b0_2 b0_3 b0_4 b0_5).bind fun y498 => (bif ((y498.1.1 : Int) != 0) then (some ((y498.1.1, ()), (((), y498.2.1.1.2.1, y498.2.1.1.2.2.1, y498.2.1.1.2.2.2.1, y498.2.1.1.2.2.2.2.1, y498.2.1.1.2.2.2.2.2.1, ()), ((), ()), ()), ())) else (some ((2, ()), (((), y498.2.1.1.2.1, y498.2.1.1.2.2.1, y498.2.1.1.2.2.2.1, y498.2.1.1.2.2.2.2.1, y498.2.1.1.2.2.2.2.2.1, ()), ((), ()), ()), ()))))
noncomputable def c470 : Con := ⟨i470, o470, fun x => F470 x.2.1.1.2.1 x.2.1.1.2.2.1 x.2.1.1.2.2.2.1 x.2.1.1.2.2.2.2.1 x.2.1.1.2.2.2.2.2.1⟩
theorem e470 (x : i470.E) : vfn Try.prog C470 LO470 Try.f47 b470 i470 o470 x = F470 x.2.1.1.2.1 x.2.1.1.2.2.1 x.2.1.1.2.2.2.1 x.2.1.1.2.2.2.2.1 x.2.1.1.2.2.2.2.2.1 := by kernel_rfl
theorem c470_ok : Con.OK Try.prog 47 c470 := (fn_ok C470_ok (fun _ => rfl) Try.func47 body470 (loops_of (l := []) (by kernel_rfl) (show LoopsOK Try.prog Try.f47.ntmps [] LO470 from trivial)) i470 o470).congr fun x => (e470 x).symm
noncomputable def b50am : Code := (.seq (.region 0 (regOf Try.f50 0) false) (.seq (.seq (.region 1 (regOf Try.f50 1) false) (.cond (.tmp 12) (.seq (.region 2 (regOf Try.f50 2) false) .ret) .skip)) (.seq (.seq (.region 3 (regOf Try.f50 3) false) (.seq (.region 4 (regOf Try.f50 4) false) (.cond (.tmp 16) (.seq (.region 5 (regOf Try.f50 5) false) .ret) .skip))) (.seq (.region 6 (regOf Try.f50 6) false) (.seq (.seq (.region 7 (regOf Try.f50 7) false) (.cond (.tmp 28) (.seq (.region 8 (regOf Try.f50 8) false) .ret) .skip)) (.seq (.region 9 (regOf Try.f50 9) false) (.seq (.region 10 (regOf Try.f50 10) false) (.seq (.region 11 (regOf Try.f50 11) false) .ret))))))))
theorem body50am : Try.f50.body = some b50am := by kernel_rfl
noncomputable def C50am : Tab := [(16, c16), (44, c44a)]
theorem C50am_ok : TabOK Try.prog C50am := ⟨c16_ok, c44a_ok, trivial⟩
noncomputable def LO50am : Tab := []
noncomputable def i50am : Tm := { sl := [(0, .p 0 0), (1, .kt bNN), (2, .kt bNM)], bx := [pD, [.mx 1 [(bNN, 0, 2)]], [.o 0, .v (.i .i64)]], bf := [(.i .u8)] }
noncomputable def o50am : OT := (.ret { sl := [(0, .v (.i .i64))], bx := [pD, [.mx 2 [(bNM, 1, 2)]], [.o 0, .v (.i .i64)]], bf := [(.i .u8)] })
noncomputable def F50am (b0_1 b0_2 b0_3 b0_4 : Int) (b0_5 : Bool) (b2_1 : Int) (q0 : (List Int)) : Option ((Int × Unit) × DS1 × ((List Int) × Unit)) :=
  ((F16 bNM).bind fun y499 => (bif (!y499.1.1) then none else ((F44a b0_1 b0_2 b0_3 b0_4 b0_5 b2_1 q0).bind fun y500 => (bif ((y500.1.1 : Int) != 0) then none else (some ((0, ()), (((), y500.2.1.1.2.1, y500.2.1.1.2.2.1, y500.2.1.1.2.2.2.1, y500.2.1.1.2.2.2.2.1, y500.2.1.1.2.2.2.2.2.1, ()), ((), ()), ((), y500.2.1.2.2.1.2.1, ()), ()), (y500.2.2.1, ())))))))
noncomputable def c50am : Con := ⟨i50am, o50am, fun x => F50am x.2.1.1.2.1 x.2.1.1.2.2.1 x.2.1.1.2.2.2.1 x.2.1.1.2.2.2.2.1 x.2.1.1.2.2.2.2.2.1 x.2.1.2.2.1.2.1 x.2.2.1⟩
theorem e50am (x : i50am.E) : vfn Try.prog C50am LO50am Try.f50 b50am i50am o50am x = F50am x.2.1.1.2.1 x.2.1.1.2.2.1 x.2.1.1.2.2.2.1 x.2.1.1.2.2.2.2.1 x.2.1.1.2.2.2.2.2.1 x.2.1.2.2.1.2.1 x.2.2.1 := by kernel_rfl
theorem c50am_ok : Con.OK Try.prog 50 c50am := (fn_ok C50am_ok (fun _ => rfl) Try.func50 body50am (loops_of (l := []) (by kernel_rfl) (show LoopsOK Try.prog Try.f50.ntmps [] LO50am from trivial)) i50am o50am).congr fun x => (e50am x).symm
noncomputable def b22n : Code := (.seq (.region 0 (regOf Try.f22 0) false) (.cond (.tmp 7) (.region 1 (regOf Try.f22 1) false) .skip))
theorem body22n : Try.f22.body = some b22n := by kernel_rfl
noncomputable def C22n : Tab := []
theorem C22n_ok : TabOK Try.prog C22n := trivial
noncomputable def LO22n : Tab := []
noncomputable def i22n : Tm := { sl := [(0, .p 0 0), (1, .v (.i .i64)), (2, .v (.i .i64))], bx := [pD, [.mx 2 [(bNM, 1, 2)]], [.v (.l (.i .u8)), .v (.i .i64)]], bf := [] }
noncomputable def o22n : OT := (.ret { sl := [], bx := [pD, [.mx 2 [(bNM, 1, 2)]], [.v (.l (.i .u8)), .v (.i .i64)]], bf := [] })
noncomputable def F22n (a1 : Int) (a2 : Int) (b0_1 b0_2 b0_3 b0_4 : Int) (b0_5 : Bool) (b2_0 : (List Int)) (b2_1 : Int) : Option (Unit × DS2 × Unit) :=
  (some ((), (((), b0_1, a1, (if (0 : Int) > a2 then 0 else a2), b0_4, b0_5, ()), ((), ()), (b2_0, b2_1, ()), ()), ()))
noncomputable def c22n : Con := ⟨i22n, o22n, fun x => F22n x.1.2.1 x.1.2.2.1 x.2.1.1.2.1 x.2.1.1.2.2.1 x.2.1.1.2.2.2.1 x.2.1.1.2.2.2.2.1 x.2.1.1.2.2.2.2.2.1 x.2.1.2.2.1.1 x.2.1.2.2.1.2.1⟩
theorem e22n (x : i22n.E) : vfn Try.prog C22n LO22n Try.f22 b22n i22n o22n x = F22n x.1.2.1 x.1.2.2.1 x.2.1.1.2.1 x.2.1.1.2.2.1 x.2.1.1.2.2.2.1 x.2.1.1.2.2.2.2.1 x.2.1.1.2.2.2.2.2.1 x.2.1.2.2.1.1 x.2.1.2.2.1.2.1 := by kernel_rfl
theorem c22n_ok : Con.OK Try.prog 22 c22n := (fn_ok C22n_ok (fun _ => rfl) Try.func22 body22n (loops_of (l := []) (by kernel_rfl) (show LoopsOK Try.prog Try.f22.ntmps [] LO22n from trivial)) i22n o22n).congr fun x => (e22n x).symm
noncomputable def b48 : Code := (.seq (.region 0 (regOf Try.f48 0) false) (.seq (.region 1 (regOf Try.f48 1) false) (.seq (.region 2 (regOf Try.f48 2) true) .ret)))
theorem body48 : Try.f48.body = some b48 := by kernel_rfl
noncomputable def C48 : Tab := [(49, c49), (51, c51)]
theorem C48_ok : TabOK Try.prog C48 := ⟨c49_ok, c51_ok, trivial⟩
noncomputable def LO48 : Tab := []
noncomputable def i48 : Tm := { sl := [(0, .v (.p (.i .u8) (.p (.i .u64) (.p (.i .u64) .u))))], bx := [], bf := [] }
noncomputable def o48 : OT := (.ret { sl := [(0, .o 0)], bx := [], bf := [(.i .u8)] })
noncomputable def F48 (a0 : (Int × (Int × (Int × Unit)))) : Option ((Unit × Unit) × Unit × ((List Int) × Unit)) :=
  (bif (decide (0 < ([97, 110, 97, 49]).length)) then ((F51 a0.2.1 ([97, 110, 97, 49] ++ [a0.1])).bind fun y501 => ((F51 a0.2.2.1 y501.2.2.1).bind fun y502 => ((F49 y502.2.2.1).bind fun y503 => (some (((), ()), (), (y503.2.2.1, ())))))) else none)
noncomputable def c48 : Con := ⟨i48, o48, fun x => F48 x.1.1⟩
theorem e48 (x : i48.E) : vfn Try.prog C48 LO48 Try.f48 b48 i48 o48 x = F48 x.1.1 := by kernel_rfl
theorem c48_ok : Con.OK Try.prog 48 c48 := (fn_ok C48_ok (fun _ => rfl) Try.func48 body48 (loops_of (l := []) (by kernel_rfl) (show LoopsOK Try.prog Try.f48.ntmps [] LO48 from trivial)) i48 o48).congr fun x => (e48 x).symm
noncomputable def l200m_7 : Code := (.seq (.region 7 (regOf Try.f20 7) false) (.seq (.cond (.tmp 33) .skip (.exit 0)) (.seq (.block 1 (.seq (.region 8 (regOf Try.f20 8) false) (.seq (.seq (.region 9 (regOf Try.f20 9) false) (.cond (.tmp 38) (.seq (.region 10 (regOf Try.f20 10) false) .ret) .skip)) (.region 11 (regOf Try.f20 11) false)))) (.region 12 (regOf Try.f20 12) false))))
noncomputable def b200m : Code := (.seq (.region 0 (regOf Try.f20 0) false) (.seq (.region 1 (regOf Try.f20 1) false) (.seq (.seq (.region 2 (regOf Try.f20 2) false) (.seq (.region 3 (regOf Try.f20 3) false) (.cond (.tmp 26) (.seq (.region 4 (regOf Try.f20 4) false) .ret) .skip))) (.seq (.region 5 (regOf Try.f20 5) false) (.seq (.seq (.region 6 (regOf Try.f20 6) false) (.block 0 (.loop l200m_7))) (.seq (.seq (.region 13 (regOf Try.f20 13) false) (.seq (.region 14 (regOf Try.f20 14) false) (.cond (.tmp 49) (.seq (.region 15 (regOf Try.f20 15) false) .ret) .skip))) (.seq (.seq (.region 16 (regOf Try.f20 16) false) (.seq (.region 17 (regOf Try.f20 17) false) (.cond (.tmp 55) (.seq (.region 18 (regOf Try.f20 18) false) .ret) .skip))) (.seq (.region 19 (regOf Try.f20 19) false) .ret))))))))
theorem body200m : Try.f20.body = some b200m := by kernel_rfl
noncomputable def C200m_7 : Tab := [(49, c49)]
theorem C200m_7_ok : TabOK Try.prog C200m_7 := ⟨c49_ok, trivial⟩
noncomputable def LO200m_7 : Tab := []
noncomputable def i200m_7 : Tm := { sl := [(11, .o 0), (30, .v (.l (.l (.i .u8)))), (31, .v (.i .i64)), (32, .v (.i .i64))], bx := [], bf := [(.i .u8)] }
noncomputable def o200m_7 : OT := (.two (.ret { sl := [(8, .v (.i .i64))], bx := [], bf := [] }) (.exit 0 { sl := [(11, .o 0)], bx := [], bf := [(.i .u8)] }))
noncomputable def T200m_7 (a30 : (List (List Int))) (a31 : Int) (a32 : Int) (q0 : (List Int)) : Option (((Unit × ((List (List Int)) × (Int × (Int × Unit)))) × Unit × ((List Int) × Unit)) ⊕ (((Int × Unit) × Unit × Unit) ⊕ ((Unit × Unit) × Unit × ((List Int) × Unit)))) :=
  (bif (decide ((a32 : Int) < a31)) then (bif (decide (0 ≤ (a32 : Int) ∧ (a32 : Int) < (((a30).length : Nat) : Int))) then (bif (decide (((((((a30).getD (a32 : Int).toNat [])).length : Nat) : Int) : Int) > 2097152)) then (some (.inr (.inl ((6, ()), (), ())))) else ((F49 ((a30).getD (a32 : Int).toNat [])).bind fun y507 => (bif (decide ((q0).length + (y507.2.2.1).length < lim)) then (some (.inl (((), a30, a31, (IntKind.wrap .i64 (a32 + 1)), ()), (), ((q0 ++ y507.2.2.1), ())))) else none))) else none) else (some (.inr (.inr (((), ()), (), (q0, ()))))))
noncomputable def L200m_7 (a30 : (List (List Int))) (a31 : Int) (a32 : Int) (q0 : (List Int)) : Option (((Int × Unit) × Unit × Unit) ⊕ ((Unit × Unit) × Unit × ((List Int) × Unit))) := loopF (fun x : ((Unit × ((List (List Int)) × (Int × (Int × Unit)))) × Unit × ((List Int) × Unit)) => T200m_7 x.1.2.1 x.1.2.2.1 x.1.2.2.2.1 x.2.2.1) (((), a30, a31, a32, ()), (), (q0, ()))
theorem L200m_7_eq (a30 : (List (List Int))) (a31 : Int) (a32 : Int) (q0 : (List Int)) : L200m_7 a30 a31 a32 q0 = (T200m_7 a30 a31 a32 q0).bind (Sum.elim (fun x => L200m_7 x.1.2.1 x.1.2.2.1 x.1.2.2.2.1 x.2.2.1) some) := loopF_eq _ _
noncomputable def k200m_7 : Con := ⟨i200m_7, o200m_7, fun x => L200m_7 x.1.2.1 x.1.2.2.1 x.1.2.2.2.1 x.2.2.1⟩
theorem e200m_7 (x : i200m_7.E) : vround Try.prog C200m_7 LO200m_7 Try.f20.ntmps l200m_7 i200m_7 o200m_7 x = T200m_7 x.1.2.1 x.1.2.2.1 x.1.2.2.2.1 x.2.2.1 := by kernel_rfl
theorem k200m_7_ok : Con.LOK Try.prog Try.f20.ntmps l200m_7 k200m_7 := (loop_ok C200m_7_ok (loops_of (l := []) (by kernel_rfl) (show LoopsOK Try.prog Try.f20.ntmps [] LO200m_7 from trivial)) i200m_7 o200m_7).congr fun x => (congrArg (fun T => loopF T x) (funext e200m_7)).symm
noncomputable def C200m : Tab := [(18, c180a), (23, c23a), (47, c470), (48, c48), (49, c49), (50, c50am)]
theorem C200m_ok : TabOK Try.prog C200m := ⟨c180a_ok, c23a_ok, c470_ok, c48_ok, c49_ok, c50am_ok, trivial⟩
noncomputable def LO200m : Tab := [(7, k200m_7)]
noncomputable def i200m : Tm := { sl := [(0, .p 0 0), (1, .kt bNM), (2, .v (.p (.i .u8) (.p (.i .u64) (.p (.i .u64) .u)))), (3, .v (.l (.l (.i .u8))))], bx := [pD, [.mx 0 []]], bf := [] }
noncomputable def o200m : OT := (.ret { sl := [(0, .v (.i .i64))], bx := [pD, [.mx 2 [(bNM, 1, 2)]], [.o 0, .v (.i .i64)]], bf := [(.i .u8)] })
noncomputable def F200m (a2 : (Int × (Int × (Int × Unit)))) (a3 : (List (List Int))) (b0_1 b0_2 b0_3 b0_4 : Int) (b0_5 : Bool) : Option ((Int × Unit) × DS1 × ((List Int) × Unit)) :=
  ((F470 b0_1 b0_2 b0_3 b0_4 b0_5).bind fun y504 => (bif ((y504.1.1 : Int) != 0) then (bif ((y504.1.1 : Int) != 2) then none else ((F48 (a2.1, (a2.2.1, (a2.2.2.1, ())))).bind fun y505 => ((L200m_7 a3 (((a3).length : Nat) : Int) 0 y505.2.2.1).bind fun y508 => (Sum.elim (fun y509 => none) (fun y509 => ((F180a y509.2.2.1 y504.2.1.1.2.1 y504.2.1.1.2.2.1 y504.2.1.1.2.2.2.1 y504.2.1.1.2.2.2.2.1 y504.2.1.1.2.2.2.2.2.1).bind fun y510 => (bif ((y510.1.1 : Int) != 0) then none else ((F23a y510.2.1.1.2.1 y510.2.1.1.2.2.1 y510.2.1.1.2.2.2.1 y510.2.1.1.2.2.2.2.1 y510.2.1.1.2.2.2.2.2.1 y510.2.1.2.2.1.2.1 y510.2.2.1).bind fun y511 => (bif ((y511.1.1 : Int) != 0) then none else ((F50am y511.2.1.1.2.1 y511.2.1.1.2.2.1 y511.2.1.1.2.2.2.1 y511.2.1.1.2.2.2.2.1 y511.2.1.1.2.2.2.2.2.1 y511.2.1.2.2.1.2.1 y511.2.2.1).bind fun y512 => (some ((y512.1.1, ()), (((), y512.2.1.1.2.1, y512.2.1.1.2.2.1, y512.2.1.1.2.2.2.1, y512.2.1.1.2.2.2.2.1, y512.2.1.1.2.2.2.2.2.1, ()), ((), ()), ((), y512.2.1.2.2.1.2.1, ()), ()), (y512.2.2.1, ()))))))))) y508)))) else ((F48 (a2.1, (a2.2.1, (a2.2.2.1, ())))).bind fun y513 => ((L200m_7 a3 (((a3).length : Nat) : Int) 0 y513.2.2.1).bind fun y514 => (Sum.elim (fun y515 => none) (fun y515 => ((F180a y515.2.2.1 y504.2.1.1.2.1 y504.2.1.1.2.2.1 y504.2.1.1.2.2.2.1 y504.2.1.1.2.2.2.2.1 y504.2.1.1.2.2.2.2.2.1).bind fun y516 => (bif ((y516.1.1 : Int) != 0) then none else ((F23a y516.2.1.1.2.1 y516.2.1.1.2.2.1 y516.2.1.1.2.2.2.1 y516.2.1.1.2.2.2.2.1 y516.2.1.1.2.2.2.2.2.1 y516.2.1.2.2.1.2.1 y516.2.2.1).bind fun y517 => (bif ((y517.1.1 : Int) != 0) then none else ((F50am y517.2.1.1.2.1 y517.2.1.1.2.2.1 y517.2.1.1.2.2.2.1 y517.2.1.1.2.2.2.2.1 y517.2.1.1.2.2.2.2.2.1 y517.2.1.2.2.1.2.1 y517.2.2.1).bind fun y518 => (some ((y518.1.1, ()), (((), y518.2.1.1.2.1, y518.2.1.1.2.2.1, y518.2.1.1.2.2.2.1, y518.2.1.1.2.2.2.2.1, y518.2.1.1.2.2.2.2.2.1, ()), ((), ()), ((), y518.2.1.2.2.1.2.1, ()), ()), (y518.2.2.1, ()))))))))) y514)))))
noncomputable def c200m : Con := ⟨i200m, o200m, fun x => F200m x.1.2.2.1 x.1.2.2.2.1 x.2.1.1.2.1 x.2.1.1.2.2.1 x.2.1.1.2.2.2.1 x.2.1.1.2.2.2.2.1 x.2.1.1.2.2.2.2.2.1⟩
theorem e200m (x : i200m.E) : vfn Try.prog C200m LO200m Try.f20 b200m i200m o200m x = F200m x.1.2.2.1 x.1.2.2.2.1 x.2.1.1.2.1 x.2.1.1.2.2.1 x.2.1.1.2.2.2.1 x.2.1.1.2.2.2.2.1 x.2.1.1.2.2.2.2.2.1 := by kernel_rfl
theorem c200m_ok : Con.OK Try.prog 20 c200m := (fn_ok C200m_ok (fun _ => rfl) Try.func20 body200m (loops_of (l := [l200m_7]) (by kernel_rfl) (show LoopsOK Try.prog Try.f20.ntmps [l200m_7] LO200m from ⟨k200m_7_ok, trivial⟩)) i200m o200m).congr fun x => (e200m x).symm
noncomputable def b17w : Code := (.seq (.region 0 (regOf Try.f17 0) false) (.seq (.seq (.region 1 (regOf Try.f17 1) false) (.cond (.tmp 23) (.seq (.region 2 (regOf Try.f17 2) false) .ret) .skip)) (.seq (.region 3 (regOf Try.f17 3) true) .ret)))
theorem body17w : Try.f17.body = some b17w := by kernel_rfl
noncomputable def C17w : Tab := [(16, c16), (20, c200m), (21, c21)]
theorem C17w_ok : TabOK Try.prog C17w := ⟨c16_ok, c200m_ok, c21_ok, trivial⟩
noncomputable def LO17w : Tab := []
noncomputable def i17w : Tm := { sl := [(0, .p 0 0), (1, .v tDMf)], bx := [pD, [.mx 0 []]], bf := [] }
noncomputable def o17w : OT := (.two (.ret { sl := [(0, .v (.i .i64))], bx := [pD, [.mx 2 [(bNM, 1, 2)]], [.o 0, .v (.i .i64)]], bf := [(.i .u8)] }) (.ret { sl := [(0, .v (.i .i64))], bx := [pD, [.mx 0 []]], bf := [] }))
noncomputable def F17w (a1 : DMf) (b0_1 b0_2 b0_3 b0_4 : Int) (b0_5 : Bool) : Option (((Int × Unit) × DS1 × ((List Int) × Unit)) ⊕ ((Int × Unit) × DS0 × Unit)) :=
  (bif (decide ((a1.1 : Int) < 0)) then (some (.inr ((1, ()), (((), b0_1, b0_2, b0_3, b0_4, b0_5, ()), ((), ()), ()), ()))) else (bif (decide ((a1.1 : Int) ≥ 64)) then (some (.inr ((1, ()), (((), b0_1, b0_2, b0_3, b0_4, b0_5, ()), ((), ()), ()), ()))) else (bif (!((a1.2.2.2.2.1 : ByteArray).toList == ((⟨#[]⟩ : ByteArray) : ByteArray).toList)) then ((F16 a1.2.2.2.2.1).bind fun y519 => (bif (!y519.1.1) then (some (.inr ((1, ()), (((), b0_1, b0_2, b0_3, b0_4, b0_5, ()), ((), ()), ()), ()))) else ((F21 (a1.1, (a1.2.1, (a1.2.2.1, (a1.2.2.2.1, (a1.2.2.2.2.1, ())))))).bind fun y520 => ((F200m (109, ((IntKind.wrap .u64 a1.1), (a1.2.1, ()))) [y520.2.2.1] b0_1 b0_2 b0_3 b0_4 b0_5).bind fun y521 => (some (.inl ((y521.1.1, ()), (((), y521.2.1.1.2.1, y521.2.1.1.2.2.1, y521.2.1.1.2.2.2.1, y521.2.1.1.2.2.2.2.1, y521.2.1.1.2.2.2.2.2.1, ()), ((), ()), ((), y521.2.1.2.2.1.2.1, ()), ()), (y521.2.2.1, ())))))))) else ((F21 (a1.1, (a1.2.1, (a1.2.2.1, (a1.2.2.2.1, (a1.2.2.2.2.1, ())))))).bind fun y522 => ((F200m (109, ((IntKind.wrap .u64 a1.1), (a1.2.1, ()))) [y522.2.2.1] b0_1 b0_2 b0_3 b0_4 b0_5).bind fun y523 => (some (.inl ((y523.1.1, ()), (((), y523.2.1.1.2.1, y523.2.1.1.2.2.1, y523.2.1.1.2.2.2.1, y523.2.1.1.2.2.2.2.1, y523.2.1.1.2.2.2.2.2.1, ()), ((), ()), ((), y523.2.1.2.2.1.2.1, ()), ()), (y523.2.2.1, ())))))))))
noncomputable def c17w : Con := ⟨i17w, o17w, fun x => F17w x.1.2.1 x.2.1.1.2.1 x.2.1.1.2.2.1 x.2.1.1.2.2.2.1 x.2.1.1.2.2.2.2.1 x.2.1.1.2.2.2.2.2.1⟩
theorem e17w (x : i17w.E) : vfn Try.prog C17w LO17w Try.f17 b17w i17w o17w x = F17w x.1.2.1 x.2.1.1.2.1 x.2.1.1.2.2.1 x.2.1.1.2.2.2.1 x.2.1.1.2.2.2.2.1 x.2.1.1.2.2.2.2.2.1 := by kernel_rfl
theorem c17w_ok : Con.OK Try.prog 17 c17w := (fn_ok C17w_ok (fun _ => rfl) Try.func17 body17w (loops_of (l := []) (by kernel_rfl) (show LoopsOK Try.prog Try.f17.ntmps [] LO17w from trivial)) i17w o17w).congr fun x => (e17w x).symm
noncomputable def b92 : Code := (.seq (.region 0 (regOf Try.f92 0) false) (.seq (.seq (.region 1 (regOf Try.f92 1) false) (.cond (.tmp 4) (.seq (.region 2 (regOf Try.f92 2) false) .ret) .skip)) (.seq (.region 3 (regOf Try.f92 3) false) .ret)))
theorem body92 : Try.f92.body = some b92 := by kernel_rfl
noncomputable def C92 : Tab := []
theorem C92_ok : TabOK Try.prog C92 := trivial
noncomputable def LO92 : Tab := []
noncomputable def i92 : Tm := { sl := [(0, .v (.l (.i .u8)))], bx := [], bf := [] }
noncomputable def o92 : OT := (.ret { sl := [(0, .v (.l (.i .u8)))], bx := [], bf := [] })
noncomputable def F92 (a0 : (List Int)) : Option (((List Int) × Unit) × Unit × Unit) :=
  (nilBr (a0).length (some ((([] : List Int), ()), (), ())) (bif (decide ((([] : List Int)).length + (a0).length < lim)) then (some (((([] : List Int) ++ a0), ()), (), ())) else none))
noncomputable def c92 : Con := ⟨i92, o92, fun x => F92 x.1.1⟩
theorem e92 (x : i92.E) : vfn Try.prog C92 LO92 Try.f92 b92 i92 o92 x = F92 x.1.1 := by kernel_rfl
theorem c92_ok : Con.OK Try.prog 92 c92 := (fn_ok C92_ok (fun _ => rfl) Try.func92 body92 (loops_of (l := []) (by kernel_rfl) (show LoopsOK Try.prog Try.f92.ntmps [] LO92 from trivial)) i92 o92).congr fun x => (e92 x).symm
noncomputable def b77d : Code := (.seq (.region 0 (regOf Try.f77 0) false) (.seq (.seq (.region 1 (regOf Try.f77 1) false) (.cond (.tmp 10) (.seq (.region 2 (regOf Try.f77 2) false) .ret) .skip)) (.seq (.region 3 (regOf Try.f77 3) false) (.seq (.seq (.region 4 (regOf Try.f77 4) false) (.cond (.tmp 21) (.seq (.region 5 (regOf Try.f77 5) false) .ret) .skip)) (.seq (.region 6 (regOf Try.f77 6) false) .ret)))))
theorem body77d : Try.f77.body = some b77d := by kernel_rfl
noncomputable def C77d : Tab := [(43, c43d), (92, c92)]
theorem C77d_ok : TabOK Try.prog C77d := ⟨c43d_ok, c92_ok, trivial⟩
noncomputable def LO77d : Tab := []
noncomputable def i77d : Tm := { sl := [(0, .p 0 0), (1, .kt bNM)], bx := [pD, [.mx 1 [(bNM, 0, 2)]], [.v (.l (.i .u8)), .v (.i .i64)]], bf := [] }
noncomputable def o77d : OT := (.ret { sl := [(0, .v (.l (.i .u8))), (1, .v (.i .i64))], bx := [pD, [.mx 1 [(bNM, 0, 2)]], [.v (.l (.i .u8)), .v (.i .i64)]], bf := [] })
noncomputable def F77d (b0_1 b0_2 b0_3 b0_4 : Int) (b0_5 : Bool) (b2_0 : (List Int)) (b2_1 : Int) : Option (((List Int) × (Int × Unit)) × DS2 × Unit) :=
  ((F43d b0_1 b0_2 b0_3 b0_4 b0_5 b2_0 b2_1).bind fun y524 => (bif (!y524.1.1) then (some ((([] : List Int), 7, ()), (((), y524.2.1.1.2.1, y524.2.1.1.2.2.1, y524.2.1.1.2.2.2.1, y524.2.1.1.2.2.2.2.1, y524.2.1.1.2.2.2.2.2.1, ()), ((), ()), (y524.2.1.2.2.1.1, y524.2.1.2.2.1.2.1, ()), ()), ())) else ((F92 y524.2.1.2.2.1.1).bind fun y525 => (some ((y525.1.1, 0, ()), (((), y524.2.1.1.2.1, y524.2.1.1.2.2.1, y524.2.1.1.2.2.2.1, y524.2.1.1.2.2.2.2.1, y524.2.1.1.2.2.2.2.2.1, ()), ((), ()), (y524.2.1.2.2.1.1, y524.2.1.2.2.1.2.1, ()), ()), ())))))
noncomputable def c77d : Con := ⟨i77d, o77d, fun x => F77d x.2.1.1.2.1 x.2.1.1.2.2.1 x.2.1.1.2.2.2.1 x.2.1.1.2.2.2.2.1 x.2.1.1.2.2.2.2.2.1 x.2.1.2.2.1.1 x.2.1.2.2.1.2.1⟩
theorem e77d (x : i77d.E) : vfn Try.prog C77d LO77d Try.f77 b77d i77d o77d x = F77d x.2.1.1.2.1 x.2.1.1.2.2.1 x.2.1.1.2.2.2.1 x.2.1.1.2.2.2.2.1 x.2.1.1.2.2.2.2.2.1 x.2.1.2.2.1.1 x.2.1.2.2.1.2.1 := by kernel_rfl
theorem c77d_ok : Con.OK Try.prog 77 c77d := (fn_ok C77d_ok (fun _ => rfl) Try.func77 body77d (loops_of (l := []) (by kernel_rfl) (show LoopsOK Try.prog Try.f77.ntmps [] LO77d from trivial)) i77d o77d).congr fun x => (e77d x).symm
noncomputable def b77n : Code := (.seq (.region 0 (regOf Try.f77 0) false) (.seq (.seq (.region 1 (regOf Try.f77 1) false) (.cond (.tmp 10) (.seq (.region 2 (regOf Try.f77 2) false) .ret) .skip)) (.seq (.region 3 (regOf Try.f77 3) false) (.seq (.seq (.region 4 (regOf Try.f77 4) false) (.cond (.tmp 21) (.seq (.region 5 (regOf Try.f77 5) false) .ret) .skip)) (.seq (.region 6 (regOf Try.f77 6) false) .ret)))))
theorem body77n : Try.f77.body = some b77n := by kernel_rfl
noncomputable def C77n : Tab := [(43, c43n), (92, c92)]
theorem C77n_ok : TabOK Try.prog C77n := ⟨c43n_ok, c92_ok, trivial⟩
noncomputable def LO77n : Tab := []
noncomputable def i77n : Tm := { sl := [(0, .p 0 0), (1, .kt bNM)], bx := [pD, [.mx 2 [(bNM, 1, 2)]], [.v (.l (.i .u8)), .v (.i .i64)]], bf := [] }
noncomputable def o77n : OT := (.ret { sl := [(0, .v (.l (.i .u8))), (1, .v (.i .i64))], bx := [pD, [.mx 2 [(bNM, 1, 2)]], [.v (.l (.i .u8)), .v (.i .i64)]], bf := [] })
noncomputable def F77n (b0_1 b0_2 b0_3 b0_4 : Int) (b0_5 : Bool) (b2_0 : (List Int)) (b2_1 : Int) : Option (((List Int) × (Int × Unit)) × DS2 × Unit) :=
  ((F43n b0_1 b0_2 b0_3 b0_4 b0_5 b2_0 b2_1).bind fun y526 => (bif (!y526.1.1) then (some ((([] : List Int), 7, ()), (((), y526.2.1.1.2.1, y526.2.1.1.2.2.1, y526.2.1.1.2.2.2.1, y526.2.1.1.2.2.2.2.1, y526.2.1.1.2.2.2.2.2.1, ()), ((), ()), (y526.2.1.2.2.1.1, y526.2.1.2.2.1.2.1, ()), ()), ())) else ((F92 y526.2.1.2.2.1.1).bind fun y527 => (some ((y527.1.1, 0, ()), (((), y526.2.1.1.2.1, y526.2.1.1.2.2.1, y526.2.1.1.2.2.2.1, y526.2.1.1.2.2.2.2.1, y526.2.1.1.2.2.2.2.2.1, ()), ((), ()), (y526.2.1.2.2.1.1, y526.2.1.2.2.1.2.1, ()), ()), ())))))
noncomputable def c77n : Con := ⟨i77n, o77n, fun x => F77n x.2.1.1.2.1 x.2.1.1.2.2.1 x.2.1.1.2.2.2.1 x.2.1.1.2.2.2.2.1 x.2.1.1.2.2.2.2.2.1 x.2.1.2.2.1.1 x.2.1.2.2.1.2.1⟩
theorem e77n (x : i77n.E) : vfn Try.prog C77n LO77n Try.f77 b77n i77n o77n x = F77n x.2.1.1.2.1 x.2.1.1.2.2.1 x.2.1.1.2.2.2.1 x.2.1.1.2.2.2.2.1 x.2.1.1.2.2.2.2.2.1 x.2.1.2.2.1.1 x.2.1.2.2.1.2.1 := by kernel_rfl
theorem c77n_ok : Con.OK Try.prog 77 c77n := (fn_ok C77n_ok (fun _ => rfl) Try.func77 body77n (loops_of (l := []) (by kernel_rfl) (show LoopsOK Try.prog Try.f77.ntmps [] LO77n from trivial)) i77n o77n).congr fun x => (e77n x).symm
noncomputable def l93_4 : Code := (.seq (.region 4 (regOf Try.f93 4) false) (.seq (.cond (.tmp 13) .skip (.exit 0)) (.seq (.block 1 (.seq (.region 5 (regOf Try.f93 5) false) (.seq (.region 6 (regOf Try.f93 6) false) (.cond (.tmp 19) (.seq (.region 7 (regOf Try.f93 7) false) .ret) .skip)))) (.region 8 (regOf Try.f93 8) false))))
noncomputable def b93 : Code := (.seq (.region 0 (regOf Try.f93 0) false) (.seq (.region 1 (regOf Try.f93 1) false) (.seq (.region 2 (regOf Try.f93 2) false) (.seq (.seq (.region 3 (regOf Try.f93 3) false) (.block 0 (.loop l93_4))) (.seq (.region 9 (regOf Try.f93 9) false) (.seq (.region 10 (regOf Try.f93 10) false) (.seq (.region 11 (regOf Try.f93 11) false) .ret)))))))
theorem body93 : Try.f93.body = some b93 := by kernel_rfl
noncomputable def C93_4 : Tab := [(73, c73)]
theorem C93_4_ok : TabOK Try.prog C93_4 := ⟨c73_ok, trivial⟩
noncomputable def LO93_4 : Tab := []
noncomputable def i93_4 : Tm := { sl := [(2, .p 0 0), (3, .p 1 0), (4, .p 2 0), (10, .v (.l (.i .u8))), (11, .v (.i .i64)), (12, .v (.i .i64))], bx := [[.v (.i .u8), .v (.i .u64), .v (.i .u64)], [.v (.i .i64)], [.v (.l (.i .u8))]], bf := [] }
noncomputable def o93_4 : OT := (.two (.ret { sl := [], bx := [[.v (.i .u8), .v (.i .u64), .v (.i .u64)], [.v (.i .i64)], [.v (.l (.i .u8))]], bf := [] }) (.two (.pnc 130 .i64 { sl := [], bx := [[.v (.i .u8), .v (.i .u64), .v (.i .u64)], [.v (.i .i64)], [.v (.l (.i .u8))]], bf := [] }) (.exit 0 { sl := [], bx := [[.v (.i .u8), .v (.i .u64), .v (.i .u64)], [.v (.i .i64)], [.v (.l (.i .u8))]], bf := [] })))
noncomputable def T93_4 (a10 : (List Int)) (a11 : Int) (a12 : Int) (b0_0 : Int) (b0_1 : Int) (b0_2 : Int) (b1_0 : Int) (b2_0 : (List Int)) : Option (((Unit × (Unit × (Unit × ((List Int) × (Int × (Int × Unit)))))) × ((Int × (Int × (Int × Unit))) × ((Int × Unit) × (((List Int) × Unit) × Unit))) × Unit) ⊕ ((Unit × ((Int × (Int × (Int × Unit))) × ((Int × Unit) × (((List Int) × Unit) × Unit))) × Unit) ⊕ ((Int × (Unit × ((Int × (Int × (Int × Unit))) × ((Int × Unit) × (((List Int) × Unit) × Unit))) × Unit)) ⊕ (Unit × ((Int × (Int × (Int × Unit))) × ((Int × Unit) × (((List Int) × Unit) × Unit))) × Unit)))) :=
  (bif (decide ((a12 : Int) < a11)) then (bif (decide (0 ≤ (a12 : Int) ∧ (a12 : Int) < (((a10).length : Nat) : Int))) then ((F73 b2_0).bind fun y531 => (Sum.elim (fun y532 => (bif ((y532.1.1 : Int) != ((a10).getD (a12 : Int).toNat (0 : Int))) then (some (.inr (.inl ((), ((0, 0, 0, ()), (4, ()), (y532.2.1.1.1, ()), ()), ())))) else (some (.inl (((), (), (), a10, a11, (IntKind.wrap .i64 (a12 + 1)), ()), ((b0_0, b0_1, b0_2, ()), (b1_0, ()), (y532.2.1.1.1, ()), ()), ()))))) (fun y532 => (some (.inr (.inr (.inl (y532.1, ((), ((b0_0, b0_1, b0_2, ()), (b1_0, ()), (y532.2.2.1.1.1, ()), ()), ()))))))) y531)) else none) else (some (.inr (.inr (.inr ((), ((b0_0, b0_1, b0_2, ()), (b1_0, ()), (b2_0, ()), ()), ()))))))
noncomputable def L93_4 (a10 : (List Int)) (a11 : Int) (a12 : Int) (b0_0 : Int) (b0_1 : Int) (b0_2 : Int) (b1_0 : Int) (b2_0 : (List Int)) : Option ((Unit × ((Int × (Int × (Int × Unit))) × ((Int × Unit) × (((List Int) × Unit) × Unit))) × Unit) ⊕ ((Int × (Unit × ((Int × (Int × (Int × Unit))) × ((Int × Unit) × (((List Int) × Unit) × Unit))) × Unit)) ⊕ (Unit × ((Int × (Int × (Int × Unit))) × ((Int × Unit) × (((List Int) × Unit) × Unit))) × Unit))) := loopF (fun x : ((Unit × (Unit × (Unit × ((List Int) × (Int × (Int × Unit)))))) × ((Int × (Int × (Int × Unit))) × ((Int × Unit) × (((List Int) × Unit) × Unit))) × Unit) => T93_4 x.1.2.2.2.1 x.1.2.2.2.2.1 x.1.2.2.2.2.2.1 x.2.1.1.1 x.2.1.1.2.1 x.2.1.1.2.2.1 x.2.1.2.1.1 x.2.1.2.2.1.1) (((), (), (), a10, a11, a12, ()), ((b0_0, b0_1, b0_2, ()), (b1_0, ()), (b2_0, ()), ()), ())
theorem L93_4_eq (a10 : (List Int)) (a11 : Int) (a12 : Int) (b0_0 : Int) (b0_1 : Int) (b0_2 : Int) (b1_0 : Int) (b2_0 : (List Int)) : L93_4 a10 a11 a12 b0_0 b0_1 b0_2 b1_0 b2_0 = (T93_4 a10 a11 a12 b0_0 b0_1 b0_2 b1_0 b2_0).bind (Sum.elim (fun x => L93_4 x.1.2.2.2.1 x.1.2.2.2.2.1 x.1.2.2.2.2.2.1 x.2.1.1.1 x.2.1.1.2.1 x.2.1.1.2.2.1 x.2.1.2.1.1 x.2.1.2.2.1.1) some) := loopF_eq _ _
noncomputable def k93_4 : Con := ⟨i93_4, o93_4, fun x => L93_4 x.1.2.2.2.1 x.1.2.2.2.2.1 x.1.2.2.2.2.2.1 x.2.1.1.1 x.2.1.1.2.1 x.2.1.1.2.2.1 x.2.1.2.1.1 x.2.1.2.2.1.1⟩
theorem e93_4 (x : i93_4.E) : vround Try.prog C93_4 LO93_4 Try.f93.ntmps l93_4 i93_4 o93_4 x = T93_4 x.1.2.2.2.1 x.1.2.2.2.2.1 x.1.2.2.2.2.2.1 x.2.1.1.1 x.2.1.1.2.1 x.2.1.1.2.2.1 x.2.1.2.1.1 x.2.1.2.2.1.1 := by kernel_rfl
theorem k93_4_ok : Con.LOK Try.prog Try.f93.ntmps l93_4 k93_4 := (loop_ok C93_4_ok (loops_of (l := []) (by kernel_rfl) (show LoopsOK Try.prog Try.f93.ntmps [] LO93_4 from trivial)) i93_4 o93_4).congr fun x => (congrArg (fun T => loopF T x) (funext e93_4)).symm
noncomputable def C93 : Tab := [(57, c57), (58, c58), (61, c61), (73, c73)]
theorem C93_ok : TabOK Try.prog C93 := ⟨c57_ok, c58_ok, c61_ok, c73_ok, trivial⟩
noncomputable def LO93 : Tab := [(4, k93_4)]
noncomputable def i93 : Tm := { sl := [(0, .v (.l (.i .u8)))], bx := [], bf := [] }
noncomputable def o93 : OT := (.ret { sl := [(0, .v (.p (.i .u8) (.p (.i .u64) (.p (.i .u64) .u)))), (1, .v (.i .i64))], bx := [], bf := [] })
noncomputable def F93 (a0 : (List Int)) : Option (((Int × (Int × (Int × Unit))) × (Int × Unit)) × Unit × Unit) :=
  ((F57 a0).bind fun y528 => (bif (decide (0 < ([97, 110, 97, 49]).length)) then ((L93_4 [97, 110, 97, 49] ((([97, 110, 97, 49]).length : Nat) : Int) 0 0 0 0 0 y528.2.1.1.1).bind fun y533 => (Sum.elim (fun y534 => (some (((y534.2.1.1.1, (y534.2.1.1.2.1, (y534.2.1.1.2.2.1, ()))), y534.2.1.2.1.1, ()), (), ()))) (fun y534 => (Sum.elim (fun y535 => (some (((y535.2.2.1.1.1, (y535.2.2.1.1.2.1, (y535.2.2.1.1.2.2.1, ()))), y535.1, ()), (), ()))) (fun y535 => ((F73 y535.2.1.2.2.1.1).bind fun y536 => (Sum.elim (fun y537 => ((F58 18446744073709551615 y537.2.1.1.1).bind fun y538 => (Sum.elim (fun y539 => ((F58 18446744073709551615 y539.2.1.1.1).bind fun y540 => (Sum.elim (fun y541 => ((F61 y541.2.1.1.1).bind fun y542 => (Sum.elim (fun y543 => (some (((y537.1.1, (y539.1.1, (y541.1.1, ()))), 0, ()), (), ()))) (fun y543 => (some (((y537.1.1, (y539.1.1, (y541.1.1, ()))), y543.1, ()), (), ()))) y542))) (fun y541 => (some (((y535.2.1.1.1, (y535.2.1.1.2.1, (y535.2.1.1.2.2.1, ()))), y541.1, ()), (), ()))) y540))) (fun y539 => (some (((y535.2.1.1.1, (y535.2.1.1.2.1, (y535.2.1.1.2.2.1, ()))), y539.1, ()), (), ()))) y538))) (fun y537 => (some (((y535.2.1.1.1, (y535.2.1.1.2.1, (y535.2.1.1.2.2.1, ()))), y537.1, ()), (), ()))) y536))) y534)) y533)) else none))
noncomputable def c93 : Con := ⟨i93, o93, fun x => F93 x.1.1⟩
theorem e93 (x : i93.E) : vfn Try.prog C93 LO93 Try.f93 b93 i93 o93 x = F93 x.1.1 := by kernel_rfl
theorem c93_ok : Con.OK Try.prog 93 c93 := (fn_ok C93_ok (fun _ => rfl) Try.func93 body93 (loops_of (l := [l93_4]) (by kernel_rfl) (show LoopsOK Try.prog Try.f93.ntmps [l93_4] LO93 from ⟨k93_4_ok, trivial⟩)) i93 o93).congr fun x => (e93 x).symm
noncomputable def l94_3 : Code := (.seq (.seq (.region 3 (regOf Try.f94 3) false) (.cond (.tmp 15) .skip (.exit 0))) (.block 1 (.seq (.region 4 (regOf Try.f94 4) false) (.seq (.seq (.region 5 (regOf Try.f94 5) false) (.cond (.tmp 24) (.seq (.region 6 (regOf Try.f94 6) false) .ret) .skip)) (.region 7 (regOf Try.f94 7) false)))))
noncomputable def b94 : Code := (.seq (.region 0 (regOf Try.f94 0) false) (.seq (.region 1 (regOf Try.f94 1) false) (.seq (.region 2 (regOf Try.f94 2) false) (.seq (.block 0 (.loop l94_3)) (.seq (.region 8 (regOf Try.f94 8) false) .ret)))))
theorem body94 : Try.f94.body = some b94 := by kernel_rfl
noncomputable def C94_3 : Tab := [(37, c37)]
theorem C94_3_ok : TabOK Try.prog C94_3 := ⟨c37_ok, trivial⟩
noncomputable def LO94_3 : Tab := []
noncomputable def i94_3 : Tm := { sl := [(0, .v (.l (.i .u8))), (1, .v (.i .i64)), (7, .o 0), (8, .v (.l (.i .u8)))], bx := [], bf := [(.l (.i .u8))] }
noncomputable def o94_3 : OT := (.two (.ret { sl := [(4, .o 0), (5, .v (.i .i64)), (6, .v (.i .i64))], bx := [], bf := [(.l (.i .u8))] }) (.exit 0 { sl := [(7, .o 0)], bx := [], bf := [(.l (.i .u8))] }))
noncomputable def T94_3 (a0 : (List Int)) (a1 : Int) (a8 : (List Int)) (q0 : (List (List Int))) : Option ((((List Int) × (Int × (Unit × ((List Int) × Unit)))) × Unit × ((List (List Int)) × Unit)) ⊕ (((Unit × (Int × (Int × Unit))) × Unit × ((List (List Int)) × Unit)) ⊕ ((Unit × Unit) × Unit × ((List (List Int)) × Unit)))) :=
  (bif (decide (((((a8).length : Nat) : Int) : Int) > 0)) then ((F37 a8 a1).bind fun y545 => (bif ((y545.1.2.2.1 : Int) != 0) then (some (.inr (.inl (((), (IntKind.wrap .i64 ((((a0).length : Nat) : Int) - (((a8).length : Nat) : Int))), y545.1.2.2.1, ()), (), (q0, ()))))) else (bif (decide ((q0).length + ([y545.1.1]).length < lim)) then (some (.inl ((a0, a1, (), y545.1.2.1, ()), (), ((q0 ++ [y545.1.1]), ())))) else none))) else (some (.inr (.inr (((), ()), (), (q0, ()))))))
noncomputable def L94_3 (a0 : (List Int)) (a1 : Int) (a8 : (List Int)) (q0 : (List (List Int))) : Option (((Unit × (Int × (Int × Unit))) × Unit × ((List (List Int)) × Unit)) ⊕ ((Unit × Unit) × Unit × ((List (List Int)) × Unit))) := loopF (fun x : (((List Int) × (Int × (Unit × ((List Int) × Unit)))) × Unit × ((List (List Int)) × Unit)) => T94_3 x.1.1 x.1.2.1 x.1.2.2.2.1 x.2.2.1) ((a0, a1, (), a8, ()), (), (q0, ()))
theorem L94_3_eq (a0 : (List Int)) (a1 : Int) (a8 : (List Int)) (q0 : (List (List Int))) : L94_3 a0 a1 a8 q0 = (T94_3 a0 a1 a8 q0).bind (Sum.elim (fun x => L94_3 x.1.1 x.1.2.1 x.1.2.2.2.1 x.2.2.1) some) := loopF_eq _ _
noncomputable def k94_3 : Con := ⟨i94_3, o94_3, fun x => L94_3 x.1.1 x.1.2.1 x.1.2.2.2.1 x.2.2.1⟩
theorem e94_3 (x : i94_3.E) : vround Try.prog C94_3 LO94_3 Try.f94.ntmps l94_3 i94_3 o94_3 x = T94_3 x.1.1 x.1.2.1 x.1.2.2.2.1 x.2.2.1 := by kernel_rfl
theorem k94_3_ok : Con.LOK Try.prog Try.f94.ntmps l94_3 k94_3 := (loop_ok C94_3_ok (loops_of (l := []) (by kernel_rfl) (show LoopsOK Try.prog Try.f94.ntmps [] LO94_3 from trivial)) i94_3 o94_3).congr fun x => (congrArg (fun T => loopF T x) (funext e94_3)).symm
noncomputable def C94 : Tab := [(37, c37)]
theorem C94_ok : TabOK Try.prog C94 := ⟨c37_ok, trivial⟩
noncomputable def LO94 : Tab := [(3, k94_3)]
noncomputable def i94 : Tm := { sl := [(0, .v (.l (.i .u8))), (1, .v (.i .i64))], bx := [], bf := [] }
noncomputable def o94 : OT := (.ret { sl := [(0, .v (.l (.l (.i .u8)))), (1, .v (.i .i64)), (2, .v (.i .i64))], bx := [], bf := [] })
noncomputable def F94 (a0 : (List Int)) (a1 : Int) : Option (((List (List Int)) × (Int × (Int × Unit))) × Unit × Unit) :=
  ((L94_3 a0 a1 a0 ([] : List (List Int))).bind fun y546 => (Sum.elim (fun y547 => (some ((y547.2.2.1, y547.1.2.1, y547.1.2.2.1, ()), (), ()))) (fun y547 => (some ((y547.2.2.1, (((a0).length : Nat) : Int), 0, ()), (), ()))) y546))
noncomputable def c94 : Con := ⟨i94, o94, fun x => F94 x.1.1 x.1.2.1⟩
theorem e94 (x : i94.E) : vfn Try.prog C94 LO94 Try.f94 b94 i94 o94 x = F94 x.1.1 x.1.2.1 := by kernel_rfl
theorem c94_ok : Con.OK Try.prog 94 c94 := (fn_ok C94_ok (fun _ => rfl) Try.func94 body94 (loops_of (l := [l94_3]) (by kernel_rfl) (show LoopsOK Try.prog Try.f94.ntmps [l94_3] LO94 from ⟨k94_3_ok, trivial⟩)) i94 o94).congr fun x => (e94 x).symm
noncomputable def b78 : Code := (.seq (.region 0 (regOf Try.f78 0) false) (.seq (.region 1 (regOf Try.f78 1) false) (.seq (.seq (.region 2 (regOf Try.f78 2) false) (.cond (.tmp 18) (.seq (.region 3 (regOf Try.f78 3) false) .ret) .skip)) (.seq (.region 4 (regOf Try.f78 4) false) (.seq (.seq (.region 5 (regOf Try.f78 5) false) (.cond (.tmp 27) (.seq (.region 6 (regOf Try.f78 6) false) .ret) .skip)) (.seq (.region 7 (regOf Try.f78 7) false) (.seq (.region 8 (regOf Try.f78 8) false) .ret)))))))
theorem body78 : Try.f78.body = some b78 := by kernel_rfl
noncomputable def C78 : Tab := [(37, c37), (93, c93), (94, c94)]
theorem C78_ok : TabOK Try.prog C78 := ⟨c37_ok, c93_ok, c94_ok, trivial⟩
noncomputable def LO78 : Tab := []
noncomputable def i78 : Tm := { sl := [(0, .v (.l (.i .u8)))], bx := [], bf := [] }
noncomputable def o78 : OT := (.ret { sl := [(0, .v tDSh), (1, .v (.i .i64))], bx := [], bf := [] })
noncomputable def F78 (a0 : (List Int)) : Option ((DSh × (Int × Unit)) × Unit × Unit) :=
  ((F37 a0 2097152).bind fun y548 => (bif ((y548.1.2.2.1 : Int) != 0) then (some ((((0, (0, (0, ()))), (([] : List (List Int)), (0, (0, ())))), y548.1.2.2.1, ()), (), ())) else ((F93 y548.1.1).bind fun y549 => (bif ((y549.1.2.1 : Int) != 0) then (some ((((0, (0, (0, ()))), (([] : List (List Int)), (0, (0, ())))), y549.1.2.1, ()), (), ())) else ((F94 y548.1.2.1 2097152).bind fun y550 => (some ((((y549.1.1.1, (y549.1.1.2.1, (y549.1.1.2.2.1, ()))), (y550.1.1, ((IntKind.wrap .i64 ((IntKind.wrap .i64 ((((a0).length : Nat) : Int) - (((y548.1.2.1).length : Nat) : Int))) + y550.1.2.1)), (y550.1.2.2.1, ())))), 0, ()), (), ())))))))
noncomputable def c78 : Con := ⟨i78, o78, fun x => F78 x.1.1⟩
theorem e78 (x : i78.E) : vfn Try.prog C78 LO78 Try.f78 b78 i78 o78 x = F78 x.1.1 := by kernel_rfl
theorem c78_ok : Con.OK Try.prog 78 c78 := (fn_ok C78_ok (fun _ => rfl) Try.func78 body78 (loops_of (l := []) (by kernel_rfl) (show LoopsOK Try.prog Try.f78.ntmps [] LO78 from trivial)) i78 o78).congr fun x => (e78 x).symm
noncomputable def b46d : Code := (.seq (.region 0 (regOf Try.f46 0) false) (.seq (.region 1 (regOf Try.f46 1) false) (.seq (.seq (.region 2 (regOf Try.f46 2) false) (.cond (.tmp 15) (.seq (.region 3 (regOf Try.f46 3) false) .ret) .skip)) (.seq (.region 4 (regOf Try.f46 4) false) .ret))))
theorem body46d : Try.f46.body = some b46d := by kernel_rfl
noncomputable def C46d : Tab := [(77, c77d), (78, c78)]
theorem C46d_ok : TabOK Try.prog C46d := ⟨c77d_ok, c78_ok, trivial⟩
noncomputable def LO46d : Tab := []
noncomputable def i46d : Tm := { sl := [(0, .p 0 0), (1, .kt bNM)], bx := [pD, [.mx 1 [(bNM, 0, 2)]], [.v (.l (.i .u8)), .v (.i .i64)]], bf := [] }
noncomputable def o46d : OT := (.ret { sl := [(0, .v tDSh), (1, .v (.i .i64))], bx := [pD, [.mx 1 [(bNM, 0, 2)]], [.v (.l (.i .u8)), .v (.i .i64)]], bf := [] })
noncomputable def F46d (b0_1 b0_2 b0_3 b0_4 : Int) (b0_5 : Bool) (b2_0 : (List Int)) (b2_1 : Int) : Option ((DSh × (Int × Unit)) × DS2 × Unit) :=
  ((F77d b0_1 b0_2 b0_3 b0_4 b0_5 b2_0 b2_1).bind fun y551 => (bif ((y551.1.2.1 : Int) != 0) then (some ((((0, (0, (0, ()))), (([] : List (List Int)), (0, (0, ())))), y551.1.2.1, ()), (((), y551.2.1.1.2.1, y551.2.1.1.2.2.1, y551.2.1.1.2.2.2.1, y551.2.1.1.2.2.2.2.1, y551.2.1.1.2.2.2.2.2.1, ()), ((), ()), (y551.2.1.2.2.1.1, y551.2.1.2.2.1.2.1, ()), ()), ())) else ((F78 y551.1.1).bind fun y552 => (some ((((y552.1.1.1.1, (y552.1.1.1.2.1, (y552.1.1.1.2.2.1, ()))), (y552.1.1.2.1, (y552.1.1.2.2.1, (y552.1.1.2.2.2.1, ())))), y552.1.2.1, ()), (((), y551.2.1.1.2.1, y551.2.1.1.2.2.1, y551.2.1.1.2.2.2.1, y551.2.1.1.2.2.2.2.1, y551.2.1.1.2.2.2.2.2.1, ()), ((), ()), (y551.2.1.2.2.1.1, y551.2.1.2.2.1.2.1, ()), ()), ())))))
noncomputable def c46d : Con := ⟨i46d, o46d, fun x => F46d x.2.1.1.2.1 x.2.1.1.2.2.1 x.2.1.1.2.2.2.1 x.2.1.1.2.2.2.2.1 x.2.1.1.2.2.2.2.2.1 x.2.1.2.2.1.1 x.2.1.2.2.1.2.1⟩
theorem e46d (x : i46d.E) : vfn Try.prog C46d LO46d Try.f46 b46d i46d o46d x = F46d x.2.1.1.2.1 x.2.1.1.2.2.1 x.2.1.1.2.2.2.1 x.2.1.1.2.2.2.2.1 x.2.1.1.2.2.2.2.2.1 x.2.1.2.2.1.1 x.2.1.2.2.1.2.1 := by kernel_rfl
theorem c46d_ok : Con.OK Try.prog 46 c46d := (fn_ok C46d_ok (fun _ => rfl) Try.func46 body46d (loops_of (l := []) (by kernel_rfl) (show LoopsOK Try.prog Try.f46.ntmps [] LO46d from trivial)) i46d o46d).congr fun x => (e46d x).symm
noncomputable def b46n : Code := (.seq (.region 0 (regOf Try.f46 0) false) (.seq (.region 1 (regOf Try.f46 1) false) (.seq (.seq (.region 2 (regOf Try.f46 2) false) (.cond (.tmp 15) (.seq (.region 3 (regOf Try.f46 3) false) .ret) .skip)) (.seq (.region 4 (regOf Try.f46 4) false) .ret))))
theorem body46n : Try.f46.body = some b46n := by kernel_rfl
noncomputable def C46n : Tab := [(77, c77n), (78, c78)]
theorem C46n_ok : TabOK Try.prog C46n := ⟨c77n_ok, c78_ok, trivial⟩
noncomputable def LO46n : Tab := []
noncomputable def i46n : Tm := { sl := [(0, .p 0 0), (1, .kt bNM)], bx := [pD, [.mx 2 [(bNM, 1, 2)]], [.v (.l (.i .u8)), .v (.i .i64)]], bf := [] }
noncomputable def o46n : OT := (.ret { sl := [(0, .v tDSh), (1, .v (.i .i64))], bx := [pD, [.mx 2 [(bNM, 1, 2)]], [.v (.l (.i .u8)), .v (.i .i64)]], bf := [] })
noncomputable def F46n (b0_1 b0_2 b0_3 b0_4 : Int) (b0_5 : Bool) (b2_0 : (List Int)) (b2_1 : Int) : Option ((DSh × (Int × Unit)) × DS2 × Unit) :=
  ((F77n b0_1 b0_2 b0_3 b0_4 b0_5 b2_0 b2_1).bind fun y553 => (bif ((y553.1.2.1 : Int) != 0) then (some ((((0, (0, (0, ()))), (([] : List (List Int)), (0, (0, ())))), y553.1.2.1, ()), (((), y553.2.1.1.2.1, y553.2.1.1.2.2.1, y553.2.1.1.2.2.2.1, y553.2.1.1.2.2.2.2.1, y553.2.1.1.2.2.2.2.2.1, ()), ((), ()), (y553.2.1.2.2.1.1, y553.2.1.2.2.1.2.1, ()), ()), ())) else ((F78 y553.1.1).bind fun y554 => (some ((((y554.1.1.1.1, (y554.1.1.1.2.1, (y554.1.1.1.2.2.1, ()))), (y554.1.1.2.1, (y554.1.1.2.2.1, (y554.1.1.2.2.2.1, ())))), y554.1.2.1, ()), (((), y553.2.1.1.2.1, y553.2.1.1.2.2.1, y553.2.1.1.2.2.2.1, y553.2.1.1.2.2.2.2.1, y553.2.1.1.2.2.2.2.2.1, ()), ((), ()), (y553.2.1.2.2.1.1, y553.2.1.2.2.1.2.1, ()), ()), ())))))
noncomputable def c46n : Con := ⟨i46n, o46n, fun x => F46n x.2.1.1.2.1 x.2.1.1.2.2.1 x.2.1.1.2.2.2.1 x.2.1.1.2.2.2.2.1 x.2.1.1.2.2.2.2.2.1 x.2.1.2.2.1.1 x.2.1.2.2.1.2.1⟩
theorem e46n (x : i46n.E) : vfn Try.prog C46n LO46n Try.f46 b46n i46n o46n x = F46n x.2.1.1.2.1 x.2.1.1.2.2.1 x.2.1.1.2.2.2.1 x.2.1.1.2.2.2.2.1 x.2.1.1.2.2.2.2.2.1 x.2.1.2.2.1.1 x.2.1.2.2.1.2.1 := by kernel_rfl
theorem c46n_ok : Con.OK Try.prog 46 c46n := (fn_ok C46n_ok (fun _ => rfl) Try.func46 body46n (loops_of (l := []) (by kernel_rfl) (show LoopsOK Try.prog Try.f46.ntmps [] LO46n from trivial)) i46n o46n).congr fun x => (e46n x).symm
noncomputable def b19d : Code := (.seq (.region 0 (regOf Try.f19 0) false) (.seq (.region 1 (regOf Try.f19 1) false) (.seq (.block 0 (.seq (.region 2 (regOf Try.f19 2) false) (.cond (.tmp 12) (.seq (.region 3 (regOf Try.f19 3) false) .ret) (.seq (.region 4 (regOf Try.f19 4) false) (.cond (.tmp 21) (.seq (.region 5 (regOf Try.f19 5) false) .ret) .skip))))) (.seq (.region 6 (regOf Try.f19 6) false) (.seq (.seq (.region 7 (regOf Try.f19 7) false) (.cond (.tmp 68) (.seq (.region 8 (regOf Try.f19 8) false) .ret) .skip)) (.seq (.region 9 (regOf Try.f19 9) false) .ret))))))
theorem body19d : Try.f19.body = some b19d := by kernel_rfl
noncomputable def C19d : Tab := [(29, c29), (46, c46d)]
theorem C19d_ok : TabOK Try.prog C19d := ⟨c29_ok, c46d_ok, trivial⟩
noncomputable def LO19d : Tab := []
noncomputable def i19d : Tm := { sl := [(0, .p 0 0)], bx := [pD, [.mx 1 [(bNM, 0, 2)]], [.v (.l (.i .u8)), .v (.i .i64)]], bf := [] }
noncomputable def o19d : OT := (.ret { sl := [(0, .v tDMf), (1, .v (.i .i64))], bx := [pD, [.mx 1 [(bNM, 0, 2)]], [.v (.l (.i .u8)), .v (.i .i64)]], bf := [] })
noncomputable def F19d (b0_1 b0_2 b0_3 b0_4 : Int) (b0_5 : Bool) (b2_0 : (List Int)) (b2_1 : Int) : Option ((DMf × (Int × Unit)) × DS2 × Unit) :=
  ((F46d b0_1 b0_2 b0_3 b0_4 b0_5 b2_0 b2_1).bind fun y555 => (bif ((y555.1.2.1 : Int) == 2) then (some (((0, (0, (([] : List Int), (0, (ByteArray.empty, ()))))), y555.1.2.1, ()), (((), y555.2.1.1.2.1, y555.2.1.1.2.2.1, y555.2.1.1.2.2.2.1, y555.2.1.1.2.2.2.2.1, y555.2.1.1.2.2.2.2.2.1, ()), ((), ()), (y555.2.1.2.2.1.1, y555.2.1.2.2.1.2.1, ()), ()), ())) else (bif ((y555.1.2.1 : Int) == 7) then (some (((0, (0, (([] : List Int), (0, (ByteArray.empty, ()))))), y555.1.2.1, ()), (((), y555.2.1.1.2.1, y555.2.1.1.2.2.1, y555.2.1.1.2.2.2.1, y555.2.1.1.2.2.2.2.1, y555.2.1.1.2.2.2.2.2.1, ()), ((), ()), (y555.2.1.2.2.1.1, y555.2.1.2.2.1.2.1, ()), ()), ())) else (bif ((y555.1.2.1 : Int) != 0) then (some (((0, (0, (([] : List Int), (0, (ByteArray.empty, ()))))), 4, ()), (((), y555.2.1.1.2.1, y555.2.1.1.2.2.1, y555.2.1.1.2.2.2.1, y555.2.1.1.2.2.2.2.1, y555.2.1.1.2.2.2.2.2.1, ()), ((), ()), (y555.2.1.2.2.1.1, y555.2.1.2.2.1.2.1, ()), ()), ())) else (bif ((y555.1.1.2.2.2.1 : Int) != 0) then (some (((0, (0, (([] : List Int), (0, (ByteArray.empty, ()))))), 4, ()), (((), y555.2.1.1.2.1, y555.2.1.1.2.2.1, y555.2.1.1.2.2.2.1, y555.2.1.1.2.2.2.2.1, y555.2.1.1.2.2.2.2.2.1, ()), ((), ()), (y555.2.1.2.2.1.1, y555.2.1.2.2.1.2.1, ()), ()), ())) else (bif ((y555.1.1.1.1 : Int) != 109) then (some (((0, (0, (([] : List Int), (0, (ByteArray.empty, ()))))), 4, ()), (((), y555.2.1.1.2.1, y555.2.1.1.2.2.1, y555.2.1.1.2.2.2.1, y555.2.1.1.2.2.2.2.1, y555.2.1.1.2.2.2.2.2.1, ()), ((), ()), (y555.2.1.2.2.1.1, y555.2.1.2.2.1.2.1, ()), ()), ())) else (bif (((((y555.1.1.2.1).length : Nat) : Int) : Int) != 1) then (some (((0, (0, (([] : List Int), (0, (ByteArray.empty, ()))))), 4, ()), (((), y555.2.1.1.2.1, y555.2.1.1.2.2.1, y555.2.1.1.2.2.2.1, y555.2.1.1.2.2.2.2.1, y555.2.1.1.2.2.2.2.2.1, ()), ((), ()), (y555.2.1.2.2.1.1, y555.2.1.2.2.1.2.1, ()), ()), ())) else (bif (decide (0 ≤ (0 : Int) ∧ (0 : Int) < (((y555.1.1.2.1).length : Nat) : Int))) then ((F29 ((y555.1.1.2.1).getD (0 : Int).toNat [])).bind fun y556 => (bif ((y556.1.2.1 : Int) != 0) then (some (((0, (0, (([] : List Int), (0, (ByteArray.empty, ()))))), 4, ()), (((), y555.2.1.1.2.1, y555.2.1.1.2.2.1, y555.2.1.1.2.2.2.1, y555.2.1.1.2.2.2.2.1, y555.2.1.1.2.2.2.2.2.1, ()), ((), ()), (y555.2.1.2.2.1.1, y555.2.1.2.2.1.2.1, ()), ()), ())) else (bif (((IntKind.wrap .u64 y556.1.1.1) : Int) != y555.1.1.1.2.1) then (some (((0, (0, (([] : List Int), (0, (ByteArray.empty, ()))))), 4, ()), (((), y555.2.1.1.2.1, y555.2.1.1.2.2.1, y555.2.1.1.2.2.2.1, y555.2.1.1.2.2.2.2.1, y555.2.1.1.2.2.2.2.2.1, ()), ((), ()), (y555.2.1.2.2.1.1, y555.2.1.2.2.1.2.1, ()), ()), ())) else (bif ((y556.1.1.2.1 : Int) != y555.1.1.1.2.2.1) then (some (((0, (0, (([] : List Int), (0, (ByteArray.empty, ()))))), 4, ()), (((), y555.2.1.1.2.1, y555.2.1.1.2.2.1, y555.2.1.1.2.2.2.1, y555.2.1.1.2.2.2.2.1, y555.2.1.1.2.2.2.2.2.1, ()), ((), ()), (y555.2.1.2.2.1.1, y555.2.1.2.2.1.2.1, ()), ()), ())) else (some (((y556.1.1.1, (y556.1.1.2.1, (y556.1.1.2.2.1, (y556.1.1.2.2.2.1, (y556.1.1.2.2.2.2.1, ()))))), 0, ()), (((), y555.2.1.1.2.1, y555.2.1.1.2.2.1, y555.2.1.1.2.2.2.1, y555.2.1.1.2.2.2.2.1, y555.2.1.1.2.2.2.2.2.1, ()), ((), ()), (y555.2.1.2.2.1.1, y555.2.1.2.2.1.2.1, ()), ()), ())))))) else none))))))))
noncomputable def c19d : Con := ⟨i19d, o19d, fun x => F19d x.2.1.1.2.1 x.2.1.1.2.2.1 x.2.1.1.2.2.2.1 x.2.1.1.2.2.2.2.1 x.2.1.1.2.2.2.2.2.1 x.2.1.2.2.1.1 x.2.1.2.2.1.2.1⟩
theorem e19d (x : i19d.E) : vfn Try.prog C19d LO19d Try.f19 b19d i19d o19d x = F19d x.2.1.1.2.1 x.2.1.1.2.2.1 x.2.1.1.2.2.2.1 x.2.1.1.2.2.2.2.1 x.2.1.1.2.2.2.2.2.1 x.2.1.2.2.1.1 x.2.1.2.2.1.2.1 := by kernel_rfl
theorem c19d_ok : Con.OK Try.prog 19 c19d := (fn_ok C19d_ok (fun _ => rfl) Try.func19 body19d (loops_of (l := []) (by kernel_rfl) (show LoopsOK Try.prog Try.f19.ntmps [] LO19d from trivial)) i19d o19d).congr fun x => (e19d x).symm
noncomputable def b19n : Code := (.seq (.region 0 (regOf Try.f19 0) false) (.seq (.region 1 (regOf Try.f19 1) false) (.seq (.block 0 (.seq (.region 2 (regOf Try.f19 2) false) (.cond (.tmp 12) (.seq (.region 3 (regOf Try.f19 3) false) .ret) (.seq (.region 4 (regOf Try.f19 4) false) (.cond (.tmp 21) (.seq (.region 5 (regOf Try.f19 5) false) .ret) .skip))))) (.seq (.region 6 (regOf Try.f19 6) false) (.seq (.seq (.region 7 (regOf Try.f19 7) false) (.cond (.tmp 68) (.seq (.region 8 (regOf Try.f19 8) false) .ret) .skip)) (.seq (.region 9 (regOf Try.f19 9) false) .ret))))))
theorem body19n : Try.f19.body = some b19n := by kernel_rfl
noncomputable def C19n : Tab := [(29, c29), (46, c46n)]
theorem C19n_ok : TabOK Try.prog C19n := ⟨c29_ok, c46n_ok, trivial⟩
noncomputable def LO19n : Tab := []
noncomputable def i19n : Tm := { sl := [(0, .p 0 0)], bx := [pD, [.mx 2 [(bNM, 1, 2)]], [.v (.l (.i .u8)), .v (.i .i64)]], bf := [] }
noncomputable def o19n : OT := (.ret { sl := [(0, .v tDMf), (1, .v (.i .i64))], bx := [pD, [.mx 2 [(bNM, 1, 2)]], [.v (.l (.i .u8)), .v (.i .i64)]], bf := [] })
noncomputable def F19n (b0_1 b0_2 b0_3 b0_4 : Int) (b0_5 : Bool) (b2_0 : (List Int)) (b2_1 : Int) : Option ((DMf × (Int × Unit)) × DS2 × Unit) :=
  ((F46n b0_1 b0_2 b0_3 b0_4 b0_5 b2_0 b2_1).bind fun y557 => (bif ((y557.1.2.1 : Int) == 2) then (some (((0, (0, (([] : List Int), (0, (ByteArray.empty, ()))))), y557.1.2.1, ()), (((), y557.2.1.1.2.1, y557.2.1.1.2.2.1, y557.2.1.1.2.2.2.1, y557.2.1.1.2.2.2.2.1, y557.2.1.1.2.2.2.2.2.1, ()), ((), ()), (y557.2.1.2.2.1.1, y557.2.1.2.2.1.2.1, ()), ()), ())) else (bif ((y557.1.2.1 : Int) == 7) then (some (((0, (0, (([] : List Int), (0, (ByteArray.empty, ()))))), y557.1.2.1, ()), (((), y557.2.1.1.2.1, y557.2.1.1.2.2.1, y557.2.1.1.2.2.2.1, y557.2.1.1.2.2.2.2.1, y557.2.1.1.2.2.2.2.2.1, ()), ((), ()), (y557.2.1.2.2.1.1, y557.2.1.2.2.1.2.1, ()), ()), ())) else (bif ((y557.1.2.1 : Int) != 0) then (some (((0, (0, (([] : List Int), (0, (ByteArray.empty, ()))))), 4, ()), (((), y557.2.1.1.2.1, y557.2.1.1.2.2.1, y557.2.1.1.2.2.2.1, y557.2.1.1.2.2.2.2.1, y557.2.1.1.2.2.2.2.2.1, ()), ((), ()), (y557.2.1.2.2.1.1, y557.2.1.2.2.1.2.1, ()), ()), ())) else (bif ((y557.1.1.2.2.2.1 : Int) != 0) then (some (((0, (0, (([] : List Int), (0, (ByteArray.empty, ()))))), 4, ()), (((), y557.2.1.1.2.1, y557.2.1.1.2.2.1, y557.2.1.1.2.2.2.1, y557.2.1.1.2.2.2.2.1, y557.2.1.1.2.2.2.2.2.1, ()), ((), ()), (y557.2.1.2.2.1.1, y557.2.1.2.2.1.2.1, ()), ()), ())) else (bif ((y557.1.1.1.1 : Int) != 109) then (some (((0, (0, (([] : List Int), (0, (ByteArray.empty, ()))))), 4, ()), (((), y557.2.1.1.2.1, y557.2.1.1.2.2.1, y557.2.1.1.2.2.2.1, y557.2.1.1.2.2.2.2.1, y557.2.1.1.2.2.2.2.2.1, ()), ((), ()), (y557.2.1.2.2.1.1, y557.2.1.2.2.1.2.1, ()), ()), ())) else (bif (((((y557.1.1.2.1).length : Nat) : Int) : Int) != 1) then (some (((0, (0, (([] : List Int), (0, (ByteArray.empty, ()))))), 4, ()), (((), y557.2.1.1.2.1, y557.2.1.1.2.2.1, y557.2.1.1.2.2.2.1, y557.2.1.1.2.2.2.2.1, y557.2.1.1.2.2.2.2.2.1, ()), ((), ()), (y557.2.1.2.2.1.1, y557.2.1.2.2.1.2.1, ()), ()), ())) else (bif (decide (0 ≤ (0 : Int) ∧ (0 : Int) < (((y557.1.1.2.1).length : Nat) : Int))) then ((F29 ((y557.1.1.2.1).getD (0 : Int).toNat [])).bind fun y558 => (bif ((y558.1.2.1 : Int) != 0) then (some (((0, (0, (([] : List Int), (0, (ByteArray.empty, ()))))), 4, ()), (((), y557.2.1.1.2.1, y557.2.1.1.2.2.1, y557.2.1.1.2.2.2.1, y557.2.1.1.2.2.2.2.1, y557.2.1.1.2.2.2.2.2.1, ()), ((), ()), (y557.2.1.2.2.1.1, y557.2.1.2.2.1.2.1, ()), ()), ())) else (bif (((IntKind.wrap .u64 y558.1.1.1) : Int) != y557.1.1.1.2.1) then (some (((0, (0, (([] : List Int), (0, (ByteArray.empty, ()))))), 4, ()), (((), y557.2.1.1.2.1, y557.2.1.1.2.2.1, y557.2.1.1.2.2.2.1, y557.2.1.1.2.2.2.2.1, y557.2.1.1.2.2.2.2.2.1, ()), ((), ()), (y557.2.1.2.2.1.1, y557.2.1.2.2.1.2.1, ()), ()), ())) else (bif ((y558.1.1.2.1 : Int) != y557.1.1.1.2.2.1) then (some (((0, (0, (([] : List Int), (0, (ByteArray.empty, ()))))), 4, ()), (((), y557.2.1.1.2.1, y557.2.1.1.2.2.1, y557.2.1.1.2.2.2.1, y557.2.1.1.2.2.2.2.1, y557.2.1.1.2.2.2.2.2.1, ()), ((), ()), (y557.2.1.2.2.1.1, y557.2.1.2.2.1.2.1, ()), ()), ())) else (some (((y558.1.1.1, (y558.1.1.2.1, (y558.1.1.2.2.1, (y558.1.1.2.2.2.1, (y558.1.1.2.2.2.2.1, ()))))), 0, ()), (((), y557.2.1.1.2.1, y557.2.1.1.2.2.1, y557.2.1.1.2.2.2.1, y557.2.1.1.2.2.2.2.1, y557.2.1.1.2.2.2.2.2.1, ()), ((), ()), (y557.2.1.2.2.1.1, y557.2.1.2.2.1.2.1, ()), ()), ())))))) else none))))))))
noncomputable def c19n : Con := ⟨i19n, o19n, fun x => F19n x.2.1.1.2.1 x.2.1.1.2.2.1 x.2.1.1.2.2.2.1 x.2.1.1.2.2.2.2.1 x.2.1.1.2.2.2.2.2.1 x.2.1.2.2.1.1 x.2.1.2.2.1.2.1⟩
theorem e19n (x : i19n.E) : vfn Try.prog C19n LO19n Try.f19 b19n i19n o19n x = F19n x.2.1.1.2.1 x.2.1.1.2.2.1 x.2.1.1.2.2.2.1 x.2.1.1.2.2.2.2.1 x.2.1.1.2.2.2.2.2.1 x.2.1.2.2.1.1 x.2.1.2.2.1.2.1 := by kernel_rfl
theorem c19n_ok : Con.OK Try.prog 19 c19n := (fn_ok C19n_ok (fun _ => rfl) Try.func19 body19n (loops_of (l := []) (by kernel_rfl) (show LoopsOK Try.prog Try.f19.ntmps [] LO19n from trivial)) i19n o19n).congr fun x => (e19n x).symm
noncomputable def b5 : Code := (.seq (.region 0 (regOf Try.f5 0) false) (.seq (.seq (.region 1 (regOf Try.f5 1) false) (.cond (.tmp 37) (.seq (.region 2 (regOf Try.f5 2) false) .ret) .skip)) (.seq (.region 3 (regOf Try.f5 3) false) (.seq (.region 4 (regOf Try.f5 4) false) (.seq (.region 5 (regOf Try.f5 5) false) (.seq (.seq (.region 6 (regOf Try.f5 6) false) (.cond (.tmp 65) (.seq (.region 7 (regOf Try.f5 7) false) .ret) .skip)) (.seq (.region 8 (regOf Try.f5 8) false) (.seq (.region 9 (regOf Try.f5 9) false) (.seq (.region 10 (regOf Try.f5 10) false) (.seq (.seq (.region 11 (regOf Try.f5 11) false) (.cond (.tmp 85) (.seq (.region 12 (regOf Try.f5 12) false) .ret) .skip)) (.seq (.region 13 (regOf Try.f5 13) false) (.seq (.region 14 (regOf Try.f5 14) false) (.seq (.region 15 (regOf Try.f5 15) true) (.seq (.region 16 (regOf Try.f5 16) false) (.seq (.region 17 (regOf Try.f5 17) false) (.seq (.region 18 (regOf Try.f5 18) false) (.seq (.region 19 (regOf Try.f5 19) false) (.seq (.region 20 (regOf Try.f5 20) false) .ret))))))))))))))))))
theorem body5 : Try.f5.body = some b5 := by kernel_rfl
noncomputable def C5 : Tab := [(14, c14), (15, c15), (16, c16), (17, c17w), (18, c180c), (19, c19d), (19, c19n), (20, c200m), (21, c21), (22, c22n), (23, c23n)]
theorem C5_ok : TabOK Try.prog C5 := ⟨c14_ok, c15_ok, c16_ok, c17w_ok, c180c_ok, c19d_ok, c19n_ok, c200m_ok, c21_ok, c22n_ok, c23n_ok, trivial⟩
noncomputable def LO5 : Tab := []
noncomputable def i5 : Tm := { sl := [(0, .v tDMf), (1, .v (.l (.i .u8))), (2, .v (.p (.i .u8) (.p (.i .u64) (.p (.i .u64) .u))))], bx := [], bf := [] }
noncomputable def o5 : OT := (.ret { sl := [(0, .v .b)], bx := [], bf := [] })
noncomputable def P5 (a2 : (Int × (Int × (Int × Unit)))) : Option ((Bool × Unit) × Unit × Unit) :=
  ((F15 65536).bind fun y0 => ((F21 (3, (4, (([] : List Int), (0, (ByteArray.empty, ())))))).bind fun y1 => ((F200m (a2.1, (a2.2.1, (a2.2.2.1, ()))) [y1.2.2.1] y0.2.1.1.2.1 y0.2.1.1.2.2.1 y0.2.1.1.2.2.2.1 y0.2.1.1.2.2.2.2.1 y0.2.1.1.2.2.2.2.2.1).bind fun y2 => ((F19n y2.2.1.1.2.1 y2.2.1.1.2.2.1 y2.2.1.1.2.2.2.1 y2.2.1.1.2.2.2.2.1 y2.2.1.1.2.2.2.2.2.1 y2.2.2.1 y2.2.1.2.2.1.2.1).bind fun y3 => ((F22n 0 0 y3.2.1.1.2.1 y3.2.1.1.2.2.1 y3.2.1.1.2.2.2.1 y3.2.1.1.2.2.2.2.1 y3.2.1.1.2.2.2.2.2.1 y3.2.1.2.2.1.1 y3.2.1.2.2.1.2.1).bind fun y4 => ((F23n y4.2.1.1.2.1 y4.2.1.1.2.2.1 y4.2.1.1.2.2.2.1 y4.2.1.1.2.2.2.2.1 y4.2.1.1.2.2.2.2.2.1 y4.2.1.2.2.1.1 y4.2.1.2.2.1.2.1).bind fun y5 => ((F19n y5.2.1.1.2.1 y5.2.1.1.2.2.1 y5.2.1.1.2.2.2.1 y5.2.1.1.2.2.2.2.1 y5.2.1.1.2.2.2.2.2.1 y5.2.1.2.2.1.1 y5.2.1.2.2.1.2.1).bind fun y6 => (bif ((a2.1 : Int) == 109) then (bif ((a2.2.1 : Int) == 3) then (bif (((y3.1.2.1 : Int) == 0) == ((a2.2.2.1 : Int) == 4)) then (some ((((y6.1.2.1 : Int) == 7), ()), (), ())) else (some ((false, ()), (), ()))) else (bif (((y3.1.2.1 : Int) == 0) == false) then (some ((((y6.1.2.1 : Int) == 7), ()), (), ())) else (some ((false, ()), (), ())))) else (bif (((y3.1.2.1 : Int) == 0) == false) then (some ((((y6.1.2.1 : Int) == 7), ()), (), ())) else (some ((false, ()), (), ())))))))))))
noncomputable def R5 (a1 : (List Int)) (a2 : (Int × (Int × (Int × Unit)))) : Option ((Bool × Unit) × Unit × Unit) :=
  ((F15 65536).bind fun y0 => ((F180c a1 y0.2.1.1.2.1 y0.2.1.1.2.2.1 y0.2.1.1.2.2.2.1 y0.2.1.1.2.2.2.2.1 y0.2.1.1.2.2.2.2.2.1).bind fun y1 => ((F19d y1.2.1.1.2.1 y1.2.1.1.2.2.1 y1.2.1.1.2.2.2.1 y1.2.1.1.2.2.2.2.1 y1.2.1.1.2.2.2.2.2.1 y1.2.2.1 y1.2.1.2.2.1.2.1).bind fun y2 => (bif ((y2.1.2.1 : Int) != 0) then (bif ((y2.1.2.1 : Int) != 4) then (some ((false, ()), (), ())) else (bif ((y2.1.1.1 : Int) != 0) then (some ((false, ()), (), ())) else (P5 a2))) else (P5 a2)))))
noncomputable def F5 (a0 : DMf) (a1 : (List Int)) (a2 : (Int × (Int × (Int × Unit)))) : Option ((Bool × Unit) × Unit × Unit) :=
  ((F14).bind fun y559 => (bif (!y559.1.1) then ((F14).bind fun y560 => (some ((y560.1.1, ()), (), ()))) else (bif (decide (((((a0.2.2.1).length : Nat) : Int) : Int) > 64)) then ((F14).bind fun y561 => (some ((y561.1.1, ()), (), ()))) else (bif (decide ((((a0.2.2.2.2.1.size : Nat) : Int) : Int) > 60)) then ((F14).bind fun y562 => (some ((y562.1.1, ()), (), ()))) else (bif (decide (((((a1).length : Nat) : Int) : Int) > 300)) then ((F14).bind fun y563 => (some ((y563.1.1, ()), (), ()))) else ((F15 65536).bind fun y564 => (bif (decide ((a0.1 : Int) < 0)) then ((F17w (a0.1, (a0.2.1, (a0.2.2.1, (a0.2.2.2.1, (a0.2.2.2.2.1, ()))))) y564.2.1.1.2.1 y564.2.1.1.2.2.1 y564.2.1.1.2.2.2.1 y564.2.1.1.2.2.2.2.1 y564.2.1.1.2.2.2.2.2.1).bind fun y565 => (Sum.elim (fun y566 => (bif (!(true == ((y566.1.1 : Int) == 1))) then (some ((false, ()), (), ())) else (R5 a1 a2))) (fun y566 => (bif (!(true == ((y566.1.1 : Int) == 1))) then (some ((false, ()), (), ())) else (R5 a1 a2))) y565)) else (bif (decide ((a0.1 : Int) ≥ 64)) then ((F17w (a0.1, (a0.2.1, (a0.2.2.1, (a0.2.2.2.1, (a0.2.2.2.2.1, ()))))) y564.2.1.1.2.1 y564.2.1.1.2.2.1 y564.2.1.1.2.2.2.1 y564.2.1.1.2.2.2.2.1 y564.2.1.1.2.2.2.2.2.1).bind fun y601 => (Sum.elim (fun y602 => (bif (!(true == ((y602.1.1 : Int) == 1))) then (some ((false, ()), (), ())) else (R5 a1 a2))) (fun y602 => (bif (!(true == ((y602.1.1 : Int) == 1))) then (some ((false, ()), (), ())) else (R5 a1 a2))) y601)) else (bif (!((a0.2.2.2.2.1 : ByteArray).toList == ((⟨#[]⟩ : ByteArray) : ByteArray).toList)) then ((F16 a0.2.2.2.2.1).bind fun y637 => ((F17w (a0.1, (a0.2.1, (a0.2.2.1, (a0.2.2.2.1, (a0.2.2.2.2.1, ()))))) y564.2.1.1.2.1 y564.2.1.1.2.2.1 y564.2.1.1.2.2.2.1 y564.2.1.1.2.2.2.2.1 y564.2.1.1.2.2.2.2.2.1).bind fun y638 => (Sum.elim (fun y639 => (bif (!((!y637.1.1) == ((y639.1.1 : Int) == 1))) then (some ((false, ()), (), ())) else (R5 a1 a2))) (fun y639 => (bif (!((!y637.1.1) == ((y639.1.1 : Int) == 1))) then (some ((false, ()), (), ())) else (R5 a1 a2))) y638))) else ((F17w (a0.1, (a0.2.1, (a0.2.2.1, (a0.2.2.2.1, (a0.2.2.2.2.1, ()))))) y564.2.1.1.2.1 y564.2.1.1.2.2.1 y564.2.1.1.2.2.2.1 y564.2.1.1.2.2.2.2.1 y564.2.1.1.2.2.2.2.2.1).bind fun y674 => (Sum.elim (fun y675 => (bif (!(false == ((y675.1.1 : Int) == 1))) then (some ((false, ()), (), ())) else (R5 a1 a2))) (fun y675 => (bif (!(false == ((y675.1.1 : Int) == 1))) then (some ((false, ()), (), ())) else (R5 a1 a2))) y674)))))))))))
noncomputable def c5 : Con := ⟨i5, o5, fun x => F5 x.1.1 x.1.2.1 x.1.2.2.1⟩
theorem e5 (x : i5.E) : vfn Try.prog C5 LO5 Try.f5 b5 i5 o5 x = F5 x.1.1 x.1.2.1 x.1.2.2.1 := by kernel_rfl
theorem c5_ok : Con.OK Try.prog 5 c5 := (fn_ok C5_ok (fun _ => rfl) Try.func5 body5 (loops_of (l := []) (by kernel_rfl) (show LoopsOK Try.prog Try.f5.ntmps [] LO5 from trivial)) i5 o5).congr fun x => (e5 x).symm
end Go.IM.V
set_option linter.unusedSimpArgs false
namespace Go.IM.V
open Go Go.IM Go.Proofs
theorem nm_ok : F16 bNM = some (r1 true) := by
  rw [F16_eq, show nmd bNM = true from by decide +kernel]
theorem nn_ok : F16 bNN = some (r1 true) := by
  rw [F16_eq, show nmd bNN = true from by decide +kernel]
theorem dnew : F15 65536 = some (((), ()), (((), 65536, (-1), 0, 0, false, ()), ((), ()), ()), ()) := rfl
theorem act0 (n : Int) (h0 : 0 ≤ n) (h : n < 100) : F440 65536 (-1) 0 n false = some ((0, ()), (((), 65536, (-1), 0, n + 1, false, ()), ((), ()), ()), ()) := by
  unfold F440
  rw [show ((-1 : Int) == 0) = false from rfl, show decide ((-1 : Int) > 0) = false from rfl, w64 (n := n + 1) (by omega) (by omega)]; rfl
theorem actA (n s : Int) (q : List Int) (h0 : 0 ≤ n) (h : n < 100) : F44a 65536 (-1) 0 n false s q = some ((0, ()), (((), 65536, (-1), 0, n + 1, false, ()), ((), ()), ((), s, ()), ()), (q, ())) := by
  unfold F44a
  rw [show ((-1 : Int) == 0) = false from rfl, show decide ((-1 : Int) > 0) = false from rfl, w64 (n := n + 1) (by omega) (by omega)]; rfl
theorem rem0 : F470 65536 (-1) 0 0 false = some ((2, ()), (((), 65536, (-1), 0, 1, false, ()), ((), ()), ()), ()) := by
  unfold F470
  rw [act0 0 (by decide) (by decide)]; rfl
theorem appA {p : List Int} (h : p.length ≤ 65536) : F180a p 65536 (-1) 0 1 false = some ((0, ()), (((), 65536, (-1), 0, 2, false, ()), ((), ()), ((), 0, ()), ()), (p, ())) := by
  have e2 : F420 65536 (-1) 0 1 false = some ((65536, 0, ()), (((), 65536, (-1), 0, 1, false, ()), ((), ()), ()), ()) := rfl
  have e3 : F430 65536 (-1) 0 1 false = some ((true, ()), (((), 65536, (-1), 0, 1, false, ()), ((), ()), ()), ()) := rfl
  have e1 := act0 1 (by decide) (by decide)
  have e4 : F450a p 65536 (-1) 0 (1 + 1) false = some ((), (((), 65536, (-1), 0, 2, false, ()), ((), ()), ((), 0, ()), ()), (p, ())) := by
    unfold F450a; rw [decide_eq_true (by unfold lim; omega)]; rfl
  unfold F180a
  rw [nn_ok]
  simp only [Option.bind_some, Bool.not_true, cond_false, e1, e2, e3, bne_self_eq_false]
  rw [show IntKind.wrap .i64 (65536 - 0) = 65536 from by decide +kernel, decide_eq_false (by omega)]
  simp only [cond_false, e4, Option.bind_some]
theorem appC {p : List Int} (h : p.length ≤ 65536) : F180c p 65536 (-1) 0 0 false = some ((0, ()), (((), 65536, (-1), 0, 1, false, ()), ((), ()), ((), 0, ()), ()), (p, ())) := by
  have e2 : F420 65536 (-1) 0 0 false = some ((65536, 0, ()), (((), 65536, (-1), 0, 0, false, ()), ((), ()), ()), ()) := rfl
  have e3 : F430 65536 (-1) 0 0 false = some ((true, ()), (((), 65536, (-1), 0, 0, false, ()), ((), ()), ()), ()) := rfl
  have e1 := act0 0 (by decide) (by decide)
  have e4 : F450c p 65536 (-1) 0 (0 + 1) false = some ((), (((), 65536, (-1), 0, 1, false, ()), ((), ()), ((), 0, ()), ()), (p, ())) := by
    unfold F450c; rw [decide_eq_true (by unfold lim; omega)]; rfl
  unfold F180c
  rw [nm_ok]
  simp only [Option.bind_some, Bool.not_true, cond_false, e1, e2, e3, bne_self_eq_false]
  rw [show IntKind.wrap .i64 (65536 - 0) = 65536 from by decide +kernel, decide_eq_false (by omega)]
  simp only [cond_false, e4, Option.bind_some]
theorem syncA {p : List Int} : F23a 65536 (-1) 0 2 false 0 p = some ((0, ()), (((), 65536, (-1), 0, 3, false, ()), ((), ()), ((), ((p.length : Nat) : Int), ()), ()), (p, ())) := by
  unfold F23a
  rw [actA 2 0 p (by decide) (by decide)]
  rfl
theorem moveA {p : List Int} {s : Int} : F50am 65536 (-1) 0 3 false s p = some ((0, ()), (((), 65536, (-1), 0, 4, false, ()), ((), ()), ((), s, ()), ()), (p, ())) := by
  unfold F50am
  rw [nm_ok]
  simp only [Option.bind_some, Bool.not_true, cond_false, actA 3 s p (by decide) (by decide), bne_self_eq_false]
  rfl
def hdB (t : Int × Int × Int × Unit) : List Int := [97, 110, 97, 49] ++ [t.1] ++ dg t.2.1 ++ dg t.2.2.1
structure TOK (t : Int × Int × Int × Unit) : Prop where
  k0 : 0 ≤ t.1
  k1 : t.1 < 256
  a0 : 0 ≤ t.2.1
  a1 : t.2.1 < 18446744073709551616
  b0 : 0 ≤ t.2.2.1
  b1 : t.2.2.1 < 18446744073709551616
theorem hdB_len (t : Int × Int × Int × Unit) : (hdB t).length ≤ 25 := by
  have := dg_len t.2.1; have := dg_len t.2.2.1
  unfold hdB; simp only [List.length_append, List.length_cons, List.length_nil]; omega
theorem hdB_byte {t : Int × Int × Int × Unit} (h : TOK t) : Bys (hdB t) := by
  refine ((Bys.app ?_ ?_).app (dg_byte h.a0 h.a1)).app (dg_byte h.b0 h.b1)
  · intro x hx
    simp only [List.mem_cons, List.not_mem_nil, or_false] at hx
    rcases hx with rfl | rfl | rfl | rfl <;> decide
  · intro x hx
    simp only [List.mem_cons, List.not_mem_nil, or_false] at hx
    subst hx; exact ⟨h.k0, h.k1⟩
theorem F48_eq {t : Int × Int × Int × Unit} (h : TOK t) : F48 t = some (ro (rcd (hdB t))) := by
  have h1 := dg_len t.2.1
  unfold F48
  rw [decide_eq_true (by decide), F51_eq _ _ h.a0 h.a1 (lt_lim (by simp))]
  simp only [Option.bind_some, cond_true]
  rw [F51_eq _ _ h.b0 h.b1 (lt_lim (by simp only [List.length_append, List.length_cons, List.length_nil]; omega))]
  simp only [Option.bind_some]
  have := F49_eq (hdB t) (hdB_byte h) (by have := hdB_len t; omega)
  unfold hdB at this ⊢
  rw [this]
  rfl
theorem rcd_le (p : List Int) : (rcd p).length ≤ p.length + 14 := by rw [rcd_len]; have := dg_len p.length; omega
theorem L200_one {x q : List Int} (hx : Bys x) (hl : x.length ≤ 2000) (hq : q.length ≤ 2000) : L200m_7 [x] ((([x].length : Nat)) : Int) 0 q = some (.inr (((), ()), (), (q ++ rcd x, ()))) := by
  have hr := rcd_le x
  have e1 : L200m_7 [x] ((([x].length : Nat)) : Int) 1 (q ++ rcd x) = some (.inr (((), ()), (), (q ++ rcd x, ()))) := by
    rw [L200m_7_eq]
    unfold T200m_7
    rw [decide_eq_false (by simp)]
    rfl
  rw [L200m_7_eq]
  unfold T200m_7
  rw [decide_eq_true (show (0 : Int) < (([x].length : Nat) : Int) by simp), decide_eq_true (show 0 ≤ (0 : Int) ∧ (0 : Int) < (([x].length : Nat) : Int) by simp)]
  have e0 : [x].getD (0 : Int).toNat [] = x := rfl
  rw [e0, decide_eq_false (by omega), F49_eq x hx (by omega)]
  simp only [cond_true, cond_false, Option.bind_some]
  rw [decide_eq_true (lt_lim (by omega)), show IntKind.wrap .i64 (0 + 1) = 1 from by decide +kernel]
  simp only [cond_true, Option.bind_some, Sum.elim_inl]
  exact e1
theorem swap_eq {t : Int × Int × Int × Unit} (h : TOK t) {x : List Int} (hx : Bys x) (hl : x.length ≤ 1000) :
    F200m t [x] 65536 (-1) 0 0 false = some ((0, ()), (((), 65536, (-1), 0, 4, false, ()), ((), ()), ((), (((rcd (hdB t) ++ rcd x).length : Nat) : Int), ()), ()), (rcd (hdB t) ++ rcd x, ())) := by
  have h1 := rcd_le (hdB t); have h2 := rcd_le x; have h3 := hdB_len t
  unfold F200m
  rw [rem0]
  simp only [Option.bind_some, show ((2 : Int) != 0) = true from rfl, cond_true, bne_self_eq_false, cond_false]
  have eh : F48 (t.1, (t.2.1, (t.2.2.1, ()))) = some (ro (rcd (hdB t))) := F48_eq h
  rw [eh]
  simp only [Option.bind_some]
  rw [L200_one hx (by omega) (by omega)]
  simp only [Option.bind_some, Sum.elim_inr]
  rw [appA (p := rcd (hdB t) ++ rcd x) (by rw [List.length_append]; omega)]
  simp only [Option.bind_some, bne_self_eq_false, cond_false]
  rw [syncA]
  simp only [Option.bind_some, bne_self_eq_false, cond_false]
  rw [moveA]
  rfl
end Go.IM.V
namespace Go.IM.V
open Go Go.IM Go.Proofs
abbrev tag4 : List Int := [97, 110, 97, 49]
theorem L93_ok : ∀ (d k : Nat) (r : List Int), k + d = 4 → L93_4 tag4 4 (k : Nat) 0 0 0 0 (tag4.drop k ++ r) = some (.inr (.inr ((), ((0, 0, 0, ()), (0, ()), (r, ()), ()), ()))) := by
  intro d
  induction d with
  | zero =>
    intro k r h
    obtain rfl : k = 4 := by omega
    rw [L93_4_eq]
    unfold T93_4
    rw [decide_eq_false (by omega)]
    rfl
  | succ d ih =>
    intro k r h
    have hk : k < tag4.length := by show k < 4; omega
    rw [L93_4_eq]
    unfold T93_4
    rw [decide_eq_true (show ((k : Nat) : Int) < 4 by omega), decide_eq_true (show 0 ≤ ((k : Nat) : Int) ∧ ((k : Nat) : Int) < ((tag4.length : Nat) : Int) by omega), List.drop_eq_getElem_cons hk, F73_eq]
    have hg : tag4.getD (((k : Nat) : Int)).toNat (0 : Int) = tag4[k] := by rw [Int.toNat_natCast, List.getD_eq_getElem?_getD, List.getElem?_eq_getElem hk]; rfl
    simp only [List.cons_append, cond_true, Option.bind_some, Sum.elim_inl, hg, bne_self_eq_false, cond_false]
    rw [w64 (n := ((k : Nat) : Int) + 1) (by omega) (by omega)]
    have := ih (k + 1) r (by omega)
    exact this
theorem L93_run : ∀ (d k : Nat) (s : List Int), k + d = 4 →
    (∃ r, (∀ x ∈ r, x ∈ s) ∧ L93_4 tag4 4 (k : Nat) 0 0 0 0 s = some (.inr (.inr ((), ((0, 0, 0, ()), (0, ()), (r, ()), ()), ())))) ∨
    (∃ r, L93_4 tag4 4 (k : Nat) 0 0 0 0 s = some (.inl ((), ((0, 0, 0, ()), (4, ()), (r, ()), ()), ()))) ∨ (∃ r, L93_4 tag4 4 (k : Nat) 0 0 0 0 s = some (.inr (.inl (5, ((), ((0, 0, 0, ()), (0, ()), (r, ()), ()), ()))))) := by
  intro d
  induction d with
  | zero =>
    intro k s h
    obtain rfl : k = 4 := by omega
    refine .inl ⟨s, fun x hx => hx, ?_⟩
    rw [L93_4_eq]
    unfold T93_4
    rw [decide_eq_false (by omega)]
    rfl
  | succ d ih =>
    intro k s h
    have hk : k < tag4.length := by show k < 4; omega
    rw [L93_4_eq]
    unfold T93_4
    rw [decide_eq_true (show ((k : Nat) : Int) < 4 by omega), decide_eq_true (show 0 ≤ ((k : Nat) : Int) ∧ ((k : Nat) : Int) < ((tag4.length : Nat) : Int) by omega), F73_eq]
    cases s with
    | nil => exact .inr (.inr ⟨[], rfl⟩)
    | cons b r =>
      simp only [cond_true, Option.bind_some, Sum.elim_inl]
      cases hb : (b != tag4.getD (((k : Nat) : Int)).toNat (0 : Int)) with
      | true =>
        exact .inr (.inl ⟨r, rfl⟩)
      | false =>
        simp only [cond_false, Option.bind_some, Sum.elim_inl]
        rw [w64 (n := ((k : Nat) : Int) + 1) (by omega) (by omega)]
        rcases ih (k + 1) r (by omega) with ⟨r', h1, h2⟩ | ⟨r', h2⟩ | ⟨r', h2⟩
        · exact .inl ⟨r', fun x hx => List.mem_cons_of_mem _ (h1 x hx), h2⟩
        · exact .inr (.inl ⟨r', h2⟩)
        · exact .inr (.inr ⟨r', h2⟩)
abbrev M64 : Int := 18446744073709551615
theorem F93_hd {t : Int × Int × Int × Unit} (h : TOK t) : F93 (hdB t) = some ((t, (0, ())), (), ()) := by
  unfold F93 F57
  simp only [Option.bind_some]
  rw [decide_eq_true (by decide)]
  simp only [cond_true]
  have hL := L93_ok 4 0 ([t.1] ++ (dg t.2.1 ++ dg t.2.2.1)) rfl
  have e : hdB t = tag4.drop 0 ++ ([t.1] ++ (dg t.2.1 ++ dg t.2.2.1)) := by unfold hdB; simp only [List.append_assoc, List.drop_zero]
  rw [e]
  rw [show ((([97, 110, 97, 49]).length : Nat) : Int) = 4 from rfl]
  have hL' : L93_4 [97, 110, 97, 49] 4 0 0 0 0 0 (tag4.drop 0 ++ ([t.1] ++ (dg t.2.1 ++ dg t.2.2.1))) = _ := hL
  rw [hL']
  have e1 : tnum M64 (dg t.2.1 ++ dg t.2.2.1) = .inl (t.2.1, dg t.2.2.1) := tnum_app h.a0 h.a1 (by have := h.a1; show t.2.1 ≤ 18446744073709551615; omega) _
  have e2 : tnum M64 (dg t.2.2.1) = .inl (t.2.2.1, []) := by
    have := tnum_app (most := M64) h.b0 h.b1 (by have := h.b1; show t.2.2.1 ≤ 18446744073709551615; omega) []
    rwa [List.append_nil] at this
  simp only [Option.bind_some, Sum.elim_inr, F73_eq, List.cons_append, List.nil_append, Sum.elim_inl]
  rw [F58_eq M64 _ ((dg_byte h.a0 h.a1).app (dg_byte h.b0 h.b1)), e1]
  simp only [Option.bind_some, Sum.elim_inl]
  rw [F58_eq M64 _ (dg_byte h.b0 h.b1), e2]
  simp only [Option.bind_some, Sum.elim_inl, F61_eq]
theorem F93_tot {s : List Int} (hb : Bys s) : ∃ (T : Int × Int × Int × Unit) (e : Int), F93 s = some ((T, (e, ())), (), ()) ∧ (e = 0 ∨ e = 4 ∨ e = 5 ∨ e = 6) := by
  unfold F93 F57
  simp only [Option.bind_some]
  rw [decide_eq_true (by decide)]
  simp only [cond_true]
  rw [show ((([97, 110, 97, 49]).length : Nat) : Int) = 4 from rfl]
  have cvt : ∀ {y}, L93_4 tag4 4 ((0 : Nat) : Int) 0 0 0 0 s = some y → L93_4 [97, 110, 97, 49] 4 0 0 0 0 0 s = some y := fun h => h
  rcases L93_run 4 0 s rfl with ⟨r, hr, h⟩ | ⟨r, h⟩ | ⟨r, h⟩
  · rw [cvt h]
    simp only [Option.bind_some, Sum.elim_inr, F73_eq]
    have hbr : Bys r := fun x hx => hb x (hr x hx)
    cases r with
    | nil => exact ⟨_, 5, rfl, by omega⟩
    | cons k r =>
      have hb1 : Bys r := fun x hx => hbr x (List.mem_cons_of_mem _ hx)
      simp only [Sum.elim_inl]
      rw [F58_eq M64 _ hb1]
      cases h1 : tnum M64 r with
      | inr e =>
        simp only [Option.bind_some, Sum.elim_inr]
        exact ⟨_, _, rfl, by have := tnum_err h1; omega⟩
      | inl q =>
        obtain ⟨n, r1⟩ := q
        have hb2 := tnum_byte hb1 h1
        simp only [Option.bind_some, Sum.elim_inl]
        rw [F58_eq M64 _ hb2]
        cases h2 : tnum M64 r1 with
        | inr e =>
          simp only [Option.bind_some, Sum.elim_inr]
          exact ⟨_, _, rfl, by have := tnum_err h2; omega⟩
        | inl q =>
          obtain ⟨n2, r2⟩ := q
          simp only [Option.bind_some, Sum.elim_inl, F61_eq]
          cases r2 with
          | nil => exact ⟨_, _, rfl, by omega⟩
          | cons => exact ⟨_, 4, rfl, by omega⟩
  · rw [cvt h]
    simp only [Option.bind_some, Sum.elim_inl]
    exact ⟨_, _, rfl, by omega⟩
  · rw [cvt h]
    simp only [Option.bind_some, Sum.elim_inl, Sum.elim_inr]
    exact ⟨_, _, rfl, by omega⟩
abbrev MO : Int := 2097152
theorem L94_tot (a : List Int) (hal : a.length ≤ 100000) : ∀ (n : Nat) (s : List Int) (q : List (List Int)), s.length ≤ n → s.length ≤ a.length → q.length + s.length ≤ 200000 → Bys s → (∀ x ∈ q, Bys x ∧ x.length ≤ a.length) →
    ∃ l : List (List Int), (∀ x ∈ l, Bys x ∧ x.length ≤ a.length) ∧ (L94_3 a MO s q = some (.inr (((), ()), (), (l, ()))) ∨ ∃ k e : Int, (e = 4 ∨ e = 5 ∨ e = 6) ∧ L94_3 a MO s q = some (.inl (((), (k, (e, ()))), (), (l, ())))) := by
  intro n
  induction n with
  | zero =>
    intro s q h1 h2 h3 hb hq
    have hs : s = [] := List.eq_nil_of_length_eq_zero (by omega)
    subst hs
    refine ⟨q, hq, .inl ?_⟩
    rw [L94_3_eq]
    unfold T94_3
    rw [decide_eq_false (by simp)]
    rfl
  | succ n ih =>
    intro s q h1 h2 h3 hb hq
    by_cases h0 : ((s.length : Nat) : Int) > 0
    · rw [L94_3_eq]
      unfold T94_3
      rw [decide_eq_true h0, F37_eq s MO hb (lt_lim (by omega)) (by decide)]
      cases ho : opn MO s with
      | inr e =>
        have he := opn_err ho
        simp only [Option.bind_some, cond_true]
        refine ⟨q, hq, .inr ⟨IntKind.wrap .i64 (((a.length : Nat) : Int) - ((s.length : Nat) : Int)), e, he, ?_⟩⟩
        rcases he with rfl | rfl | rfl <;> rfl
      | inl p =>
        obtain ⟨t, r⟩ := p
        obtain ⟨g1, g2, g3⟩ := opn_some hb ho
        have hl : s.length = (rcd t).length + r.length := by rw [g1, List.length_append]
        have h5 := rcd_len t
        simp only [Option.bind_some, cond_true, bne_self_eq_false, cond_false]
        rw [decide_eq_true (lt_lim (by simp; omega))]
        simp only [cond_true, Option.bind_some, Sum.elim_inl]
        have hbt : Bys t := fun x hx => hb x (by rw [g1]; unfold rcd dgT; simp [hx])
        exact ih r (q ++ [t]) (by omega) (by omega) (by rw [List.length_append]; simp; omega) (fun x hx => hb x (by rw [g1]; simp [hx])) (fun x hx => by
          rcases List.mem_append.1 hx with hx | hx
          · exact hq x hx
          · simp only [List.mem_cons, List.not_mem_nil, or_false] at hx
            subst hx; exact ⟨hbt, by omega⟩)
    · refine ⟨q, hq, .inl ?_⟩
      rw [L94_3_eq]
      unfold T94_3
      rw [decide_eq_false h0]
      rfl
theorem F94_tot {a : List Int} (hal : a.length ≤ 100000) (hb : Bys a) : ∃ (l : List (List Int)) (n e : Int), F94 a MO = some ((l, (n, (e, ()))), (), ()) ∧ (∀ x ∈ l, Bys x ∧ x.length ≤ a.length) := by
  obtain ⟨l, h1, h2 | ⟨k, e, h3, h2⟩⟩ := L94_tot a hal a.length a [] (Nat.le_refl _) (Nat.le_refl _) (by simp; omega) hb (fun x hx => by cases hx)
  · refine ⟨l, ((a.length : Nat) : Int), 0, ?_, h1⟩
    unfold F94
    rw [h2]; rfl
  · refine ⟨l, k, e, ?_, h1⟩
    unfold F94
    rw [h2]; rfl
theorem F94_one {x : List Int} (hx : Bys x) (hl : x.length ≤ 1000) : F94 (rcd x) MO = some (([x], ((((rcd x).length : Nat) : Int), (0, ()))), (), ()) := by
  have hr := rcd_le x
  have h5 := rcd_len x
  have e1 : L94_3 (rcd x) MO [] [x] = some (.inr (((), ()), (), ([x], ()))) := by
    rw [L94_3_eq]
    unfold T94_3
    rw [decide_eq_false (by simp)]
    rfl
  have e2 : L94_3 (rcd x) MO (rcd x) [] = some (.inr (((), ()), (), ([x], ()))) := by
    rw [L94_3_eq]
    unfold T94_3
    have ho : opn MO (rcd x) = .inl (x, []) := by
      have := opn_app (t := x) (rest := []) (most := MO) (by show (x.length : Int) ≤ 2097152; omega) (by omega)
      rwa [List.append_nil] at this
    rw [decide_eq_true (by omega), F37_eq _ MO (rcd_byte hx (by omega)) (lt_lim (by omega)) (by decide), ho]
    simp only [Option.bind_some, cond_true, bne_self_eq_false, cond_false]
    rw [decide_eq_true (lt_lim (by simp))]
    simp only [cond_true, Option.bind_some, Sum.elim_inl, List.nil_append]
    exact e1
  unfold F94
  rw [e2]; rfl
theorem F78_tot {s : List Int} (hl : s.length ≤ 100000) (hb : Bys s) : ∃ (T : Int × Int × Int × Unit) (l : List (List Int)) (n b e : Int), F78 s = some (((T, (l, (n, (b, ())))), (e, ())), (), ()) ∧ (e = 0 ∨ e = 4 ∨ e = 5 ∨ e = 6) ∧ ∀ x ∈ l, Bys x ∧ x.length ≤ 100000 := by
  unfold F78
  rw [show (2097152 : Int) = MO from rfl, F37_eq s MO hb (lt_lim (by omega)) (by decide)]
  cases ho : opn MO s with
  | inr e =>
    have he := opn_err ho
    simp only [Option.bind_some]
    refine ⟨(0, (0, (0, ()))), [], 0, 0, e, ?_, by omega, fun x hx => by cases hx⟩
    rcases he with rfl | rfl | rfl <;> rfl
  | inl p =>
    obtain ⟨t, r⟩ := p
    obtain ⟨g1, g2, g3⟩ := opn_some hb ho
    have hlr : r.length ≤ s.length := by rw [g1]; simp
    have hbt : Bys t := fun x hx => hb x (by rw [g1]; unfold rcd dgT; simp [hx])
    have hbr : Bys r := fun x hx => hb x (by rw [g1]; simp [hx])
    simp only [Option.bind_some, bne_self_eq_false, cond_false]
    obtain ⟨T, e, hT, he⟩ := F93_tot hbt
    rw [hT]
    simp only [Option.bind_some]
    rcases he with rfl | rfl | rfl | rfl
    · obtain ⟨l, n, b, h94, hx⟩ := F94_tot (by omega : r.length ≤ 100000) hbr
      rw [h94]
      exact ⟨_, _, _, _, _, rfl, .inl rfl, fun x hx2 => ⟨(hx x hx2).1, by have := (hx x hx2).2; omega⟩⟩
    · exact ⟨(0, (0, (0, ()))), [], 0, 0, 4, rfl, by omega, fun x hx => by cases hx⟩
    · exact ⟨(0, (0, (0, ()))), [], 0, 0, 5, rfl, by omega, fun x hx => by cases hx⟩
    · exact ⟨(0, (0, (0, ()))), [], 0, 0, 6, rfl, by omega, fun x hx => by cases hx⟩
theorem F78_hd {t : Int × Int × Int × Unit} (h : TOK t) {x : List Int} (hx : Bys x) (hl : x.length ≤ 1000) : ∃ n, F78 (rcd (hdB t) ++ rcd x) = some (((t, ([x], (n, (0, ())))), (0, ())), (), ()) := by
  have h1 := rcd_le (hdB t); have h2 := rcd_le x; have h3 := hdB_len t
  unfold F78
  rw [show (2097152 : Int) = MO from rfl, F37_eq _ MO ((rcd_byte (hdB_byte h) (by omega)).app (rcd_byte hx (by omega))) (lt_lim (by rw [List.length_append]; omega)) (by decide),
    opn_app (by show ((hdB t).length : Int) ≤ 2097152; omega) (by omega)]
  simp only [Option.bind_some, bne_self_eq_false, cond_false]
  rw [F93_hd h]
  simp only [Option.bind_some, bne_self_eq_false, cond_false]
  rw [F94_one hx hl]
  exact ⟨_, rfl⟩
end Go.IM.V
namespace Go.IM.V
open Go Go.IM Go.Proofs
theorem clone_all {q : List Int} (hq : q.length ≤ 100000) : F92 q = some ((q, ()), (), ()) := by
  unfold F92
  refine nilBr_of ?_ (fun h => ?_)
  · rw [decide_eq_true (lt_lim (by simp; omega))]; rfl
  · rw [List.eq_nil_of_length_eq_zero h]
theorem read_d {r fu to ac s : Int} {q : List Int} (hq : q.length ≤ 100000) : F77d r fu to ac false q s = some ((q, (0, ())), (((), r, fu, to, ac, false, ()), ((), ()), (q, s, ()), ()), ()) := by
  unfold F77d F43d
  simp only [Option.bind_some, Bool.not_false, Bool.not_true, cond_false, clone_all hq]
theorem read_n {r fu to ac s : Int} {q : List Int} (hq : q.length ≤ 100000) : F77n r fu to ac false q s = some ((q, (0, ())), (((), r, fu, to, ac, false, ()), ((), ()), (q, s, ()), ()), ()) := by
  unfold F77n F43n
  simp only [Option.bind_some, Bool.not_false, Bool.not_true, cond_false, clone_all hq]
theorem F19d_tot {r fu to ac s : Int} {q : List Int} (hl : q.length ≤ 100000) (hb : Bys q) : ∃ (x : DMf) (f : Int), F19d r fu to ac false q s = some ((x, (f, ())), (((), r, fu, to, ac, false, ()), ((), ()), (q, s, ()), ()), ()) ∧ (f = 0 ∨ (f = 4 ∧ x.1 = 0)) := by
  obtain ⟨T, l, n, b, e, h78, he, hx⟩ := F78_tot hl hb
  have h46 : F46d r fu to ac false q s = some (((T, (l, (n, (b, ())))), (e, ())), (((), r, fu, to, ac, false, ()), ((), ()), (q, s, ()), ()), ()) := by
    unfold F46d
    rw [read_d hl]
    simp only [Option.bind_some, bne_self_eq_false, cond_false, h78]
  unfold F19d
  rw [h46]
  simp only [Option.bind_some]
  rcases he with rfl | rfl | rfl | rfl
  case inr.inl => exact ⟨_, 4, rfl, .inr ⟨rfl, rfl⟩⟩
  case inr.inr.inl => exact ⟨_, 4, rfl, .inr ⟨rfl, rfl⟩⟩
  case inr.inr.inr => exact ⟨_, 4, rfl, .inr ⟨rfl, rfl⟩⟩
  rw [show ((0 : Int) == 2) = false from rfl, show ((0 : Int) == 7) = false from rfl, show ((0 : Int) != 0) = false from rfl]
  simp only [cond_false]
  cases h1 : ((b : Int) != 0) with
  | true => exact ⟨_, 4, rfl, .inr ⟨rfl, rfl⟩⟩
  | false =>
  cases h2 : ((T.1 : Int) != 109) with
  | true => exact ⟨_, 4, rfl, .inr ⟨rfl, rfl⟩⟩
  | false =>
  cases h3 : (((l.length : Nat) : Int) != 1) with
  | true => exact ⟨_, 4, rfl, .inr ⟨rfl, rfl⟩⟩
  | false =>
  simp only [cond_false]
  have hl1 : l.length = 1 := by
    have h3' : ((l.length : Nat) : Int) = 1 := by simpa using h3
    omega
  obtain ⟨y, rfl⟩ : ∃ y, l = [y] := by
    match l, hl1 with
    | [y], _ => exact ⟨y, rfl⟩
  obtain ⟨hy1, hy2⟩ := hx y (by simp)
  rw [decide_eq_true (show 0 ≤ (0 : Int) ∧ (0 : Int) < (([y].length : Nat) : Int) by simp), show [y].getD (0 : Int).toNat [] = y from rfl, F29_eq y hy1 (by omega)]
  simp only [cond_true, Option.bind_some]
  cases hd : decM y with
  | inr e =>
    have := decM_err hd
    rw [show ((e : Int) != 0) = true by simpa using this]
    exact ⟨_, 4, rfl, .inr ⟨rfl, rfl⟩⟩
  | inl m =>
    simp only [bne_self_eq_false, cond_false]
    cases h4 : (IntKind.wrap .u64 m.1 != T.2.1) with
    | true => exact ⟨_, 4, rfl, .inr ⟨rfl, rfl⟩⟩
    | false =>
    cases h5 : (m.2.1 != T.2.2.1) with
    | true => exact ⟨_, 4, rfl, .inr ⟨rfl, rfl⟩⟩
    | false => exact ⟨_, 0, rfl, .inl rfl⟩
abbrev RM : DMf := (3, (4, (([] : List Int), (0, (ByteArray.empty, ())))))
theorem RM_ok : MOK RM := by
  have hv : Sml RM.2.2.1 := fun x hx => by cases hx
  have hd : isEmp RM.2.2.2.2.1 = true ∨ nmd RM.2.2.2.2.1 = true := .inl (by decide +kernel)
  exact ⟨by decide, by decide, by decide, by decide, hv, by decide, by decide, by decide, hd⟩
theorem RM_dec : decM (encM RM) = .inl RM := decM_app RM RM_ok
theorem F19n_hd {t : Int × Int × Int × Unit} (h : TOK t) {r fu to ac s : Int} :
    ∃ (x : DMf) (f : Int), F19n r fu to ac false (rcd (hdB t) ++ rcd (encM RM)) s = some ((x, (f, ())), (((), r, fu, to, ac, false, ()), ((), ()), (rcd (hdB t) ++ rcd (encM RM), s, ()), ()), ()) ∧
      (f == 0) = (decide (t.1 = 109) && (decide (t.2.1 = 3) && decide (t.2.2.1 = 4))) := by
  have hbR := encM_byte RM RM_ok
  have hlR : (encM RM).length ≤ 800 := encM_len RM RM_ok (by decide)
  have h1 := rcd_le (hdB t); have h2 := rcd_le (encM RM); have h3 := hdB_len t
  obtain ⟨n, h78⟩ := F78_hd h hbR (by omega)
  have hl : (rcd (hdB t) ++ rcd (encM RM)).length ≤ 100000 := by rw [List.length_append]; omega
  have h46 : F46n r fu to ac false (rcd (hdB t) ++ rcd (encM RM)) s = some (((t, ([encM RM], (n, (0, ())))), (0, ())), (((), r, fu, to, ac, false, ()), ((), ()), (rcd (hdB t) ++ rcd (encM RM), s, ()), ()), ()) := by
    unfold F46n
    rw [read_n hl]
    simp only [Option.bind_some, bne_self_eq_false, cond_false, h78]
  unfold F19n
  rw [h46]
  simp only [Option.bind_some]
  rw [show ((0 : Int) == 2) = false from rfl, show ((0 : Int) == 7) = false from rfl, show ((0 : Int) != 0) = false from rfl]
  simp only [cond_false]
  cases h2 : ((t.1 : Int) != 109) with
  | true =>
    have : ¬ t.1 = 109 := by simpa using h2
    exact ⟨_, 4, rfl, by rw [decide_eq_false this]; rfl⟩
  | false =>
  have e1 : t.1 = 109 := by simpa using h2
  rw [decide_eq_true e1]
  simp only [cond_false]
  rw [show ((([encM RM].length : Nat) : Int) != 1) = false from rfl, decide_eq_true (show 0 ≤ (0 : Int) ∧ (0 : Int) < (([encM RM].length : Nat) : Int) by simp), show [encM RM].getD (0 : Int).toNat [] = encM RM from rfl, F29_eq _ hbR (by omega), RM_dec]
  simp only [cond_true, cond_false, Option.bind_some, bne_self_eq_false]
  rw [show IntKind.wrap .u64 3 = 3 from by decide +kernel]
  cases h4 : ((3 : Int) != t.2.1) with
  | true =>
    have : ¬ t.2.1 = 3 := by have : ¬ 3 = t.2.1 := by simpa using h4
                             omega
    exact ⟨_, 4, rfl, by rw [decide_eq_false this]; rfl⟩
  | false =>
  have e2 : t.2.1 = 3 := by have : 3 = t.2.1 := by simpa using h4
                            omega
  rw [decide_eq_true e2]
  cases h5 : ((4 : Int) != t.2.2.1) with
  | true =>
    have : ¬ t.2.2.1 = 4 := by have : ¬ 4 = t.2.2.1 := by simpa using h5
                               omega
    exact ⟨_, 4, rfl, by rw [decide_eq_false this]; rfl⟩
  | false =>
    have e3 : t.2.2.1 = 4 := by have : 4 = t.2.2.1 := by simpa using h5
                                omega
    exact ⟨_, 0, rfl, by rw [decide_eq_true e3]; rfl⟩
theorem arm_eq {q : List Int} {s : Int} : F22n 0 0 65536 (-1) 0 4 false q s = some ((), (((), 65536, 0, 0, 4, false, ()), ((), ()), (q, s, ()), ()), ()) := rfl
theorem stop_eq {q : List Int} {s : Int} : F23n 65536 0 0 4 false q s = some ((7, ()), (((), 65536, 0, 0, 5, true, ()), ((), ()), (q, s, ()), ()), ()) := by
  unfold F23n F44n
  rw [show ((0 : Int) == 0) = true from rfl, show IntKind.wrap .i64 (4 + 1) = 5 from by decide +kernel]
  rfl
theorem off_eq {q : List Int} {s : Int} : ∃ x : DMf, F19n 65536 0 0 5 true q s = some ((x, (7, ())), (((), 65536, 0, 0, 5, true, ()), ((), ()), (q, s, ()), ()), ()) := ⟨_, rfl⟩
theorem part3 (a2 : Int × Int × Int × Unit) (h : TOK a2) : P5 a2 = some ((true, ()), (), ()) := by
  unfold P5
  rw [dnew]
  simp only [Option.bind_some]
  have h21 : F21 (3, (4, (([] : List Int), (0, (ByteArray.empty, ()))))) = some (ro (encM RM)) := F21_eq RM RM_ok (by decide)
  rw [h21]
  simp only [Option.bind_some]
  have hsw : F200m (a2.1, (a2.2.1, (a2.2.2.1, ()))) [encM RM] 65536 (-1) 0 0 false = _ := swap_eq h (encM_byte RM RM_ok) (by have := encM_len RM RM_ok (by decide); omega)
  rw [hsw]
  simp only [Option.bind_some]
  obtain ⟨x, f, h19, hf⟩ := F19n_hd h (r := 65536) (fu := -1) (to := 0) (ac := 4) (s := (((rcd (hdB a2) ++ rcd (encM RM)).length : Nat) : Int))
  rw [h19]
  simp only [Option.bind_some]
  rw [arm_eq]
  simp only [Option.bind_some]
  rw [stop_eq]
  simp only [Option.bind_some]
  obtain ⟨x2, h19b⟩ := off_eq (q := rcd (hdB a2) ++ rcd (encM RM)) (s := (((rcd (hdB a2) ++ rcd (encM RM)).length : Nat) : Int))
  rw [h19b]
  simp only [Option.bind_some, hf]
  have bd : ∀ (a b : Int), (a == b) = decide (a = b) := fun a b => by by_cases q : a = b <;> simp [q]
  rw [bd a2.1 109, bd a2.2.1 3, bd a2.2.2.1 4]
  generalize decide (a2.1 = 109) = c1
  generalize decide (a2.2.1 = 3) = c2
  generalize decide (a2.2.2.1 = 4) = c3
  cases c1 <;> cases c2 <;> cases c3 <;> rfl
theorem rest (a1 : List Int) (hb : Bys a1) (hl : a1.length ≤ 300) (a2 : Int × Int × Int × Unit) (h : TOK a2) : R5 a1 a2 = some ((true, ()), (), ()) := by
  have h3 := part3 a2 h
  unfold R5
  rw [h3]
  rw [dnew]
  simp only [Option.bind_some]
  rw [appC (p := a1) (by omega)]
  simp only [Option.bind_some]
  obtain ⟨x, f, h19, hf⟩ := F19d_tot (r := 65536) (fu := -1) (to := 0) (ac := 1) (s := 0) (q := a1) (by omega) hb
  rw [h19]
  simp only [Option.bind_some]
  rcases hf with rfl | ⟨rfl, hx⟩
  · rfl
  · rw [hx]; rfl
theorem encM_len' (m : DMf) (h : MTy m) (hd : m.2.2.2.2.1.size ≤ 60) : (encM m).length ≤ 800 := by
  have h1 := dg_len m.1; have h2 := dg_len m.2.1; have h3 := encV_len h.fl; have h4 := dg_len m.2.2.2.1
  have h5 := dgT_len (bytesL m.2.2.2.2.1); rw [bytesL_len] at h5
  unfold encM
  simp only [List.length_append]
  omega
theorem encM_byte' (m : DMf) (h : MTy m) (h0 : 0 ≤ m.1) (h1 : m.1 < 64) (hd : m.2.2.2.2.1.size ≤ 60) : Bys (encM m) := by
  have hfl := h.fl
  have htl := trim_le m.2.2.1
  unfold encM
  exact ((((dg_byte h0 (by omega)).app (dg_byte h.s0 h.s1)).app (encL_byte h.f.trim (by omega))).app (dg_byte h.t0 h.t1)).app (dgT_byte (bytesL_byte _) (by rw [bytesL_len]; omega))
theorem F21_eq' (m : DMf) (h : MTy m) (n0 : 0 ≤ m.1) (n1 : m.1 < 64) (hd : m.2.2.2.2.1.size ≤ 60) : F21 m = some (ro (encM m)) := by
  have h1 := dg_len m.1; have h2 := dg_len m.2.1; have h3 := encV_len h.fl; have h4 := dg_len m.2.2.2.1
  have hfl := h.fl
  unfold F21
  rw [wu64 (by omega) (by omega), F51_eq m.1 [] (by omega) (by omega) (lt_lim (by simp))]
  simp only [Option.bind_some, List.nil_append]
  rw [F51_eq m.2.1 _ h.s0 h.s1 (lt_lim (by omega))]
  simp only [Option.bind_some]
  rw [F53_eq _ _ h.f (by omega) (lt_lim (by simp only [List.length_append]; omega))]
  simp only [Option.bind_some]
  rw [F51_eq m.2.2.2.1 _ h.t0 h.t1 (lt_lim (by simp only [List.length_append]; omega))]
  simp only [Option.bind_some]
  rw [F52_eq _ _ (by rw [bytesL_len]; omega) (lt_lim (by simp only [List.length_append, bytesL_len]; omega))]
  rfl
theorem write_bad (m : DMf) (h : m.1 < 0 ∨ 64 ≤ m.1 ∨ (isEmp m.2.2.2.2.1 = false ∧ nmd m.2.2.2.2.1 = false)) : ∃ y, F17w m 65536 (-1) 0 0 false = some (.inr ((1, ()), y)) := by
  unfold F17w
  by_cases h1 : m.1 < 0
  · rw [decide_eq_true h1]; exact ⟨_, rfl⟩
  · rw [decide_eq_false h1]
    by_cases h2 : m.1 ≥ 64
    · rw [decide_eq_true h2]; exact ⟨_, rfl⟩
    · rw [decide_eq_false h2]
      rcases h with h | h | ⟨h, h'⟩
      · exact absurd h h1
      · exact absurd h h2
      · have e : (m.2.2.2.2.1.toList == (⟨#[]⟩ : ByteArray).toList) = false := h
        rw [e, F16_eq, h']
        exact ⟨_, rfl⟩
theorem write_ok (m : DMf) (hT : MTy m) (hd : m.2.2.2.2.1.size ≤ 60) (n0 : 0 ≤ m.1) (n1 : m.1 < 64) (h : isEmp m.2.2.2.2.1 = true ∨ nmd m.2.2.2.2.1 = true) : ∃ y, F17w m 65536 (-1) 0 0 false = some (.inl ((0, ()), y)) := by
  have hs0 := hT.s0; have hs1 := hT.s1
  have hsw := swap_eq (t := (109, (m.1, (m.2.1, ())))) ⟨by show (0 : Int) ≤ 109; decide, by show (109 : Int) < 256; decide, n0, by show m.1 < _; omega, hs0, hs1⟩ (encM_byte' m hT n0 n1 hd) (by have := encM_len' m hT hd; omega)
  have h21 : F21 (m.1, (m.2.1, (m.2.2.1, (m.2.2.2.1, (m.2.2.2.2.1, ()))))) = some (ro (encM m)) := F21_eq' m hT n0 n1 hd
  unfold F17w
  rw [decide_eq_false (by omega), decide_eq_false (by omega), wu64 n0 (by omega)]
  cases he : isEmp m.2.2.2.2.1 with
  | true =>
    have e : (m.2.2.2.2.1.toList == (⟨#[]⟩ : ByteArray).toList) = true := he
    rw [e, h21]
    simp only [Bool.not_true, cond_false, Option.bind_some, hsw]
    exact ⟨_, rfl⟩
  | false =>
    have e : (m.2.2.2.2.1.toList == (⟨#[]⟩ : ByteArray).toList) = false := he
    have hn : nmd m.2.2.2.2.1 = true := by
      rcases h with h | h
      · rw [he] at h; cases h
      · exact h
    rw [e, F16_eq, hn, h21]
    simp only [Bool.not_true, Bool.not_false, cond_false, cond_true, Option.bind_some, hsw]
    exact ⟨_, rfl⟩
theorem manifestErrs_pure (a0 : DMf) (hs : 0 ≤ a0.2.1 ∧ a0.2.1 < 18446744073709551616) (hf : Vok a0.2.2.1) (ht : 0 ≤ a0.2.2.2.1 ∧ a0.2.2.2.1 < 18446744073709551616) (a1 : List Int) (hb : Bys a1) (a2 : Int × Int × Int × Unit) (h : TOK a2) : F5 a0 a1 a2 = some (r1 true) := by
  unfold F5 F14
  simp only [Option.bind_some, Bool.not_true, cond_false]
  by_cases g1 : ((a0.2.2.1.length : Nat) : Int) > 64
  · rw [decide_eq_true g1]; rfl
  rw [decide_eq_false g1]
  by_cases g2 : ((a0.2.2.2.2.1.size : Nat) : Int) > 60
  · rw [decide_eq_true g2]; rfl
  rw [decide_eq_false g2]
  by_cases g3 : ((a1.length : Nat) : Int) > 300
  · rw [decide_eq_true g3]; rfl
  rw [decide_eq_false g3]
  simp only [cond_false]
  have hT : MTy a0 := ⟨hs.1, hs.2, hf, by omega, ht.1, ht.2⟩
  have hR := rest a1 hb (by omega) a2 h
  rw [hR, dnew]
  simp only [Option.bind_some]
  have e0 : (a0.1, (a0.2.1, (a0.2.2.1, (a0.2.2.2.1, (a0.2.2.2.2.1, ()))))) = a0 := rfl
  rw [e0]
  by_cases h1 : a0.1 < 0
  · obtain ⟨y, hy⟩ := write_bad a0 (.inl h1)
    rw [decide_eq_true h1, hy]
    rfl
  rw [decide_eq_false h1]
  by_cases h2 : a0.1 ≥ 64
  · obtain ⟨y, hy⟩ := write_bad a0 (.inr (.inl h2))
    rw [decide_eq_true h2, hy]
    rfl
  rw [decide_eq_false h2]
  cases he : isEmp a0.2.2.2.2.1 with
  | true =>
    obtain ⟨y, hy⟩ := write_ok a0 hT (by omega) (by omega) (by omega) (.inl he)
    have e : (a0.2.2.2.2.1.toList == (⟨#[]⟩ : ByteArray).toList) = true := he
    rw [e, hy]
    rfl
  | false =>
    have e : (a0.2.2.2.2.1.toList == (⟨#[]⟩ : ByteArray).toList) = false := he
    rw [e, F16_eq]
    cases hn : nmd a0.2.2.2.2.1 with
    | true =>
      obtain ⟨y, hy⟩ := write_ok a0 hT (by omega) (by omega) (by omega) (.inr hn)
      rw [hy]
      rfl
    | false =>
      obtain ⟨y, hy⟩ := write_bad a0 (.inr (.inr ⟨he, hn⟩))
      rw [hy]
      rfl
end Go.IM.V