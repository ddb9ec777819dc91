/- What the code of a law comes to, and what that tells: part 1. Lemmas alone; no conditions. -/
import Derived.Test.YtoejiaciaafbmaaProg
import Derived.KernelRfl
import Derived.Test.YtoejiaciaafbmaaImM4
import Derived.Test.YtoejiaciaafbmaaImM2
/- Records and digits: what the code comes to. -/
set_option linter.unusedVariables false
set_option linter.constructorNameAsVariable false
namespace Go.IM.V
open Go Go.IM Go.Proofs

noncomputable def l11_7 : Code := (.seq (.region 7 (regOf Try.f11 7) false) (.seq (.cond (.tmp 18) .skip (.exit 2)) (.seq (.block 3 (.seq (.region 8 (regOf Try.f11 8) false) (.seq (.region 9 (regOf Try.f11 9) false) (.region 10 (regOf Try.f11 10) false)))) (.region 11 (regOf Try.f11 11) false))))
noncomputable def l11_3 : Code := (.seq (.region 3 (regOf Try.f11 3) false) (.seq (.cond (.tmp 10) .skip (.exit 0)) (.seq (.block 1 (.seq (.region 4 (regOf Try.f11 4) false) (.seq (.region 5 (regOf Try.f11 5) false) (.seq (.region 6 (regOf Try.f11 6) false) (.block 2 (.loop l11_7)))))) (.region 12 (regOf Try.f11 12) false))))
noncomputable def b11 : Code := (.seq (.region 0 (regOf Try.f11 0) false) (.seq (.region 1 (regOf Try.f11 1) false) (.seq (.seq (.region 2 (regOf Try.f11 2) false) (.block 0 (.loop l11_3))) (.seq (.region 13 (regOf Try.f11 13) false) .ret))))
theorem body11 : Try.f11.body = some b11 := by kernel_rfl
noncomputable def C11_7 : Tab := []
theorem C11_7_ok : TabOK Try.prog C11_7 := trivial
noncomputable def LO11_7 : Tab := []
noncomputable def i11_7 : Tm := { sl := [(3, .v (.i .u32)), (7, .v (.l (.i .u8))), (8, .v (.i .i64)), (9, .v (.i .i64)), (17, .v (.i .i64))], bx := [], bf := [] }
noncomputable def o11_7 : OT := (.exit 2 { sl := [(3, .v (.i .u32))], bx := [], bf := [] })
noncomputable def T11_7 (a3 : Int) (a7 : (List Int)) (a8 : Int) (a9 : Int) (a17 : Int) : Option (((Int × ((List Int) × (Int × (Int × (Int × Unit))))) × Unit × Unit) ⊕ ((Int × Unit) × Unit × Unit)) :=
  (bif (decide ((a17 : Int) < 8)) then (some (.inl (((iXor .u32 (iShr .u32 a3 1) (IntKind.wrap .u32 (2197175160 * (iAnd .u32 a3 1)))), a7, a8, a9, (IntKind.wrap .i64 (a17 + 1)), ()), (), ()))) else (some (.inr ((a3, ()), (), ()))))
noncomputable def L11_7 (a3 : Int) (a7 : (List Int)) (a8 : Int) (a9 : Int) (a17 : Int) : Option ((Int × Unit) × Unit × Unit) := loopF (fun x : ((Int × ((List Int) × (Int × (Int × (Int × Unit))))) × Unit × Unit) => T11_7 x.1.1 x.1.2.1 x.1.2.2.1 x.1.2.2.2.1 x.1.2.2.2.2.1) ((a3, a7, a8, a9, a17, ()), (), ())
theorem L11_7_eq (a3 : Int) (a7 : (List Int)) (a8 : Int) (a9 : Int) (a17 : Int) : L11_7 a3 a7 a8 a9 a17 = (T11_7 a3 a7 a8 a9 a17).bind (Sum.elim (fun x => L11_7 x.1.1 x.1.2.1 x.1.2.2.1 x.1.2.2.2.1 x.1.2.2.2.2.1) some) := loopF_eq _ _
noncomputable def k11_7 : Con := ⟨i11_7, o11_7, fun x => L11_7 x.1.1 x.1.2.1 x.1.2.2.1 x.1.2.2.2.1 x.1.2.2.2.2.1⟩
theorem e11_7 (x : i11_7.E) : vround Try.prog C11_7 LO11_7 Try.f11.ntmps l11_7 i11_7 o11_7 x = T11_7 x.1.1 x.1.2.1 x.1.2.2.1 x.1.2.2.2.1 x.1.2.2.2.2.1 := by kernel_rfl
theorem k11_7_ok : Con.LOK Try.prog Try.f11.ntmps l11_7 k11_7 := (loop_ok C11_7_ok (loops_of (l := []) (by kernel_rfl) (show LoopsOK Try.prog Try.f11.ntmps [] LO11_7 from trivial)) i11_7 o11_7).congr fun x => (congrArg (fun T => loopF T x) (funext e11_7)).symm
noncomputable def C11_3 : Tab := []
theorem C11_3_ok : TabOK Try.prog C11_3 := trivial
noncomputable def LO11_3 : Tab := [(7, k11_7)]
noncomputable def i11_3 : Tm := { sl := [(3, .v (.i .u32)), (7, .v (.l (.i .u8))), (8, .v (.i .i64)), (9, .v (.i .i64))], bx := [], bf := [] }
noncomputable def o11_3 : OT := (.exit 0 { sl := [(3, .v (.i .u32))], bx := [], bf := [] })
noncomputable def T11_3 (a3 : Int) (a7 : (List Int)) (a8 : Int) (a9 : Int) : Option (((Int × ((List Int) × (Int × (Int × Unit)))) × Unit × Unit) ⊕ ((Int × Unit) × Unit × Unit)) :=
  (bif (decide ((a9 : Int) < a8)) then (bif (decide (0 ≤ (a9 : Int) ∧ (a9 : Int) < (((a7).length : Nat) : Int))) then ((L11_7 (iXor .u32 a3 (IntKind.wrap .u32 ((a7).getD (a9 : Int).toNat (0 : Int)))) a7 a8 a9 0).bind fun y2 => (some (.inl ((y2.1.1, a7, a8, (IntKind.wrap .i64 (a9 + 1)), ()), (), ())))) else none) else (some (.inr ((a3, ()), (), ()))))
noncomputable def L11_3 (a3 : Int) (a7 : (List Int)) (a8 : Int) (a9 : Int) : Option ((Int × Unit) × Unit × Unit) := loopF (fun x : ((Int × ((List Int) × (Int × (Int × Unit)))) × Unit × Unit) => T11_3 x.1.1 x.1.2.1 x.1.2.2.1 x.1.2.2.2.1) ((a3, a7, a8, a9, ()), (), ())
theorem L11_3_eq (a3 : Int) (a7 : (List Int)) (a8 : Int) (a9 : Int) : L11_3 a3 a7 a8 a9 = (T11_3 a3 a7 a8 a9).bind (Sum.elim (fun x => L11_3 x.1.1 x.1.2.1 x.1.2.2.1 x.1.2.2.2.1) some) := loopF_eq _ _
noncomputable def k11_3 : Con := ⟨i11_3, o11_3, fun x => L11_3 x.1.1 x.1.2.1 x.1.2.2.1 x.1.2.2.2.1⟩
theorem e11_3 (x : i11_3.E) : vround Try.prog C11_3 LO11_3 Try.f11.ntmps l11_3 i11_3 o11_3 x = T11_3 x.1.1 x.1.2.1 x.1.2.2.1 x.1.2.2.2.1 := by kernel_rfl
theorem k11_3_ok : Con.LOK Try.prog Try.f11.ntmps l11_3 k11_3 := (loop_ok C11_3_ok (loops_of (l := [l11_7]) (by kernel_rfl) (show LoopsOK Try.prog Try.f11.ntmps [l11_7] LO11_3 from ⟨k11_7_ok, trivial⟩)) i11_3 o11_3).congr fun x => (congrArg (fun T => loopF T x) (funext e11_3)).symm
noncomputable def C11 : Tab := []
theorem C11_ok : TabOK Try.prog C11 := trivial
noncomputable def LO11 : Tab := [(3, k11_3)]
noncomputable def i11 : Tm := { sl := [(0, .v (.l (.i .u8)))], bx := [], bf := [] }
noncomputable def o11 : OT := (.ret { sl := [(0, .v (.i .u32))], bx := [], bf := [] })
/-- anabranch/check.Sum -/
noncomputable def F11 (a0 : (List Int)) : Option ((Int × Unit) × Unit × Unit) :=
  ((L11_3 4294967295 a0 (((a0).length : Nat) : Int) 0).bind fun y3 => (some (((iNot .u32 y3.1.1), ()), (), ())))
noncomputable def c11 : Con := ⟨i11, o11, fun x => F11 x.1.1⟩
theorem e11 (x : i11.E) : vfn Try.prog C11 LO11 Try.f11 b11 i11 o11 x = F11 x.1.1 := by kernel_rfl
theorem c11_ok : Con.OK Try.prog 11 c11 := (fn_ok C11_ok Try.func11 body11 (loops_of (l := [l11_3]) (by kernel_rfl) (show LoopsOK Try.prog Try.f11.ntmps [l11_3] LO11 from ⟨k11_3_ok, trivial⟩)) i11 o11).congr fun x => (e11 x).symm
noncomputable def l12_6 : Code := (.seq (.seq (.region 6 (regOf Try.f12 6) false) (.cond (.tmp 17) .skip (.exit 2))) (.seq (.block 3 (.seq (.region 8 (regOf Try.f12 8) false) (.seq (.region 9 (regOf Try.f12 9) false) (.seq (.region 10 (regOf Try.f12 10) false) (.seq (.region 11 (regOf Try.f12 11) false) (.cond (.tmp 34) (.region 12 (regOf Try.f12 12) false) .skip)))))) (.region 7 (regOf Try.f12 7) false)))
noncomputable def l12_3 : Code := (.seq (.seq (.region 3 (regOf Try.f12 3) false) (.cond (.tmp 13) .skip (.exit 0))) (.seq (.block 1 (.seq (.region 5 (regOf Try.f12 5) false) (.block 2 (.loop l12_6)))) (.region 4 (regOf Try.f12 4) false)))
noncomputable def l12_16 : Code := (.seq (.seq (.region 16 (regOf Try.f12 16) false) (.cond (.tmp 40) .skip (.exit 4))) (.seq (.block 5 (.region 18 (regOf Try.f12 18) false)) (.region 17 (regOf Try.f12 17) false)))
noncomputable def b12 : Code := (.seq (.region 0 (regOf Try.f12 0) false) (.seq (.region 1 (regOf Try.f12 1) false) (.seq (.seq (.region 2 (regOf Try.f12 2) false) (.block 0 (.loop l12_3))) (.seq (.region 13 (regOf Try.f12 13) false) (.seq (.region 14 (regOf Try.f12 14) false) (.seq (.seq (.region 15 (regOf Try.f12 15) false) (.block 4 (.loop l12_16))) (.seq (.region 19 (regOf Try.f12 19) false) .ret)))))))
theorem body12 : Try.f12.body = some b12 := by kernel_rfl
noncomputable def C12_6 : Tab := []
theorem C12_6_ok : TabOK Try.prog C12_6 := trivial
noncomputable def LO12_6 : Tab := []
noncomputable def i12_6 : Tm := { sl := [(0, .v (.l (.i .u8))), (3, .v (.i .u32)), (4, .v (.i .i64)), (5, .v (.i .i64))], bx := [], bf := [] }
noncomputable def o12_6 : OT := (.exit 2 { sl := [(3, .v (.i .u32))], bx := [], bf := [] })
noncomputable def T12_6 (a0 : (List Int)) (a3 : Int) (a4 : Int) (a5 : Int) : Option ((((List Int) × (Int × (Int × (Int × Unit)))) × Unit × Unit) ⊕ ((Int × Unit) × Unit × Unit)) :=
  (bif (decide ((a5 : Int) < 8)) then (bif (decide (0 ≤ (a4 : Int) ∧ (a4 : Int) < (((a0).length : Nat) : Int))) then (bif (decide ((0 : Int) ≤ a5)) then (bif (((iAnd .u32 (IntKind.wrap .u32 (iShr .u8 ((a0).getD (a4 : Int).toNat (0 : Int)) a5)) 1) : Int) != (iShr .u32 a3 31)) then (some (.inl ((a0, (iXor .u32 (iShl .u32 a3 1) 517762881), a4, (IntKind.wrap .i64 (a5 + 1)), ()), (), ()))) else (some (.inl ((a0, (iShl .u32 a3 1), a4, (IntKind.wrap .i64 (a5 + 1)), ()), (), ())))) else none) else none) else (some (.inr ((a3, ()), (), ()))))
noncomputable def L12_6 (a0 : (List Int)) (a3 : Int) (a4 : Int) (a5 : Int) : Option ((Int × Unit) × Unit × Unit) := loopF (fun x : (((List Int) × (Int × (Int × (Int × Unit)))) × Unit × Unit) => T12_6 x.1.1 x.1.2.1 x.1.2.2.1 x.1.2.2.2.1) ((a0, a3, a4, a5, ()), (), ())
theorem L12_6_eq (a0 : (List Int)) (a3 : Int) (a4 : Int) (a5 : Int) : L12_6 a0 a3 a4 a5 = (T12_6 a0 a3 a4 a5).bind (Sum.elim (fun x => L12_6 x.1.1 x.1.2.1 x.1.2.2.1 x.1.2.2.2.1) some) := loopF_eq _ _
noncomputable def k12_6 : Con := ⟨i12_6, o12_6, fun x => L12_6 x.1.1 x.1.2.1 x.1.2.2.1 x.1.2.2.2.1⟩
theorem e12_6 (x : i12_6.E) : vround Try.prog C12_6 LO12_6 Try.f12.ntmps l12_6 i12_6 o12_6 x = T12_6 x.1.1 x.1.2.1 x.1.2.2.1 x.1.2.2.2.1 := by kernel_rfl
theorem k12_6_ok : Con.LOK Try.prog Try.f12.ntmps l12_6 k12_6 := (loop_ok C12_6_ok (loops_of (l := []) (by kernel_rfl) (show LoopsOK Try.prog Try.f12.ntmps [] LO12_6 from trivial)) i12_6 o12_6).congr fun x => (congrArg (fun T => loopF T x) (funext e12_6)).symm
noncomputable def C12_3 : Tab := []
theorem C12_3_ok : TabOK Try.prog C12_3 := trivial
noncomputable def LO12_3 : Tab := [(6, k12_6)]
noncomputable def i12_3 : Tm := { sl := [(0, .v (.l (.i .u8))), (3, .v (.i .u32)), (4, .v (.i .i64))], bx := [], bf := [] }
noncomputable def o12_3 : OT := (.exit 0 { sl := [(3, .v (.i .u32))], bx := [], bf := [] })
noncomputable def T12_3 (a0 : (List Int)) (a3 : Int) (a4 : Int) : Option ((((List Int) × (Int × (Int × Unit))) × Unit × Unit) ⊕ ((Int × Unit) × Unit × Unit)) :=
  (bif (decide ((a4 : Int) < (((a0).length : Nat) : Int))) then ((L12_6 a0 a3 a4 0).bind fun y5 => (some (.inl ((a0, y5.1.1, (IntKind.wrap .i64 (a4 + 1)), ()), (), ())))) else (some (.inr ((a3, ()), (), ()))))
noncomputable def L12_3 (a0 : (List Int)) (a3 : Int) (a4 : Int) : Option ((Int × Unit) × Unit × Unit) := loopF (fun x : (((List Int) × (Int × (Int × Unit))) × Unit × Unit) => T12_3 x.1.1 x.1.2.1 x.1.2.2.1) ((a0, a3, a4, ()), (), ())
theorem L12_3_eq (a0 : (List Int)) (a3 : Int) (a4 : Int) : L12_3 a0 a3 a4 = (T12_3 a0 a3 a4).bind (Sum.elim (fun x => L12_3 x.1.1 x.1.2.1 x.1.2.2.1) some) := loopF_eq _ _
noncomputable def k12_3 : Con := ⟨i12_3, o12_3, fun x => L12_3 x.1.1 x.1.2.1 x.1.2.2.1⟩
theorem e12_3 (x : i12_3.E) : vround Try.prog C12_3 LO12_3 Try.f12.ntmps l12_3 i12_3 o12_3 x = T12_3 x.1.1 x.1.2.1 x.1.2.2.1 := by kernel_rfl
theorem k12_3_ok : Con.LOK Try.prog Try.f12.ntmps l12_3 k12_3 := (loop_ok C12_3_ok (loops_of (l := [l12_6]) (by kernel_rfl) (show LoopsOK Try.prog Try.f12.ntmps [l12_6] LO12_3 from ⟨k12_6_ok, trivial⟩)) i12_3 o12_3).congr fun x => (congrArg (fun T => loopF T x) (funext e12_3)).symm
noncomputable def C12_16 : Tab := []
theorem C12_16_ok : TabOK Try.prog C12_16 := trivial
noncomputable def LO12_16 : Tab := []
noncomputable def i12_16 : Tm := { sl := [(3, .v (.i .u32)), (8, .v (.i .u32)), (9, .v (.i .i64))], bx := [], bf := [] }
noncomputable def o12_16 : OT := (.exit 4 { sl := [(8, .v (.i .u32))], bx := [], bf := [] })
noncomputable def T12_16 (a3 : Int) (a8 : Int) (a9 : Int) : Option (((Int × (Int × (Int × Unit))) × Unit × Unit) ⊕ ((Int × Unit) × Unit × Unit)) :=
  (bif (decide ((a9 : Int) < 32)) then (bif (decide ((0 : Int) ≤ a9)) then (some (.inl ((a3, (iOr .u32 (iShl .u32 a8 1) (iAnd .u32 (iShr .u32 a3 a9) 1)), (IntKind.wrap .i64 (a9 + 1)), ()), (), ()))) else none) else (some (.inr ((a8, ()), (), ()))))
noncomputable def L12_16 (a3 : Int) (a8 : Int) (a9 : Int) : Option ((Int × Unit) × Unit × Unit) := loopF (fun x : ((Int × (Int × (Int × Unit))) × Unit × Unit) => T12_16 x.1.1 x.1.2.1 x.1.2.2.1) ((a3, a8, a9, ()), (), ())
theorem L12_16_eq (a3 : Int) (a8 : Int) (a9 : Int) : L12_16 a3 a8 a9 = (T12_16 a3 a8 a9).bind (Sum.elim (fun x => L12_16 x.1.1 x.1.2.1 x.1.2.2.1) some) := loopF_eq _ _
noncomputable def k12_16 : Con := ⟨i12_16, o12_16, fun x => L12_16 x.1.1 x.1.2.1 x.1.2.2.1⟩
theorem e12_16 (x : i12_16.E) : vround Try.prog C12_16 LO12_16 Try.f12.ntmps l12_16 i12_16 o12_16 x = T12_16 x.1.1 x.1.2.1 x.1.2.2.1 := by kernel_rfl
theorem k12_16_ok : Con.LOK Try.prog Try.f12.ntmps l12_16 k12_16 := (loop_ok C12_16_ok (loops_of (l := []) (by kernel_rfl) (show LoopsOK Try.prog Try.f12.ntmps [] LO12_16 from trivial)) i12_16 o12_16).congr fun x => (congrArg (fun T => loopF T x) (funext e12_16)).symm
noncomputable def C12 : Tab := []
theorem C12_ok : TabOK Try.prog C12 := trivial
noncomputable def LO12 : Tab := [(3, k12_3), (16, k12_16)]
noncomputable def i12 : Tm := { sl := [(0, .v (.l (.i .u8)))], bx := [], bf := [] }
noncomputable def o12 : OT := (.ret { sl := [(0, .v (.i .u32))], bx := [], bf := [] })
/-- anabranch/anabranchref01.Sum -/
noncomputable def F12 (a0 : (List Int)) : Option ((Int × Unit) × Unit × Unit) :=
  ((L12_3 a0 4294967295 0).bind fun y6 => ((L12_16 (iNot .u32 y6.1.1) 0 0).bind fun y7 => (some ((y7.1.1, ()), (), ()))))
noncomputable def c12 : Con := ⟨i12, o12, fun x => F12 x.1.1⟩
theorem e12 (x : i12.E) : vfn Try.prog C12 LO12 Try.f12 b12 i12 o12 x = F12 x.1.1 := by kernel_rfl
theorem c12_ok : Con.OK Try.prog 12 c12 := (fn_ok C12_ok Try.func12 body12 (loops_of (l := [l12_3, l12_16]) (by kernel_rfl) (show LoopsOK Try.prog Try.f12.ntmps [l12_3, l12_16] LO12 from ⟨k12_3_ok, k12_16_ok, trivial⟩)) i12 o12).congr fun x => (e12 x).symm
noncomputable def b10 : Code := (.seq (.region 0 (regOf Try.f10 0) false) (.seq (.region 1 (regOf Try.f10 1) false) .ret))
theorem body10 : Try.f10.body = some b10 := by kernel_rfl
noncomputable def C10 : Tab := [(11, c11)]
theorem C10_ok : TabOK Try.prog C10 := ⟨c11_ok, trivial⟩
noncomputable def LO10 : Tab := []
noncomputable def i10 : Tm := { sl := [], bx := [], bf := [] }
noncomputable def o10 : OT := (.ret { sl := [(0, .v .b)], bx := [], bf := [] })
/-- anabranch/anabranchlaw03.awake -/
noncomputable def F10 : Option ((Bool × Unit) × Unit × Unit) :=
  (bif (decide (0 < ([49, 50, 51, 52, 53, 54, 55, 56, 57]).length)) then ((F11 [49, 50, 51, 52, 53, 54, 55, 56, 57]).bind fun y8 => (some ((((y8.1.1 : Int) == 3808858755), ()), (), ()))) else none)
noncomputable def c10 : Con := ⟨i10, o10, fun x => F10⟩
theorem e10 (x : i10.E) : vfn Try.prog C10 LO10 Try.f10 b10 i10 o10 x = F10 := by kernel_rfl
theorem c10_ok : Con.OK Try.prog 10 c10 := (fn_ok C10_ok Try.func10 body10 (loops_of (l := []) (by kernel_rfl) (show LoopsOK Try.prog Try.f10.ntmps [] LO10 from trivial)) i10 o10).congr fun x => (e10 x).symm
noncomputable def l16_1 : Code := (.seq (.seq (.region 1 (regOf Try.f16 1) false) (.cond (.tmp 6) .skip (.exit 0))) (.seq (.block 1 (.region 3 (regOf Try.f16 3) false)) (.region 2 (regOf Try.f16 2) false)))
noncomputable def b16 : Code := (.seq (.region 0 (regOf Try.f16 0) false) (.seq (.block 0 (.loop l16_1)) (.seq (.region 4 (regOf Try.f16 4) false) .ret)))
theorem body16 : Try.f16.body = some b16 := by kernel_rfl
noncomputable def C16_1 : Tab := []
theorem C16_1_ok : TabOK Try.prog C16_1 := trivial
noncomputable def LO16_1 : Tab := []
noncomputable def i16_1 : Tm := { sl := [(0, .o 0), (1, .v (.i .u64))], bx := [], bf := [(.i .u8)] }
noncomputable def o16_1 : OT := (.exit 0 { sl := [(0, .o 0), (1, .v (.i .u64))], bx := [], bf := [(.i .u8)] })
noncomputable def T16_1 (a1 : Int) (q0 : (List Int)) : Option (((Unit × (Int × Unit)) × Unit × ((List Int) × Unit)) ⊕ ((Unit × (Int × Unit)) × Unit × ((List Int) × Unit))) :=
  (bif (decide ((a1 : Int) ≥ 128)) then (bif (decide ((q0).length + ([(iOr .u8 (IntKind.wrap .u8 a1) 128)]).length < lim)) then (some (.inl (((), (iShr .u64 a1 7), ()), (), ((q0 ++ [(iOr .u8 (IntKind.wrap .u8 a1) 128)]), ())))) else none) else (some (.inr (((), a1, ()), (), (q0, ())))))
noncomputable def L16_1 (a1 : Int) (q0 : (List Int)) : Option ((Unit × (Int × Unit)) × Unit × ((List Int) × Unit)) := loopF (fun x : ((Unit × (Int × Unit)) × Unit × ((List Int) × Unit)) => T16_1 x.1.2.1 x.2.2.1) (((), a1, ()), (), (q0, ()))
theorem L16_1_eq (a1 : Int) (q0 : (List Int)) : L16_1 a1 q0 = (T16_1 a1 q0).bind (Sum.elim (fun x => L16_1 x.1.2.1 x.2.2.1) some) := loopF_eq _ _
noncomputable def k16_1 : Con := ⟨i16_1, o16_1, fun x => L16_1 x.1.2.1 x.2.2.1⟩
theorem e16_1 (x : i16_1.E) : vround Try.prog C16_1 LO16_1 Try.f16.ntmps l16_1 i16_1 o16_1 x = T16_1 x.1.2.1 x.2.2.1 := by kernel_rfl
theorem k16_1_ok : Con.LOK Try.prog Try.f16.ntmps l16_1 k16_1 := (loop_ok C16_1_ok (loops_of (l := []) (by kernel_rfl) (show LoopsOK Try.prog Try.f16.ntmps [] LO16_1 from trivial)) i16_1 o16_1).congr fun x => (congrArg (fun T => loopF T x) (funext e16_1)).symm
noncomputable def C16 : Tab := []
theorem C16_ok : TabOK Try.prog C16 := trivial
noncomputable def LO16 : Tab := [(1, k16_1)]
noncomputable def i16 : Tm := { sl := [(0, .o 0), (1, .v (.i .u64))], bx := [], bf := [(.i .u8)] }
noncomputable def o16 : OT := (.ret { sl := [(0, .o 0)], bx := [], bf := [(.i .u8)] })
/-- anabranch/digits.Lay -/
noncomputable def F16 (a1 : Int) (q0 : (List Int)) : Option ((Unit × Unit) × Unit × ((List Int) × Unit)) :=
  ((L16_1 a1 q0).bind fun y9 => (bif (decide ((y9.2.2.1).length + ([(IntKind.wrap .u8 y9.1.2.1)]).length < lim)) then (some (((), ()), (), ((y9.2.2.1 ++ [(IntKind.wrap .u8 y9.1.2.1)]), ()))) else none))
noncomputable def c16 : Con := ⟨i16, o16, fun x => F16 x.1.2.1 x.2.2.1⟩
theorem e16 (x : i16.E) : vfn Try.prog C16 LO16 Try.f16 b16 i16 o16 x = F16 x.1.2.1 x.2.2.1 := by kernel_rfl
theorem c16_ok : Con.OK Try.prog 16 c16 := (fn_ok C16_ok Try.func16 body16 (loops_of (l := [l16_1]) (by kernel_rfl) (show LoopsOK Try.prog Try.f16.ntmps [l16_1] LO16 from ⟨k16_1_ok, trivial⟩)) i16 o16).congr fun x => (e16 x).symm
noncomputable def l17_3 : Code := (.seq (.region 3 (regOf Try.f17 3) false) (.seq (.cond (.tmp 11) .skip (.exit 0)) (.seq (.block 1 (.seq (.region 4 (regOf Try.f17 4) false) (.seq (.block 2 (.seq (.seq (.region 5 (regOf Try.f17 5) false) (.cond (.tmp 15) .skip (.region 6 (regOf Try.f17 6) false))) (.cond (.tmp 15) (.seq (.region 7 (regOf Try.f17 7) false) .ret) .skip))) (.seq (.region 8 (regOf Try.f17 8) false) (.seq (.region 9 (regOf Try.f17 9) false) (.cond (.tmp 38) (.seq (.region 10 (regOf Try.f17 10) true) .ret) .skip)))))) (.region 11 (regOf Try.f17 11) false))))
noncomputable def b17 : Code := (.seq (.region 0 (regOf Try.f17 0) false) (.seq (.region 1 (regOf Try.f17 1) false) (.seq (.seq (.region 2 (regOf Try.f17 2) false) (.block 0 (.loop l17_3))) (.seq (.region 12 (regOf Try.f17 12) false) .ret))))
theorem body17 : Try.f17.body = some b17 := by kernel_rfl
noncomputable def C17_3 : Tab := []
theorem C17_3_ok : TabOK Try.prog C17_3 := trivial
noncomputable def LO17_3 : Tab := []
noncomputable def i17_3 : Tm := { sl := [(0, .v (.l (.i .u8))), (5, .v (.i .u64)), (8, .v (.l (.i .u8))), (9, .v (.i .i64)), (10, .v (.i .i64))], bx := [], bf := [] }
noncomputable def o17_3 : OT := (.two (.ret { sl := [(2, .v (.i .u64)), (3, .v (.l (.i .u8))), (4, .v (.i .i64))], bx := [], bf := [] }) (.exit 0 { sl := [], bx := [], bf := [] }))
noncomputable def T17_3 (a0 : (List Int)) (a5 : Int) (a8 : (List Int)) (a9 : Int) (a10 : Int) : Option ((((List Int) × (Int × ((List Int) × (Int × (Int × Unit))))) × Unit × Unit) ⊕ (((Int × ((List Int) × (Int × Unit))) × Unit × Unit) ⊕ (Unit × Unit × Unit))) :=
  (bif (decide ((a10 : Int) < a9)) then (bif (decide (0 ≤ (a10 : Int) ∧ (a10 : Int) < (((a8).length : Nat) : Int))) then (bif ((a10 : Int) == 9) then (bif (decide ((((a8).getD (a10 : Int).toNat (0 : Int)) : Int) > 1)) then (some (.inr (.inl ((0, a0, 4, ()), (), ())))) else (bif (decide ((a10 : Int) > 0)) then (bif ((((a8).getD (a10 : Int).toNat (0 : Int)) : Int) == 0) then (some (.inr (.inl ((0, a0, 4, ()), (), ())))) else (bif (decide ((0 : Int) ≤ (IntKind.wrap .i64 (7 * a10)))) then (bif (decide ((((a8).getD (a10 : Int).toNat (0 : Int)) : Int) < 128)) then (bif (decide (0 ≤ ((IntKind.wrap .i64 (a10 + 1)) : Int) ∧ ((IntKind.wrap .i64 (a10 + 1)) : Int) ≤ (((a0).length : Nat) : Int))) then (some (.inr (.inl (((iOr .u64 a5 (iShl .u64 (IntKind.wrap .u64 (iAnd .u8 ((a8).getD (a10 : Int).toNat (0 : Int)) 127)) (IntKind.wrap .i64 (7 * a10)))), ((a0).drop ((IntKind.wrap .i64 (a10 + 1)) : Int).toNat), 0, ()), (), ())))) else none) else (some (.inl ((a0, (iOr .u64 a5 (iShl .u64 (IntKind.wrap .u64 (iAnd .u8 ((a8).getD (a10 : Int).toNat (0 : Int)) 127)) (IntKind.wrap .i64 (7 * a10)))), a8, a9, (IntKind.wrap .i64 (a10 + 1)), ()), (), ())))) else none)) else (bif (decide ((0 : Int) ≤ (IntKind.wrap .i64 (7 * a10)))) then (bif (decide ((((a8).getD (a10 : Int).toNat (0 : Int)) : Int) < 128)) then (bif (decide (0 ≤ ((IntKind.wrap .i64 (a10 + 1)) : Int) ∧ ((IntKind.wrap .i64 (a10 + 1)) : Int) ≤ (((a0).length : Nat) : Int))) then (some (.inr (.inl (((iOr .u64 a5 (iShl .u64 (IntKind.wrap .u64 (iAnd .u8 ((a8).getD (a10 : Int).toNat (0 : Int)) 127)) (IntKind.wrap .i64 (7 * a10)))), ((a0).drop ((IntKind.wrap .i64 (a10 + 1)) : Int).toNat), 0, ()), (), ())))) else none) else (some (.inl ((a0, (iOr .u64 a5 (iShl .u64 (IntKind.wrap .u64 (iAnd .u8 ((a8).getD (a10 : Int).toNat (0 : Int)) 127)) (IntKind.wrap .i64 (7 * a10)))), a8, a9, (IntKind.wrap .i64 (a10 + 1)), ()), (), ())))) else none))) else (bif (decide ((a10 : Int) > 0)) then (bif ((((a8).getD (a10 : Int).toNat (0 : Int)) : Int) == 0) then (some (.inr (.inl ((0, a0, 4, ()), (), ())))) else (bif (decide ((0 : Int) ≤ (IntKind.wrap .i64 (7 * a10)))) then (bif (decide ((((a8).getD (a10 : Int).toNat (0 : Int)) : Int) < 128)) then (bif (decide (0 ≤ ((IntKind.wrap .i64 (a10 + 1)) : Int) ∧ ((IntKind.wrap .i64 (a10 + 1)) : Int) ≤ (((a0).length : Nat) : Int))) then (some (.inr (.inl (((iOr .u64 a5 (iShl .u64 (IntKind.wrap .u64 (iAnd .u8 ((a8).getD (a10 : Int).toNat (0 : Int)) 127)) (IntKind.wrap .i64 (7 * a10)))), ((a0).drop ((IntKind.wrap .i64 (a10 + 1)) : Int).toNat), 0, ()), (), ())))) else none) else (some (.inl ((a0, (iOr .u64 a5 (iShl .u64 (IntKind.wrap .u64 (iAnd .u8 ((a8).getD (a10 : Int).toNat (0 : Int)) 127)) (IntKind.wrap .i64 (7 * a10)))), a8, a9, (IntKind.wrap .i64 (a10 + 1)), ()), (), ())))) else none)) else (bif (decide ((0 : Int) ≤ (IntKind.wrap .i64 (7 * a10)))) then (bif (decide ((((a8).getD (a10 : Int).toNat (0 : Int)) : Int) < 128)) then (bif (decide (0 ≤ ((IntKind.wrap .i64 (a10 + 1)) : Int) ∧ ((IntKind.wrap .i64 (a10 + 1)) : Int) ≤ (((a0).length : Nat) : Int))) then (some (.inr (.inl (((iOr .u64 a5 (iShl .u64 (IntKind.wrap .u64 (iAnd .u8 ((a8).getD (a10 : Int).toNat (0 : Int)) 127)) (IntKind.wrap .i64 (7 * a10)))), ((a0).drop ((IntKind.wrap .i64 (a10 + 1)) : Int).toNat), 0, ()), (), ())))) else none) else (some (.inl ((a0, (iOr .u64 a5 (iShl .u64 (IntKind.wrap .u64 (iAnd .u8 ((a8).getD (a10 : Int).toNat (0 : Int)) 127)) (IntKind.wrap .i64 (7 * a10)))), a8, a9, (IntKind.wrap .i64 (a10 + 1)), ()), (), ())))) else none))) else none) else (some (.inr (.inr ((), (), ())))))
noncomputable def L17_3 (a0 : (List Int)) (a5 : Int) (a8 : (List Int)) (a9 : Int) (a10 : Int) : Option (((Int × ((List Int) × (Int × Unit))) × Unit × Unit) ⊕ (Unit × Unit × Unit)) := loopF (fun x : (((List Int) × (Int × ((List Int) × (Int × (Int × Unit))))) × Unit × Unit) => T17_3 x.1.1 x.1.2.1 x.1.2.2.1 x.1.2.2.2.1 x.1.2.2.2.2.1) ((a0, a5, a8, a9, a10, ()), (), ())
theorem L17_3_eq (a0 : (List Int)) (a5 : Int) (a8 : (List Int)) (a9 : Int) (a10 : Int) : L17_3 a0 a5 a8 a9 a10 = (T17_3 a0 a5 a8 a9 a10).bind (Sum.elim (fun x => L17_3 x.1.1 x.1.2.1 x.1.2.2.1 x.1.2.2.2.1 x.1.2.2.2.2.1) some) := loopF_eq _ _
noncomputable def k17_3 : Con := ⟨i17_3, o17_3, fun x => L17_3 x.1.1 x.1.2.1 x.1.2.2.1 x.1.2.2.2.1 x.1.2.2.2.2.1⟩
theorem e17_3 (x : i17_3.E) : vround Try.prog C17_3 LO17_3 Try.f17.ntmps l17_3 i17_3 o17_3 x = T17_3 x.1.1 x.1.2.1 x.1.2.2.1 x.1.2.2.2.1 x.1.2.2.2.2.1 := by kernel_rfl
theorem k17_3_ok : Con.LOK Try.prog Try.f17.ntmps l17_3 k17_3 := (loop_ok C17_3_ok (loops_of (l := []) (by kernel_rfl) (show LoopsOK Try.prog Try.f17.ntmps [] LO17_3 from trivial)) i17_3 o17_3).congr fun x => (congrArg (fun T => loopF T x) (funext e17_3)).symm
noncomputable def C17 : Tab := []
theorem C17_ok : TabOK Try.prog C17 := trivial
noncomputable def LO17 : Tab := [(3, k17_3)]
noncomputable def i17 : Tm := { sl := [(0, .v (.l (.i .u8)))], bx := [], bf := [] }
noncomputable def o17 : OT := (.ret { sl := [(0, .v (.i .u64)), (1, .v (.l (.i .u8))), (2, .v (.i .i64))], bx := [], bf := [] })
/-- anabranch/digits.Take -/
noncomputable def F17 (a0 : (List Int)) : Option ((Int × ((List Int) × (Int × Unit))) × Unit × Unit) :=
  ((L17_3 a0 0 a0 (((a0).length : Nat) : Int) 0).bind fun y10 => (Sum.elim (fun y11 => (some ((y11.1.1, y11.1.2.1, y11.1.2.2.1, ()), (), ()))) (fun y11 => (some ((0, a0, 5, ()), (), ()))) y10))
noncomputable def c17 : Con := ⟨i17, o17, fun x => F17 x.1.1⟩
theorem e17 (x : i17.E) : vfn Try.prog C17 LO17 Try.f17 b17 i17 o17 x = F17 x.1.1 := by kernel_rfl
theorem c17_ok : Con.OK Try.prog 17 c17 := (fn_ok C17_ok Try.func17 body17 (loops_of (l := [l17_3]) (by kernel_rfl) (show LoopsOK Try.prog Try.f17.ntmps [l17_3] LO17 from ⟨k17_3_ok, trivial⟩)) i17 o17).congr fun x => (e17 x).symm
noncomputable def l18_3 : Code := (.seq (.seq (.region 3 (regOf Try.f18 3) false) (.cond (.tmp 10) .skip (.exit 0))) (.block 1 (.seq (.region 4 (regOf Try.f18 4) false) (.region 5 (regOf Try.f18 5) false))))
noncomputable def b18 : Code := (.seq (.region 0 (regOf Try.f18 0) false) (.seq (.region 1 (regOf Try.f18 1) false) (.seq (.region 2 (regOf Try.f18 2) false) (.seq (.block 0 (.loop l18_3)) (.seq (.region 6 (regOf Try.f18 6) false) .ret)))))
theorem body18 : Try.f18.body = some b18 := by kernel_rfl
noncomputable def C18_3 : Tab := []
theorem C18_3_ok : TabOK Try.prog C18_3 := trivial
noncomputable def LO18_3 : Tab := []
noncomputable def i18_3 : Tm := { sl := [(1, .v (.i .u64)), (5, .o 0)], bx := [], bf := [(.i .u8)] }
noncomputable def o18_3 : OT := (.exit 0 { sl := [(1, .v (.i .u64)), (5, .o 0)], bx := [], bf := [(.i .u8)] })
noncomputable def T18_3 (a1 : Int) (q0 : (List Int)) : Option (((Int × (Unit × Unit)) × Unit × ((List Int) × Unit)) ⊕ ((Int × (Unit × Unit)) × Unit × ((List Int) × Unit))) :=
  (bif (decide ((a1 : Int) > 127)) then (bif (decide ((q0).length + ([(IntKind.wrap .u8 (IntKind.wrap .u64 (128 + ((a1 : Int).tmod 128))))]).length < lim)) then (some (.inl (((IntKind.wrap .u64 ((a1 : Int).tdiv 128)), (), ()), (), ((q0 ++ [(IntKind.wrap .u8 (IntKind.wrap .u64 (128 + ((a1 : Int).tmod 128))))]), ())))) else none) else (some (.inr ((a1, (), ()), (), (q0, ())))))
noncomputable def L18_3 (a1 : Int) (q0 : (List Int)) : Option ((Int × (Unit × Unit)) × Unit × ((List Int) × Unit)) := loopF (fun x : ((Int × (Unit × Unit)) × Unit × ((List Int) × Unit)) => T18_3 x.1.1 x.2.2.1) ((a1, (), ()), (), (q0, ()))
theorem L18_3_eq (a1 : Int) (q0 : (List Int)) : L18_3 a1 q0 = (T18_3 a1 q0).bind (Sum.elim (fun x => L18_3 x.1.1 x.2.2.1) some) := loopF_eq _ _
noncomputable def k18_3 : Con := ⟨i18_3, o18_3, fun x => L18_3 x.1.1 x.2.2.1⟩
theorem e18_3 (x : i18_3.E) : vround Try.prog C18_3 LO18_3 Try.f18.ntmps l18_3 i18_3 o18_3 x = T18_3 x.1.1 x.2.2.1 := by kernel_rfl
theorem k18_3_ok : Con.LOK Try.prog Try.f18.ntmps l18_3 k18_3 := (loop_ok C18_3_ok (loops_of (l := []) (by kernel_rfl) (show LoopsOK Try.prog Try.f18.ntmps [] LO18_3 from trivial)) i18_3 o18_3).congr fun x => (congrArg (fun T => loopF T x) (funext e18_3)).symm
noncomputable def C18 : Tab := []
theorem C18_ok : TabOK Try.prog C18 := trivial
noncomputable def LO18 : Tab := [(3, k18_3)]
noncomputable def i18 : Tm := { sl := [(0, .v (.l (.i .u8))), (1, .v (.i .u64))], bx := [], bf := [] }
noncomputable def o18 : OT := (.ret { sl := [(0, .o 0)], bx := [], bf := [(.i .u8)] })
/-- anabranch/anabranchref01.Lay -/
noncomputable def F18 (a0 : (List Int)) (a1 : Int) : Option ((Unit × Unit) × Unit × ((List Int) × Unit)) :=
  (bif (decide ((a0).length < lim)) then ((L18_3 a1 a0).bind fun y12 => (bif (decide ((y12.2.2.1).length + ([(IntKind.wrap .u8 y12.1.1)]).length < lim)) then (some (((), ()), (), ((y12.2.2.1 ++ [(IntKind.wrap .u8 y12.1.1)]), ()))) else none)) else none)
noncomputable def c18 : Con := ⟨i18, o18, fun x => F18 x.1.1 x.1.2.1⟩
theorem e18 (x : i18.E) : vfn Try.prog C18 LO18 Try.f18 b18 i18 o18 x = F18 x.1.1 x.1.2.1 := by kernel_rfl
theorem c18_ok : Con.OK Try.prog 18 c18 := (fn_ok C18_ok Try.func18 body18 (loops_of (l := [l18_3]) (by kernel_rfl) (show LoopsOK Try.prog Try.f18.ntmps [l18_3] LO18 from ⟨k18_3_ok, trivial⟩)) i18 o18).congr fun x => (e18 x).symm
noncomputable def l19_2 : Code := (.seq (.seq (.region 2 (regOf Try.f19 2) false) (.cond (.tmp 5) .skip (.exit 0))) (.seq (.block 1 (.region 4 (regOf Try.f19 4) false)) (.region 3 (regOf Try.f19 3) false)))
noncomputable def b19 : Code := (.seq (.region 0 (regOf Try.f19 0) false) (.seq (.region 1 (regOf Try.f19 1) false) (.seq (.block 0 (.loop l19_2)) (.seq (.region 5 (regOf Try.f19 5) false) .ret))))
theorem body19 : Try.f19.body = some b19 := by kernel_rfl
noncomputable def C19_2 : Tab := []
theorem C19_2_ok : TabOK Try.prog C19_2 := trivial
noncomputable def LO19_2 : Tab := []
noncomputable def i19_2 : Tm := { sl := [(0, .v (.i .u64)), (3, .v (.i .i64))], bx := [], bf := [] }
noncomputable def o19_2 : OT := (.exit 0 { sl := [(3, .v (.i .i64))], bx := [], bf := [] })
noncomputable def T19_2 (a0 : Int) (a3 : Int) : Option (((Int × (Int × Unit)) × Unit × Unit) ⊕ ((Int × Unit) × Unit × Unit)) :=
  (bif (decide ((a0 : Int) ≥ 128)) then (some (.inl (((iShr .u64 a0 7), (IntKind.wrap .i64 (a3 + 1)), ()), (), ()))) else (some (.inr ((a3, ()), (), ()))))
noncomputable def L19_2 (a0 : Int) (a3 : Int) : Option ((Int × Unit) × Unit × Unit) := loopF (fun x : ((Int × (Int × Unit)) × Unit × Unit) => T19_2 x.1.1 x.1.2.1) ((a0, a3, ()), (), ())
theorem L19_2_eq (a0 : Int) (a3 : Int) : L19_2 a0 a3 = (T19_2 a0 a3).bind (Sum.elim (fun x => L19_2 x.1.1 x.1.2.1) some) := loopF_eq _ _
noncomputable def k19_2 : Con := ⟨i19_2, o19_2, fun x => L19_2 x.1.1 x.1.2.1⟩
theorem e19_2 (x : i19_2.E) : vround Try.prog C19_2 LO19_2 Try.f19.ntmps l19_2 i19_2 o19_2 x = T19_2 x.1.1 x.1.2.1 := by kernel_rfl
theorem k19_2_ok : Con.LOK Try.prog Try.f19.ntmps l19_2 k19_2 := (loop_ok C19_2_ok (loops_of (l := []) (by kernel_rfl) (show LoopsOK Try.prog Try.f19.ntmps [] LO19_2 from trivial)) i19_2 o19_2).congr fun x => (congrArg (fun T => loopF T x) (funext e19_2)).symm
noncomputable def C19 : Tab := []
theorem C19_ok : TabOK Try.prog C19 := trivial
noncomputable def LO19 : Tab := [(2, k19_2)]
noncomputable def i19 : Tm := { sl := [(0, .v (.i .u64))], bx := [], bf := [] }
noncomputable def o19 : OT := (.ret { sl := [(0, .v (.i .i64))], bx := [], bf := [] })
/-- anabranch/digits.Size -/
noncomputable def F19 (a0 : Int) : Option ((Int × Unit) × Unit × Unit) :=
  ((L19_2 a0 1).bind fun y13 => (some ((y13.1.1, ()), (), ())))
noncomputable def c19 : Con := ⟨i19, o19, fun x => F19 x.1.1⟩
theorem e19 (x : i19.E) : vfn Try.prog C19 LO19 Try.f19 b19 i19 o19 x = F19 x.1.1 := by kernel_rfl
theorem c19_ok : Con.OK Try.prog 19 c19 := (fn_ok C19_ok Try.func19 body19 (loops_of (l := [l19_2]) (by kernel_rfl) (show LoopsOK Try.prog Try.f19.ntmps [l19_2] LO19 from ⟨k19_2_ok, trivial⟩)) i19 o19).congr fun x => (e19 x).symm
noncomputable def b31 : Code := (.seq (.region 0 (regOf Try.f31 0) false) (.seq (.region 1 (regOf Try.f31 1) false) .ret))
theorem body31 : Try.f31.body = some b31 := by kernel_rfl
noncomputable def C31 : Tab := [(16, c16)]
theorem C31_ok : TabOK Try.prog C31 := ⟨c16_ok, trivial⟩
noncomputable def LO31 : Tab := []
noncomputable def i31 : Tm := { sl := [(0, .o 0), (1, .v (.l (.i .u8)))], bx := [], bf := [(.i .u8)] }
noncomputable def o31 : OT := (.ret { sl := [(0, .o 0)], bx := [], bf := [(.i .u8)] })
/-- anabranch/digits.LayText -/
noncomputable def F31 (a1 : (List Int)) (q0 : (List Int)) : Option ((Unit × Unit) × Unit × ((List Int) × Unit)) :=
  ((F16 (IntKind.wrap .u64 (((a1).length : Nat) : Int)) q0).bind fun y14 => (bif (decide ((y14.2.2.1).length + (a1).length < lim)) then (some (((), ()), (), ((y14.2.2.1 ++ a1), ()))) else none))
noncomputable def c31 : Con := ⟨i31, o31, fun x => F31 x.1.2.1 x.2.2.1⟩
theorem e31 (x : i31.E) : vfn Try.prog C31 LO31 Try.f31 b31 i31 o31 x = F31 x.1.2.1 x.2.2.1 := by kernel_rfl
theorem c31_ok : Con.OK Try.prog 31 c31 := (fn_ok C31_ok Try.func31 body31 (loops_of (l := []) (by kernel_rfl) (show LoopsOK Try.prog Try.f31.ntmps [] LO31 from trivial)) i31 o31).congr fun x => (e31 x).symm
noncomputable def b27 : Code := (.seq (.region 0 (regOf Try.f27 0) false) (.seq (.region 1 (regOf Try.f27 1) false) .ret))
theorem body27 : Try.f27.body = some b27 := by kernel_rfl
noncomputable def C27 : Tab := [(18, c18)]
theorem C27_ok : TabOK Try.prog C27 := ⟨c18_ok, trivial⟩
noncomputable def LO27 : Tab := []
noncomputable def i27 : Tm := { sl := [(0, .v (.l (.i .u8))), (1, .v (.l (.i .u8)))], bx := [], bf := [] }
noncomputable def o27 : OT := (.ret { sl := [(0, .o 0)], bx := [], bf := [(.i .u8)] })
/-- anabranch/anabranchref01.Text -/
noncomputable def F27 (a0 : (List Int)) (a1 : (List Int)) : Option ((Unit × Unit) × Unit × ((List Int) × Unit)) :=
  ((F18 a0 (IntKind.wrap .u64 (((a1).length : Nat) : Int))).bind fun y15 => (bif (decide ((y15.2.2.1).length + (a1).length < lim)) then (some (((), ()), (), ((y15.2.2.1 ++ a1), ()))) else none))
noncomputable def c27 : Con := ⟨i27, o27, fun x => F27 x.1.1 x.1.2.1⟩
theorem e27 (x : i27.E) : vfn Try.prog C27 LO27 Try.f27 b27 i27 o27 x = F27 x.1.1 x.1.2.1 := by kernel_rfl
theorem c27_ok : Con.OK Try.prog 27 c27 := (fn_ok C27_ok Try.func27 body27 (loops_of (l := []) (by kernel_rfl) (show LoopsOK Try.prog Try.f27.ntmps [] LO27 from trivial)) i27 o27).congr fun x => (e27 x).symm
noncomputable def b28 : Code := (.seq (.region 0 (regOf Try.f28 0) false) (.seq (.region 1 (regOf Try.f28 1) false) (.seq (.block 0 (.seq (.region 2 (regOf Try.f28 2) false) (.cond (.tmp 16) (.seq (.region 3 (regOf Try.f28 3) false) .ret) (.seq (.region 4 (regOf Try.f28 4) false) (.cond (.tmp 21) (.seq (.region 5 (regOf Try.f28 5) false) .ret) (.seq (.region 6 (regOf Try.f28 6) false) (.cond (.tmp 31) (.seq (.region 7 (regOf Try.f28 7) false) .ret) .skip))))))) (.seq (.region 8 (regOf Try.f28 8) true) .ret))))
theorem body28 : Try.f28.body = some b28 := by kernel_rfl
noncomputable def C28 : Tab := [(17, c17)]
theorem C28_ok : TabOK Try.prog C28 := ⟨c17_ok, trivial⟩
noncomputable def LO28 : Tab := []
noncomputable def i28 : Tm := { sl := [(0, .v (.l (.i .u8))), (1, .v (.i .i64))], bx := [], bf := [] }
noncomputable def o28 : OT := (.ret { sl := [(0, .v (.l (.i .u8))), (1, .v (.l (.i .u8))), (2, .v (.i .i64))], bx := [], bf := [] })
/-- anabranch/digits.TakeText -/
noncomputable def F28 (a0 : (List Int)) (a1 : Int) : Option (((List Int) × ((List Int) × (Int × Unit))) × Unit × Unit) :=
  ((F17 a0).bind fun y16 => (bif ((y16.1.2.2.1 : Int) != 0) then (some (([], a0, y16.1.2.2.1, ()), (), ())) else (bif (decide ((a1 : Int) < 0)) then (some (([], a0, 6, ()), (), ())) else (bif (decide ((y16.1.1 : Int) > (IntKind.wrap .u64 a1))) then (some (([], a0, 6, ()), (), ())) else (bif (decide ((y16.1.1 : Int) > (IntKind.wrap .u64 (((y16.1.2.1).length : Nat) : Int)))) then (some (([], a0, 5, ()), (), ())) else (bif (decide (0 ≤ (y16.1.1 : Int) ∧ (y16.1.1 : Int) ≤ (((y16.1.2.1).length : Nat) : Int))) then (bif (decide ((((y16.1.2.1).take (y16.1.1 : Int).toNat)).length < lim)) then (bif (decide (0 ≤ (y16.1.1 : Int) ∧ (y16.1.1 : Int) ≤ (((y16.1.2.1).length : Nat) : Int))) then (some ((((y16.1.2.1).take (y16.1.1 : Int).toNat), ((y16.1.2.1).drop (y16.1.1 : Int).toNat), 0, ()), (), ())) else none) else none) else none))))))
noncomputable def c28 : Con := ⟨i28, o28, fun x => F28 x.1.1 x.1.2.1⟩
theorem e28 (x : i28.E) : vfn Try.prog C28 LO28 Try.f28 b28 i28 o28 x = F28 x.1.1 x.1.2.1 := by kernel_rfl
theorem c28_ok : Con.OK Try.prog 28 c28 := (fn_ok C28_ok Try.func28 body28 (loops_of (l := []) (by kernel_rfl) (show LoopsOK Try.prog Try.f28.ntmps [] LO28 from trivial)) i28 o28).congr fun x => (e28 x).symm
noncomputable def b29 : Code := (.seq (.region 0 (regOf Try.f29 0) false) (.seq (.region 1 (regOf Try.f29 1) false) .ret))
theorem body29 : Try.f29.body = some b29 := by kernel_rfl
noncomputable def C29 : Tab := []
theorem C29_ok : TabOK Try.prog C29 := trivial
noncomputable def LO29 : Tab := []
noncomputable def i29 : Tm := { sl := [(0, .v (.i .u32))], bx := [], bf := [] }
noncomputable def o29 : OT := (.ret { sl := [(0, .v (.l (.i .u8)))], bx := [], bf := [] })
/-- anabranch/check.four -/
noncomputable def F29 (a0 : Int) : Option (((List Int) × Unit) × Unit × Unit) :=
  (some (([(IntKind.wrap .u8 (iShr .u32 a0 24)), (IntKind.wrap .u8 (iShr .u32 a0 16)), (IntKind.wrap .u8 (iShr .u32 a0 8)), (IntKind.wrap .u8 a0)], ()), (), ()))
noncomputable def c29 : Con := ⟨i29, o29, fun x => F29 x.1.1⟩
theorem e29 (x : i29.E) : vfn Try.prog C29 LO29 Try.f29 b29 i29 o29 x = F29 x.1.1 := by kernel_rfl
theorem c29_ok : Con.OK Try.prog 29 c29 := (fn_ok C29_ok Try.func29 body29 (loops_of (l := []) (by kernel_rfl) (show LoopsOK Try.prog Try.f29.ntmps [] LO29 from trivial)) i29 o29).congr fun x => (e29 x).symm
noncomputable def b20 : Code := (.seq (.region 0 (regOf Try.f20 0) false) (.seq (.region 1 (regOf Try.f20 1) false) (.seq (.region 2 (regOf Try.f20 2) false) (.seq (.region 3 (regOf Try.f20 3) false) .ret))))
theorem body20 : Try.f20.body = some b20 := by kernel_rfl
noncomputable def C20 : Tab := [(12, c12), (27, c27)]
theorem C20_ok : TabOK Try.prog C20 := ⟨c12_ok, c27_ok, trivial⟩
noncomputable def LO20 : Tab := []
noncomputable def i20 : Tm := { sl := [(0, .v (.l (.i .u8)))], bx := [], bf := [] }
noncomputable def o20 : OT := (.ret { sl := [(0, .o 0)], bx := [], bf := [(.i .u8)] })
/-- anabranch/anabranchref01.Wrap -/
noncomputable def F20 (a0 : (List Int)) : Option ((Unit × Unit) × Unit × ((List Int) × Unit)) :=
  ((F27 [] a0).bind fun y17 => ((F12 y17.2.2.1).bind fun y18 => (bif (decide ((y17.2.2.1).length + ([(IntKind.wrap .u8 (iShr .u32 y18.1.1 24)), (IntKind.wrap .u8 (iShr .u32 y18.1.1 16)), (IntKind.wrap .u8 (iShr .u32 y18.1.1 8)), (IntKind.wrap .u8 y18.1.1)]).length < lim)) then (some (((), ()), (), ((y17.2.2.1 ++ [(IntKind.wrap .u8 (iShr .u32 y18.1.1 24)), (IntKind.wrap .u8 (iShr .u32 y18.1.1 16)), (IntKind.wrap .u8 (iShr .u32 y18.1.1 8)), (IntKind.wrap .u8 y18.1.1)]), ()))) else none)))
noncomputable def c20 : Con := ⟨i20, o20, fun x => F20 x.1.1⟩
theorem e20 (x : i20.E) : vfn Try.prog C20 LO20 Try.f20 b20 i20 o20 x = F20 x.1.1 := by kernel_rfl
theorem c20_ok : Con.OK Try.prog 20 c20 := (fn_ok C20_ok Try.func20 body20 (loops_of (l := []) (by kernel_rfl) (show LoopsOK Try.prog Try.f20.ntmps [] LO20 from trivial)) i20 o20).congr fun x => (e20 x).symm
noncomputable def b25 : Code := (.seq (.region 0 (regOf Try.f25 0) false) (.seq (.region 1 (regOf Try.f25 1) false) (.seq (.region 2 (regOf Try.f25 2) false) .ret)))
theorem body25 : Try.f25.body = some b25 := by kernel_rfl
noncomputable def C25 : Tab := [(11, c11), (29, c29), (31, c31)]
theorem C25_ok : TabOK Try.prog C25 := ⟨c11_ok, c29_ok, c31_ok, trivial⟩
noncomputable def LO25 : Tab := []
noncomputable def i25 : Tm := { sl := [(0, .v (.l (.i .u8)))], bx := [], bf := [] }
noncomputable def o25 : OT := (.ret { sl := [(0, .o 0)], bx := [], bf := [(.i .u8)] })
/-- anabranch/check.Wrap -/
noncomputable def F25 (a0 : (List Int)) : Option ((Unit × Unit) × Unit × ((List Int) × Unit)) :=
  ((F31 a0 ([] : List Int)).bind fun y19 => ((F11 y19.2.2.1).bind fun y20 => ((F29 y20.1.1).bind fun y21 => (bif (decide ((y19.2.2.1).length + (y21.1.1).length < lim)) then (some (((), ()), (), ((y19.2.2.1 ++ y21.1.1), ()))) else none))))
noncomputable def c25 : Con := ⟨i25, o25, fun x => F25 x.1.1⟩
theorem e25 (x : i25.E) : vfn Try.prog C25 LO25 Try.f25 b25 i25 o25 x = F25 x.1.1 := by kernel_rfl
theorem c25_ok : Con.OK Try.prog 25 c25 := (fn_ok C25_ok Try.func25 body25 (loops_of (l := []) (by kernel_rfl) (show LoopsOK Try.prog Try.f25.ntmps [] LO25 from trivial)) i25 o25).congr fun x => (e25 x).symm
noncomputable def b26 : Code := (.seq (.region 0 (regOf Try.f26 0) false) (.seq (.region 1 (regOf Try.f26 1) false) .ret))
theorem body26 : Try.f26.body = some b26 := by kernel_rfl
noncomputable def C26 : Tab := [(19, c19)]
theorem C26_ok : TabOK Try.prog C26 := ⟨c19_ok, trivial⟩
noncomputable def LO26 : Tab := []
noncomputable def i26 : Tm := { sl := [(0, .v (.i .i64))], bx := [], bf := [] }
noncomputable def o26 : OT := (.ret { sl := [(0, .v (.i .i64))], bx := [], bf := [] })
/-- anabranch/check.Size -/
noncomputable def F26 (a0 : Int) : Option ((Int × Unit) × Unit × Unit) :=
  ((F19 (IntKind.wrap .u64 (if (0 : Int) > a0 then 0 else a0))).bind fun y22 => (some (((IntKind.wrap .i64 ((IntKind.wrap .i64 (y22.1.1 + (if (0 : Int) > a0 then 0 else a0))) + 4)), ()), (), ())))
noncomputable def c26 : Con := ⟨i26, o26, fun x => F26 x.1.1⟩
theorem e26 (x : i26.E) : vfn Try.prog C26 LO26 Try.f26 b26 i26 o26 x = F26 x.1.1 := by kernel_rfl
theorem c26_ok : Con.OK Try.prog 26 c26 := (fn_ok C26_ok Try.func26 body26 (loops_of (l := []) (by kernel_rfl) (show LoopsOK Try.prog Try.f26.ntmps [] LO26 from trivial)) i26 o26).congr fun x => (e26 x).symm
noncomputable def l30_3 : Code := (.seq (.seq (.region 3 (regOf Try.f30 3) false) (.cond (.tmp 10) .skip (.exit 0))) (.seq (.block 1 (.seq (.seq (.region 5 (regOf Try.f30 5) false) (.cond (.tmp 32) (.seq (.region 6 (regOf Try.f30 6) false) .ret) .skip)) (.seq (.region 7 (regOf Try.f30 7) false) (.seq (.region 8 (regOf Try.f30 8) false) (.cond (.tmp 48) (.seq (.region 9 (regOf Try.f30 9) false) .ret) .skip))))) (.region 4 (regOf Try.f30 4) false)))
noncomputable def b30 : Code := (.seq (.region 0 (regOf Try.f30 0) false) (.seq (.region 1 (regOf Try.f30 1) false) (.seq (.seq (.region 2 (regOf Try.f30 2) false) (.block 0 (.loop l30_3))) (.seq (.region 10 (regOf Try.f30 10) false) .ret))))
theorem body30 : Try.f30.body = some b30 := by kernel_rfl
noncomputable def C30_3 : Tab := []
theorem C30_3_ok : TabOK Try.prog C30_3 := trivial
noncomputable def LO30_3 : Tab := []
noncomputable def i30_3 : Tm := { sl := [(0, .v (.l (.i .u8))), (5, .v (.i .u64)), (6, .v (.i .i64))], bx := [], bf := [] }
noncomputable def o30_3 : OT := (.two (.ret { sl := [(2, .v (.i .u64)), (3, .v (.i .i64)), (4, .v (.i .i64))], bx := [], bf := [] }) (.exit 0 { sl := [], bx := [], bf := [] }))
noncomputable def T30_3 (a0 : (List Int)) (a5 : Int) (a6 : Int) : Option ((((List Int) × (Int × (Int × Unit))) × Unit × Unit) ⊕ (((Int × (Int × (Int × Unit))) × Unit × Unit) ⊕ (Unit × Unit × Unit))) :=
  (bif (decide ((a6 : Int) < (((a0).length : Nat) : Int))) then (bif ((a6 : Int) == 9) then (bif (decide (0 ≤ (a6 : Int) ∧ (a6 : Int) < (((a0).length : Nat) : Int))) then (bif (decide ((((a0).getD (a6 : Int).toNat (0 : Int)) : Int) > 1)) then (some (.inr (.inl ((0, 0, 4, ()), (), ())))) else (bif (decide ((a6 : Int) > 0)) then (bif (decide (0 ≤ (a6 : Int) ∧ (a6 : Int) < (((a0).length : Nat) : Int))) then (bif ((((a0).getD (a6 : Int).toNat (0 : Int)) : Int) == 0) then (some (.inr (.inl ((0, 0, 4, ()), (), ())))) else (bif (decide (0 ≤ (a6 : Int) ∧ (a6 : Int) < (((a0).length : Nat) : Int))) then (bif (decide ((0 : Int) ≤ (IntKind.wrap .i64 (7 * a6)))) then (bif (decide (0 ≤ (a6 : Int) ∧ (a6 : Int) < (((a0).length : Nat) : Int))) then (bif (decide ((((a0).getD (a6 : Int).toNat (0 : Int)) : Int) < 128)) then (some (.inr (.inl (((IntKind.wrap .u64 (a5 + (iShl .u64 (IntKind.wrap .u64 ((((a0).getD (a6 : Int).toNat (0 : Int)) : Int).tmod 128)) (IntKind.wrap .i64 (7 * a6))))), (IntKind.wrap .i64 (a6 + 1)), 0, ()), (), ())))) else (some (.inl ((a0, (IntKind.wrap .u64 (a5 + (iShl .u64 (IntKind.wrap .u64 ((((a0).getD (a6 : Int).toNat (0 : Int)) : Int).tmod 128)) (IntKind.wrap .i64 (7 * a6))))), (IntKind.wrap .i64 (a6 + 1)), ()), (), ())))) else none) else none) else none)) else none) else (bif (decide (0 ≤ (a6 : Int) ∧ (a6 : Int) < (((a0).length : Nat) : Int))) then (bif (decide ((0 : Int) ≤ (IntKind.wrap .i64 (7 * a6)))) then (bif (decide (0 ≤ (a6 : Int) ∧ (a6 : Int) < (((a0).length : Nat) : Int))) then (bif (decide ((((a0).getD (a6 : Int).toNat (0 : Int)) : Int) < 128)) then (some (.inr (.inl (((IntKind.wrap .u64 (a5 + (iShl .u64 (IntKind.wrap .u64 ((((a0).getD (a6 : Int).toNat (0 : Int)) : Int).tmod 128)) (IntKind.wrap .i64 (7 * a6))))), (IntKind.wrap .i64 (a6 + 1)), 0, ()), (), ())))) else (some (.inl ((a0, (IntKind.wrap .u64 (a5 + (iShl .u64 (IntKind.wrap .u64 ((((a0).getD (a6 : Int).toNat (0 : Int)) : Int).tmod 128)) (IntKind.wrap .i64 (7 * a6))))), (IntKind.wrap .i64 (a6 + 1)), ()), (), ())))) else none) else none) else none))) else none) else (bif (decide ((a6 : Int) > 0)) then (bif (decide (0 ≤ (a6 : Int) ∧ (a6 : Int) < (((a0).length : Nat) : Int))) then (bif ((((a0).getD (a6 : Int).toNat (0 : Int)) : Int) == 0) then (some (.inr (.inl ((0, 0, 4, ()), (), ())))) else (bif (decide (0 ≤ (a6 : Int) ∧ (a6 : Int) < (((a0).length : Nat) : Int))) then (bif (decide ((0 : Int) ≤ (IntKind.wrap .i64 (7 * a6)))) then (bif (decide (0 ≤ (a6 : Int) ∧ (a6 : Int) < (((a0).length : Nat) : Int))) then (bif (decide ((((a0).getD (a6 : Int).toNat (0 : Int)) : Int) < 128)) then (some (.inr (.inl (((IntKind.wrap .u64 (a5 + (iShl .u64 (IntKind.wrap .u64 ((((a0).getD (a6 : Int).toNat (0 : Int)) : Int).tmod 128)) (IntKind.wrap .i64 (7 * a6))))), (IntKind.wrap .i64 (a6 + 1)), 0, ()), (), ())))) else (some (.inl ((a0, (IntKind.wrap .u64 (a5 + (iShl .u64 (IntKind.wrap .u64 ((((a0).getD (a6 : Int).toNat (0 : Int)) : Int).tmod 128)) (IntKind.wrap .i64 (7 * a6))))), (IntKind.wrap .i64 (a6 + 1)), ()), (), ())))) else none) else none) else none)) else none) else (bif (decide (0 ≤ (a6 : Int) ∧ (a6 : Int) < (((a0).length : Nat) : Int))) then (bif (decide ((0 : Int) ≤ (IntKind.wrap .i64 (7 * a6)))) then (bif (decide (0 ≤ (a6 : Int) ∧ (a6 : Int) < (((a0).length : Nat) : Int))) then (bif (decide ((((a0).getD (a6 : Int).toNat (0 : Int)) : Int) < 128)) then (some (.inr (.inl (((IntKind.wrap .u64 (a5 + (iShl .u64 (IntKind.wrap .u64 ((((a0).getD (a6 : Int).toNat (0 : Int)) : Int).tmod 128)) (IntKind.wrap .i64 (7 * a6))))), (IntKind.wrap .i64 (a6 + 1)), 0, ()), (), ())))) else (some (.inl ((a0, (IntKind.wrap .u64 (a5 + (iShl .u64 (IntKind.wrap .u64 ((((a0).getD (a6 : Int).toNat (0 : Int)) : Int).tmod 128)) (IntKind.wrap .i64 (7 * a6))))), (IntKind.wrap .i64 (a6 + 1)), ()), (), ())))) else none) else none) else none))) else (some (.inr (.inr ((), (), ())))))
noncomputable def L30_3 (a0 : (List Int)) (a5 : Int) (a6 : Int) : Option (((Int × (Int × (Int × Unit))) × Unit × Unit) ⊕ (Unit × Unit × Unit)) := loopF (fun x : (((List Int) × (Int × (Int × Unit))) × Unit × Unit) => T30_3 x.1.1 x.1.2.1 x.1.2.2.1) ((a0, a5, a6, ()), (), ())
theorem L30_3_eq (a0 : (List Int)) (a5 : Int) (a6 : Int) : L30_3 a0 a5 a6 = (T30_3 a0 a5 a6).bind (Sum.elim (fun x => L30_3 x.1.1 x.1.2.1 x.1.2.2.1) some) := loopF_eq _ _
noncomputable def k30_3 : Con := ⟨i30_3, o30_3, fun x => L30_3 x.1.1 x.1.2.1 x.1.2.2.1⟩
theorem e30_3 (x : i30_3.E) : vround Try.prog C30_3 LO30_3 Try.f30.ntmps l30_3 i30_3 o30_3 x = T30_3 x.1.1 x.1.2.1 x.1.2.2.1 := by kernel_rfl
theorem k30_3_ok : Con.LOK Try.prog Try.f30.ntmps l30_3 k30_3 := (loop_ok C30_3_ok (loops_of (l := []) (by kernel_rfl) (show LoopsOK Try.prog Try.f30.ntmps [] LO30_3 from trivial)) i30_3 o30_3).congr fun x => (congrArg (fun T => loopF T x) (funext e30_3)).symm
noncomputable def C30 : Tab := []
theorem C30_ok : TabOK Try.prog C30 := trivial
noncomputable def LO30 : Tab := [(3, k30_3)]
noncomputable def i30 : Tm := { sl := [(0, .v (.l (.i .u8)))], bx := [], bf := [] }
noncomputable def o30 : OT := (.ret { sl := [(0, .v (.i .u64)), (1, .v (.i .i64)), (2, .v (.i .i64))], bx := [], bf := [] })
/-- anabranch/anabranchref01.Take -/
noncomputable def F30 (a0 : (List Int)) : Option ((Int × (Int × (Int × Unit))) × Unit × Unit) :=
  ((L30_3 a0 0 0).bind fun y23 => (Sum.elim (fun y24 => (some ((y24.1.1, y24.1.2.1, y24.1.2.2.1, ()), (), ()))) (fun y24 => (some ((0, 0, 5, ()), (), ()))) y23))
noncomputable def c30 : Con := ⟨i30, o30, fun x => F30 x.1.1⟩
theorem e30 (x : i30.E) : vfn Try.prog C30 LO30 Try.f30 b30 i30 o30 x = F30 x.1.1 := by kernel_rfl
theorem c30_ok : Con.OK Try.prog 30 c30 := (fn_ok C30_ok Try.func30 body30 (loops_of (l := [l30_3]) (by kernel_rfl) (show LoopsOK Try.prog Try.f30.ntmps [l30_3] LO30 from ⟨k30_3_ok, trivial⟩)) i30 o30).congr fun x => (e30 x).symm
noncomputable def b21 : Code := (.seq (.region 0 (regOf Try.f21 0) false) (.seq (.region 1 (regOf Try.f21 1) false) (.seq (.block 0 (.seq (.region 2 (regOf Try.f21 2) false) (.cond (.tmp 17) (.seq (.region 3 (regOf Try.f21 3) false) .ret) (.seq (.region 4 (regOf Try.f21 4) false) (.cond (.tmp 22) (.seq (.region 5 (regOf Try.f21 5) false) .ret) (.seq (.region 6 (regOf Try.f21 6) true) (.cond (.tmp 27) (.seq (.region 7 (regOf Try.f21 7) false) .ret) .skip))))))) (.seq (.region 8 (regOf Try.f21 8) true) .ret))))
theorem body21 : Try.f21.body = some b21 := by kernel_rfl
noncomputable def C21 : Tab := [(11, c11), (28, c28), (29, c29)]
theorem C21_ok : TabOK Try.prog C21 := ⟨c11_ok, c28_ok, c29_ok, trivial⟩
noncomputable def LO21 : Tab := []
noncomputable def i21 : Tm := { sl := [(0, .v (.l (.i .u8))), (1, .v (.i .i64))], bx := [], bf := [] }
noncomputable def o21 : OT := (.ret { sl := [(0, .v (.l (.i .u8))), (1, .v (.l (.i .u8))), (2, .v (.i .i64))], bx := [], bf := [] })
/-- anabranch/check.Open -/
noncomputable def F21 (a0 : (List Int)) (a1 : Int) : Option (((List Int) × ((List Int) × (Int × Unit))) × Unit × Unit) :=
  ((F28 a0 a1).bind fun y25 => (bif ((y25.1.2.2.1 : Int) != 0) then (some (([], a0, y25.1.2.2.1, ()), (), ())) else (bif (decide (((((y25.1.2.1).length : Nat) : Int) : Int) < 4)) then (some (([], a0, 5, ()), (), ())) else (bif (decide (0 ≤ ((IntKind.wrap .i64 ((((a0).length : Nat) : Int) - (((y25.1.2.1).length : Nat) : Int))) : Int) ∧ ((IntKind.wrap .i64 ((((a0).length : Nat) : Int) - (((y25.1.2.1).length : Nat) : Int))) : Int) ≤ (((a0).length : Nat) : Int))) then ((F11 ((a0).take ((IntKind.wrap .i64 ((((a0).length : Nat) : Int) - (((y25.1.2.1).length : Nat) : Int))) : Int).toNat)).bind fun y26 => ((F29 y26.1.1).bind fun y27 => (bif (decide (0 ≤ (4 : Int) ∧ (4 : Int) ≤ (((y25.1.2.1).length : Nat) : Int))) then (bif (!(((strL y27.1.1) : ByteArray).toList == ((strL ((y25.1.2.1).take (4 : Int).toNat)) : ByteArray).toList)) then (some (([], a0, 4, ()), (), ())) else (bif (decide (0 ≤ (4 : Int) ∧ (4 : Int) ≤ (((y25.1.2.1).length : Nat) : Int))) then (some ((y25.1.1, ((y25.1.2.1).drop (4 : Int).toNat), 0, ()), (), ())) else none)) else none))) else none))))
noncomputable def c21 : Con := ⟨i21, o21, fun x => F21 x.1.1 x.1.2.1⟩
theorem e21 (x : i21.E) : vfn Try.prog C21 LO21 Try.f21 b21 i21 o21 x = F21 x.1.1 x.1.2.1 := by kernel_rfl
theorem c21_ok : Con.OK Try.prog 21 c21 := (fn_ok C21_ok Try.func21 body21 (loops_of (l := []) (by kernel_rfl) (show LoopsOK Try.prog Try.f21.ntmps [] LO21 from trivial)) i21 o21).congr fun x => (e21 x).symm
noncomputable def b22 : Code := (.seq (.region 0 (regOf Try.f22 0) false) (.seq (.region 1 (regOf Try.f22 1) false) (.seq (.seq (.region 2 (regOf Try.f22 2) false) (.cond (.tmp 19) (.seq (.region 3 (regOf Try.f22 3) false) .ret) .skip)) (.seq (.seq (.region 4 (regOf Try.f22 4) false) (.cond (.tmp 28) (.seq (.region 5 (regOf Try.f22 5) false) .ret) .skip)) (.seq (.seq (.region 6 (regOf Try.f22 6) false) (.cond (.tmp 35) (.seq (.region 7 (regOf Try.f22 7) false) .ret) .skip)) (.seq (.region 8 (regOf Try.f22 8) false) (.seq (.seq (.region 9 (regOf Try.f22 9) false) (.cond (.tmp 44) (.seq (.region 10 (regOf Try.f22 10) false) .ret) .skip)) (.seq (.region 11 (regOf Try.f22 11) false) (.seq (.seq (.region 12 (regOf Try.f22 12) true) (.cond (.tmp 57) (.seq (.region 13 (regOf Try.f22 13) false) .ret) .skip)) (.seq (.region 14 (regOf Try.f22 14) false) .ret))))))))))
theorem body22 : Try.f22.body = some b22 := by kernel_rfl
noncomputable def C22 : Tab := [(20, c20), (30, c30)]
theorem C22_ok : TabOK Try.prog C22 := ⟨c20_ok, c30_ok, trivial⟩
noncomputable def LO22 : Tab := []
noncomputable def i22 : Tm := { sl := [(0, .v (.l (.i .u8))), (1, .v (.i .i64))], bx := [], bf := [] }
noncomputable def o22 : OT := (.ret { sl := [(0, .v (.l (.i .u8))), (1, .v (.i .i64)), (2, .v (.i .i64))], bx := [], bf := [] })
/-- anabranch/anabranchref01.Open -/
noncomputable def F22 (a0 : (List Int)) (a1 : Int) : Option (((List Int) × (Int × (Int × Unit))) × Unit × Unit) :=
  ((F30 a0).bind fun y28 => (bif ((y28.1.2.2.1 : Int) != 0) then (some (([], 0, y28.1.2.2.1, ()), (), ())) else (bif (decide ((a1 : Int) < 0)) then (some (([], 0, 6, ()), (), ())) else (bif (decide ((y28.1.1 : Int) > (IntKind.wrap .u64 a1))) then (some (([], 0, 6, ()), (), ())) else (bif (decide ((y28.1.1 : Int) > (IntKind.wrap .u64 (IntKind.wrap .i64 ((((a0).length : Nat) : Int) - y28.1.2.1))))) then (some (([], 0, 5, ()), (), ())) else (bif (decide (((IntKind.wrap .i64 ((((a0).length : Nat) : Int) - (IntKind.wrap .i64 (y28.1.2.1 + (IntKind.wrap .i64 y28.1.1))))) : Int) < 4)) then (some (([], 0, 5, ()), (), ())) else (bif (decide (0 ≤ (y28.1.2.1 : Int) ∧ (y28.1.2.1 : Int) ≤ (IntKind.wrap .i64 (y28.1.2.1 + (IntKind.wrap .i64 y28.1.1))) ∧ ((IntKind.wrap .i64 (y28.1.2.1 + (IntKind.wrap .i64 y28.1.1))) : Int) ≤ (((a0).length : Nat) : Int))) then ((F20 (((a0).take ((IntKind.wrap .i64 (y28.1.2.1 + (IntKind.wrap .i64 y28.1.1))) : Int).toNat).drop (y28.1.2.1 : Int).toNat)).bind fun y29 => (bif (decide (0 ≤ ((IntKind.wrap .i64 ((IntKind.wrap .i64 (y28.1.2.1 + (IntKind.wrap .i64 y28.1.1))) + 4)) : Int) ∧ ((IntKind.wrap .i64 ((IntKind.wrap .i64 (y28.1.2.1 + (IntKind.wrap .i64 y28.1.1))) + 4)) : Int) ≤ (((a0).length : Nat) : Int))) then (bif (!(((strL y29.2.2.1) : ByteArray).toList == ((strL ((a0).take ((IntKind.wrap .i64 ((IntKind.wrap .i64 (y28.1.2.1 + (IntKind.wrap .i64 y28.1.1))) + 4)) : Int).toNat)) : ByteArray).toList)) then (some (([], 0, 4, ()), (), ())) else (bif (decide (0 ≤ (y28.1.2.1 : Int) ∧ (y28.1.2.1 : Int) ≤ (IntKind.wrap .i64 (y28.1.2.1 + (IntKind.wrap .i64 y28.1.1))) ∧ ((IntKind.wrap .i64 (y28.1.2.1 + (IntKind.wrap .i64 y28.1.1))) : Int) ≤ (((a0).length : Nat) : Int))) then (some (((((a0).take ((IntKind.wrap .i64 (y28.1.2.1 + (IntKind.wrap .i64 y28.1.1))) : Int).toNat).drop (y28.1.2.1 : Int).toNat), (IntKind.wrap .i64 ((IntKind.wrap .i64 (y28.1.2.1 + (IntKind.wrap .i64 y28.1.1))) + 4)), 0, ()), (), ())) else none)) else none)) else none)))))))
noncomputable def c22 : Con := ⟨i22, o22, fun x => F22 x.1.1 x.1.2.1⟩
theorem e22 (x : i22.E) : vfn Try.prog C22 LO22 Try.f22 b22 i22 o22 x = F22 x.1.1 x.1.2.1 := by kernel_rfl
theorem c22_ok : Con.OK Try.prog 22 c22 := (fn_ok C22_ok Try.func22 body22 (loops_of (l := []) (by kernel_rfl) (show LoopsOK Try.prog Try.f22.ntmps [] LO22 from trivial)) i22 o22).congr fun x => (e22 x).symm
noncomputable def l23_3 : Code := (.seq (.seq (.region 3 (regOf Try.f23 3) false) (.cond (.tmp 15) .skip (.exit 0))) (.block 1 (.seq (.region 4 (regOf Try.f23 4) false) (.seq (.seq (.region 5 (regOf Try.f23 5) false) (.cond (.tmp 24) (.seq (.region 6 (regOf Try.f23 6) false) .ret) .skip)) (.region 7 (regOf Try.f23 7) false)))))
noncomputable def b23 : Code := (.seq (.region 0 (regOf Try.f23 0) false) (.seq (.region 1 (regOf Try.f23 1) false) (.seq (.region 2 (regOf Try.f23 2) false) (.seq (.block 0 (.loop l23_3)) (.seq (.region 8 (regOf Try.f23 8) false) .ret)))))
theorem body23 : Try.f23.body = some b23 := by kernel_rfl
noncomputable def C23_3 : Tab := [(21, c21)]
theorem C23_3_ok : TabOK Try.prog C23_3 := ⟨c21_ok, trivial⟩
noncomputable def LO23_3 : Tab := []
noncomputable def i23_3 : Tm := { sl := [(0, .v (.l (.i .u8))), (1, .v (.i .i64)), (7, .o 0), (8, .v (.l (.i .u8)))], bx := [], bf := [(.l (.i .u8))] }
noncomputable def o23_3 : OT := (.two (.ret { sl := [(4, .o 0), (5, .v (.i .i64)), (6, .v (.i .i64))], bx := [], bf := [(.l (.i .u8))] }) (.exit 0 { sl := [(7, .o 0)], bx := [], bf := [(.l (.i .u8))] }))
noncomputable def T23_3 (a0 : (List Int)) (a1 : Int) (a8 : (List Int)) (q0 : (List (List Int))) : Option ((((List Int) × (Int × (Unit × ((List Int) × Unit)))) × Unit × ((List (List Int)) × Unit)) ⊕ (((Unit × (Int × (Int × Unit))) × Unit × ((List (List Int)) × Unit)) ⊕ ((Unit × Unit) × Unit × ((List (List Int)) × Unit)))) :=
  (bif (decide (((((a8).length : Nat) : Int) : Int) > 0)) then ((F21 a8 a1).bind fun y31 => (bif ((y31.1.2.2.1 : Int) != 0) then (some (.inr (.inl (((), (IntKind.wrap .i64 ((((a0).length : Nat) : Int) - (((a8).length : Nat) : Int))), y31.1.2.2.1, ()), (), (q0, ()))))) else (bif (decide ((q0).length + ([y31.1.1]).length < lim)) then (some (.inl ((a0, a1, (), y31.1.2.1, ()), (), ((q0 ++ [y31.1.1]), ())))) else none))) else (some (.inr (.inr (((), ()), (), (q0, ()))))))
noncomputable def L23_3 (a0 : (List Int)) (a1 : Int) (a8 : (List Int)) (q0 : (List (List Int))) : Option (((Unit × (Int × (Int × Unit))) × Unit × ((List (List Int)) × Unit)) ⊕ ((Unit × Unit) × Unit × ((List (List Int)) × Unit))) := loopF (fun x : (((List Int) × (Int × (Unit × ((List Int) × Unit)))) × Unit × ((List (List Int)) × Unit)) => T23_3 x.1.1 x.1.2.1 x.1.2.2.2.1 x.2.2.1) ((a0, a1, (), a8, ()), (), (q0, ()))
theorem L23_3_eq (a0 : (List Int)) (a1 : Int) (a8 : (List Int)) (q0 : (List (List Int))) : L23_3 a0 a1 a8 q0 = (T23_3 a0 a1 a8 q0).bind (Sum.elim (fun x => L23_3 x.1.1 x.1.2.1 x.1.2.2.2.1 x.2.2.1) some) := loopF_eq _ _
noncomputable def k23_3 : Con := ⟨i23_3, o23_3, fun x => L23_3 x.1.1 x.1.2.1 x.1.2.2.2.1 x.2.2.1⟩
theorem e23_3 (x : i23_3.E) : vround Try.prog C23_3 LO23_3 Try.f23.ntmps l23_3 i23_3 o23_3 x = T23_3 x.1.1 x.1.2.1 x.1.2.2.2.1 x.2.2.1 := by kernel_rfl
theorem k23_3_ok : Con.LOK Try.prog Try.f23.ntmps l23_3 k23_3 := (loop_ok C23_3_ok (loops_of (l := []) (by kernel_rfl) (show LoopsOK Try.prog Try.f23.ntmps [] LO23_3 from trivial)) i23_3 o23_3).congr fun x => (congrArg (fun T => loopF T x) (funext e23_3)).symm
noncomputable def C23 : Tab := [(21, c21)]
theorem C23_ok : TabOK Try.prog C23 := ⟨c21_ok, trivial⟩
noncomputable def LO23 : Tab := [(3, k23_3)]
noncomputable def i23 : Tm := { sl := [(0, .v (.l (.i .u8))), (1, .v (.i .i64))], bx := [], bf := [] }
noncomputable def o23 : OT := (.ret { sl := [(0, .v (.l (.l (.i .u8)))), (1, .v (.i .i64)), (2, .v (.i .i64))], bx := [], bf := [] })
/-- anabranch/check.All -/
noncomputable def F23 (a0 : (List Int)) (a1 : Int) : Option (((List (List Int)) × (Int × (Int × Unit))) × Unit × Unit) :=
  ((L23_3 a0 a1 a0 ([] : List (List Int))).bind fun y32 => (Sum.elim (fun y33 => (some ((y33.2.2.1, y33.1.2.1, y33.1.2.2.1, ()), (), ()))) (fun y33 => (some ((y33.2.2.1, (((a0).length : Nat) : Int), 0, ()), (), ()))) y32))
noncomputable def c23 : Con := ⟨i23, o23, fun x => F23 x.1.1 x.1.2.1⟩
theorem e23 (x : i23.E) : vfn Try.prog C23 LO23 Try.f23 b23 i23 o23 x = F23 x.1.1 x.1.2.1 := by kernel_rfl
theorem c23_ok : Con.OK Try.prog 23 c23 := (fn_ok C23_ok Try.func23 body23 (loops_of (l := [l23_3]) (by kernel_rfl) (show LoopsOK Try.prog Try.f23.ntmps [l23_3] LO23 from ⟨k23_3_ok, trivial⟩)) i23 o23).congr fun x => (e23 x).symm
noncomputable def l24_3 : Code := (.seq (.seq (.region 3 (regOf Try.f24 3) false) (.cond (.tmp 15) .skip (.exit 0))) (.block 1 (.seq (.region 4 (regOf Try.f24 4) false) (.seq (.seq (.region 5 (regOf Try.f24 5) false) (.cond (.tmp 26) (.seq (.region 6 (regOf Try.f24 6) false) .ret) .skip)) (.seq (.region 7 (regOf Try.f24 7) false) (.region 8 (regOf Try.f24 8) false))))))
noncomputable def b24 : Code := (.seq (.region 0 (regOf Try.f24 0) false) (.seq (.region 1 (regOf Try.f24 1) false) (.seq (.region 2 (regOf Try.f24 2) false) (.seq (.block 0 (.loop l24_3)) (.seq (.region 9 (regOf Try.f24 9) false) .ret)))))
theorem body24 : Try.f24.body = some b24 := by kernel_rfl
noncomputable def C24_3 : Tab := [(22, c22)]
theorem C24_3_ok : TabOK Try.prog C24_3 := ⟨c22_ok, trivial⟩
noncomputable def LO24_3 : Tab := []
noncomputable def i24_3 : Tm := { sl := [(0, .v (.l (.i .u8))), (1, .v (.i .i64)), (7, .o 0), (8, .v (.i .i64))], bx := [], bf := [(.l (.i .u8))] }
noncomputable def o24_3 : OT := (.two (.ret { sl := [(4, .o 0), (5, .v (.i .i64)), (6, .v (.i .i64))], bx := [], bf := [(.l (.i .u8))] }) (.exit 0 { sl := [(7, .o 0), (8, .v (.i .i64))], bx := [], bf := [(.l (.i .u8))] }))
noncomputable def T24_3 (a0 : (List Int)) (a1 : Int) (a8 : Int) (q0 : (List (List Int))) : Option ((((List Int) × (Int × (Unit × (Int × Unit)))) × Unit × ((List (List Int)) × Unit)) ⊕ (((Unit × (Int × (Int × Unit))) × Unit × ((List (List Int)) × Unit)) ⊕ ((Unit × (Int × Unit)) × Unit × ((List (List Int)) × Unit)))) :=
  (bif (decide ((a8 : Int) < (((a0).length : Nat) : Int))) then (bif (decide (0 ≤ (a8 : Int) ∧ (a8 : Int) ≤ (((a0).length : Nat) : Int))) then ((F22 ((a0).drop (a8 : Int).toNat) a1).bind fun y35 => (bif ((y35.1.2.2.1 : Int) != 0) then (some (.inr (.inl (((), a8, y35.1.2.2.1, ()), (), (q0, ()))))) else (bif (decide ((q0).length + ([y35.1.1]).length < lim)) then (some (.inl ((a0, a1, (), (IntKind.wrap .i64 (a8 + y35.1.2.1)), ()), (), ((q0 ++ [y35.1.1]), ())))) else none))) else none) else (some (.inr (.inr (((), a8, ()), (), (q0, ()))))))
noncomputable def L24_3 (a0 : (List Int)) (a1 : Int) (a8 : Int) (q0 : (List (List Int))) : Option (((Unit × (Int × (Int × Unit))) × Unit × ((List (List Int)) × Unit)) ⊕ ((Unit × (Int × Unit)) × Unit × ((List (List Int)) × Unit))) := loopF (fun x : (((List Int) × (Int × (Unit × (Int × Unit)))) × Unit × ((List (List Int)) × Unit)) => T24_3 x.1.1 x.1.2.1 x.1.2.2.2.1 x.2.2.1) ((a0, a1, (), a8, ()), (), (q0, ()))
theorem L24_3_eq (a0 : (List Int)) (a1 : Int) (a8 : Int) (q0 : (List (List Int))) : L24_3 a0 a1 a8 q0 = (T24_3 a0 a1 a8 q0).bind (Sum.elim (fun x => L24_3 x.1.1 x.1.2.1 x.1.2.2.2.1 x.2.2.1) some) := loopF_eq _ _
noncomputable def k24_3 : Con := ⟨i24_3, o24_3, fun x => L24_3 x.1.1 x.1.2.1 x.1.2.2.2.1 x.2.2.1⟩
theorem e24_3 (x : i24_3.E) : vround Try.prog C24_3 LO24_3 Try.f24.ntmps l24_3 i24_3 o24_3 x = T24_3 x.1.1 x.1.2.1 x.1.2.2.2.1 x.2.2.1 := by kernel_rfl
theorem k24_3_ok : Con.LOK Try.prog Try.f24.ntmps l24_3 k24_3 := (loop_ok C24_3_ok (loops_of (l := []) (by kernel_rfl) (show LoopsOK Try.prog Try.f24.ntmps [] LO24_3 from trivial)) i24_3 o24_3).congr fun x => (congrArg (fun T => loopF T x) (funext e24_3)).symm
noncomputable def C24 : Tab := [(22, c22)]
theorem C24_ok : TabOK Try.prog C24 := ⟨c22_ok, trivial⟩
noncomputable def LO24 : Tab := [(3, k24_3)]
noncomputable def i24 : Tm := { sl := [(0, .v (.l (.i .u8))), (1, .v (.i .i64))], bx := [], bf := [] }
noncomputable def o24 : OT := (.ret { sl := [(0, .v (.l (.l (.i .u8)))), (1, .v (.i .i64)), (2, .v (.i .i64))], bx := [], bf := [] })
/-- anabranch/anabranchref01.All -/
noncomputable def F24 (a0 : (List Int)) (a1 : Int) : Option (((List (List Int)) × (Int × (Int × Unit))) × Unit × Unit) :=
  ((L24_3 a0 a1 0 ([] : List (List Int))).bind fun y36 => (Sum.elim (fun y37 => (some ((y37.2.2.1, y37.1.2.1, y37.1.2.2.1, ()), (), ()))) (fun y37 => (some ((y37.2.2.1, y37.1.2.1, 0, ()), (), ()))) y36))
noncomputable def c24 : Con := ⟨i24, o24, fun x => F24 x.1.1 x.1.2.1⟩
theorem e24 (x : i24.E) : vfn Try.prog C24 LO24 Try.f24 b24 i24 o24 x = F24 x.1.1 x.1.2.1 := by kernel_rfl
theorem c24_ok : Con.OK Try.prog 24 c24 := (fn_ok C24_ok Try.func24 body24 (loops_of (l := [l24_3]) (by kernel_rfl) (show LoopsOK Try.prog Try.f24.ntmps [l24_3] LO24 from ⟨k24_3_ok, trivial⟩)) i24 o24).congr fun x => (e24 x).symm
noncomputable def b6 : Code := (.seq (.region 0 (regOf Try.f6 0) false) (.seq (.seq (.region 1 (regOf Try.f6 1) false) (.cond (.tmp 19) (.seq (.region 2 (regOf Try.f6 2) false) .ret) .skip)) (.seq (.seq (.region 3 (regOf Try.f6 3) false) (.cond (.tmp 21) (.region 4 (regOf Try.f6 4) false) .skip)) (.seq (.region 5 (regOf Try.f6 5) false) (.seq (.region 6 (regOf Try.f6 6) false) (.seq (.region 7 (regOf Try.f6 7) true) .ret))))))
theorem body6 : Try.f6.body = some b6 := by kernel_rfl
noncomputable def C6 : Tab := [(10, c10), (20, c20), (21, c21), (22, c22)]
theorem C6_ok : TabOK Try.prog C6 := ⟨c10_ok, c20_ok, c21_ok, c22_ok, trivial⟩
noncomputable def LO6 : Tab := []
noncomputable def i6 : Tm := { sl := [(0, .v (.l (.i .u8))), (1, .v (.i .i64)), (2, .v .b)], bx := [], bf := [] }
noncomputable def o6 : OT := (.ret { sl := [(0, .v .b)], bx := [], bf := [] })
/-- anabranch/anabranchlaw03.CheckOpens -/
noncomputable def F6 (a0 : (List Int)) (a1 : Int) (a2 : Bool) : Option ((Bool × Unit) × Unit × Unit) :=
  ((F10).bind fun y38 => (bif (!y38.1.1) then ((F10).bind fun y39 => (some ((y39.1.1, ()), (), ()))) else (bif (decide (((((a0).length : Nat) : Int) : Int) > 300)) then ((F10).bind fun y40 => (some ((y40.1.1, ()), (), ()))) else (bif a2 then ((F20 a0).bind fun y41 => ((F21 y41.2.2.1 a1).bind fun y42 => ((F22 y41.2.2.1 a1).bind fun y43 => (bif ((y42.1.2.2.1 : Int) == y43.1.2.2.1) then (bif (((strL y42.1.1) : ByteArray).toList == ((strL y43.1.1) : ByteArray).toList) then (bif (decide (0 ≤ (y43.1.2.1 : Int) ∧ (y43.1.2.1 : Int) ≤ (((y41.2.2.1).length : Nat) : Int))) then (some (((((strL y42.1.2.1) : ByteArray).toList == ((strL ((y41.2.2.1).drop (y43.1.2.1 : Int).toNat)) : ByteArray).toList), ()), (), ())) else none) else (some ((false, ()), (), ()))) else (some ((false, ()), (), ())))))) else ((F21 a0 a1).bind fun y44 => ((F22 a0 a1).bind fun y45 => (bif ((y44.1.2.2.1 : Int) == y45.1.2.2.1) then (bif (((strL y44.1.1) : ByteArray).toList == ((strL y45.1.1) : ByteArray).toList) then (bif (decide (0 ≤ (y45.1.2.1 : Int) ∧ (y45.1.2.1 : Int) ≤ (((a0).length : Nat) : Int))) then (some (((((strL y44.1.2.1) : ByteArray).toList == ((strL ((a0).drop (y45.1.2.1 : Int).toNat)) : ByteArray).toList), ()), (), ())) else none) else (some ((false, ()), (), ()))) else (some ((false, ()), (), ())))))))))
noncomputable def c6 : Con := ⟨i6, o6, fun x => F6 x.1.1 x.1.2.1 x.1.2.2.1⟩
theorem e6 (x : i6.E) : vfn Try.prog C6 LO6 Try.f6 b6 i6 o6 x = F6 x.1.1 x.1.2.1 x.1.2.2.1 := by kernel_rfl
theorem c6_ok : Con.OK Try.prog 6 c6 := (fn_ok C6_ok Try.func6 body6 (loops_of (l := []) (by kernel_rfl) (show LoopsOK Try.prog Try.f6.ntmps [] LO6 from trivial)) i6 o6).congr fun x => (e6 x).symm
noncomputable def l8_5 : Code := (.seq (.seq (.region 5 (regOf Try.f8 5) false) (.cond (.tmp 32) .skip (.exit 0))) (.seq (.block 1 (.seq (.seq (.region 7 (regOf Try.f8 7) false) (.cond (.tmp 40) (.seq (.region 8 (regOf Try.f8 8) false) .ret) .skip)) (.region 9 (regOf Try.f8 9) false))) (.region 6 (regOf Try.f8 6) false)))
noncomputable def l8_16 : Code := (.seq (.seq (.region 16 (regOf Try.f8 16) false) (.cond (.tmp 83) .skip (.exit 2))) (.seq (.block 3 (.seq (.region 18 (regOf Try.f8 18) true) (.cond (.tmp 96) (.seq (.region 19 (regOf Try.f8 19) false) .ret) .skip))) (.region 17 (regOf Try.f8 17) false)))
noncomputable def b8 : Code := (.seq (.region 0 (regOf Try.f8 0) false) (.seq (.seq (.region 1 (regOf Try.f8 1) false) (.cond (.tmp 27) (.seq (.region 2 (regOf Try.f8 2) false) .ret) .skip)) (.seq (.region 3 (regOf Try.f8 3) false) (.seq (.seq (.region 4 (regOf Try.f8 4) false) (.block 0 (.loop l8_5))) (.seq (.region 10 (regOf Try.f8 10) false) (.seq (.region 11 (regOf Try.f8 11) false) (.seq (.region 12 (regOf Try.f8 12) false) (.seq (.seq (.region 13 (regOf Try.f8 13) false) (.cond (.tmp 79) (.seq (.region 14 (regOf Try.f8 14) false) .ret) .skip)) (.seq (.seq (.region 15 (regOf Try.f8 15) false) (.block 2 (.loop l8_16))) (.seq (.region 20 (regOf Try.f8 20) false) .ret))))))))))
theorem body8 : Try.f8.body = some b8 := by kernel_rfl
noncomputable def C8_5 : Tab := [(20, c20)]
theorem C8_5_ok : TabOK Try.prog C8_5 := ⟨c20_ok, trivial⟩
noncomputable def LO8_5 : Tab := []
noncomputable def i8_5 : Tm := { sl := [(0, .v (.l (.l (.i .u8)))), (1, .v (.l (.i .u8))), (2, .v (.i .i64)), (7, .o 0), (8, .v (.i .i64))], bx := [], bf := [(.i .u8)] }
noncomputable def o8_5 : OT := (.two (.ret { sl := [(6, .v .b)], bx := [], bf := [] }) (.exit 0 { sl := [(7, .o 0)], bx := [], bf := [(.i .u8)] }))
noncomputable def T8_5 (a0 : (List (List Int))) (a1 : (List Int)) (a2 : Int) (a8 : Int) (q0 : (List Int)) : Option ((((List (List Int)) × ((List Int) × (Int × (Unit × (Int × Unit))))) × Unit × ((List Int) × Unit)) ⊕ (((Bool × Unit) × Unit × Unit) ⊕ ((Unit × Unit) × Unit × ((List Int) × Unit)))) :=
  (bif (decide ((a8 : Int) < (((a0).length : Nat) : Int))) then (bif (decide (0 ≤ (a8 : Int) ∧ (a8 : Int) < (((a0).length : Nat) : Int))) then (bif (decide (((((((a0).getD (a8 : Int).toNat [])).length : Nat) : Int) : Int) > 100)) then (some (.inr (.inl ((true, ()), (), ())))) else (bif (decide (0 ≤ (a8 : Int) ∧ (a8 : Int) < (((a0).length : Nat) : Int))) then ((F20 ((a0).getD (a8 : Int).toNat [])).bind fun y51 => (bif (decide ((q0).length + (y51.2.2.1).length < lim)) then (some (.inl ((a0, a1, a2, (), (IntKind.wrap .i64 (a8 + 1)), ()), (), ((q0 ++ y51.2.2.1), ())))) else none)) else none)) else none) else (some (.inr (.inr (((), ()), (), (q0, ()))))))
noncomputable def L8_5 (a0 : (List (List Int))) (a1 : (List Int)) (a2 : Int) (a8 : Int) (q0 : (List Int)) : Option (((Bool × Unit) × Unit × Unit) ⊕ ((Unit × Unit) × Unit × ((List Int) × Unit))) := loopF (fun x : (((List (List Int)) × ((List Int) × (Int × (Unit × (Int × Unit))))) × Unit × ((List Int) × Unit)) => T8_5 x.1.1 x.1.2.1 x.1.2.2.1 x.1.2.2.2.2.1 x.2.2.1) ((a0, a1, a2, (), a8, ()), (), (q0, ()))
theorem L8_5_eq (a0 : (List (List Int))) (a1 : (List Int)) (a2 : Int) (a8 : Int) (q0 : (List Int)) : L8_5 a0 a1 a2 a8 q0 = (T8_5 a0 a1 a2 a8 q0).bind (Sum.elim (fun x => L8_5 x.1.1 x.1.2.1 x.1.2.2.1 x.1.2.2.2.2.1 x.2.2.1) some) := loopF_eq _ _
noncomputable def k8_5 : Con := ⟨i8_5, o8_5, fun x => L8_5 x.1.1 x.1.2.1 x.1.2.2.1 x.1.2.2.2.2.1 x.2.2.1⟩
theorem e8_5 (x : i8_5.E) : vround Try.prog C8_5 LO8_5 Try.f8.ntmps l8_5 i8_5 o8_5 x = T8_5 x.1.1 x.1.2.1 x.1.2.2.1 x.1.2.2.2.2.1 x.2.2.1 := by kernel_rfl
theorem k8_5_ok : Con.LOK Try.prog Try.f8.ntmps l8_5 k8_5 := (loop_ok C8_5_ok (loops_of (l := []) (by kernel_rfl) (show LoopsOK Try.prog Try.f8.ntmps [] LO8_5 from trivial)) i8_5 o8_5).congr fun x => (congrArg (fun T => loopF T x) (funext e8_5)).symm
noncomputable def C8_16 : Tab := []
theorem C8_16_ok : TabOK Try.prog C8_16 := trivial
noncomputable def LO8_16 : Tab := []
noncomputable def i8_16 : Tm := { sl := [(9, .v (.l (.l (.i .u8)))), (12, .v (.l (.l (.i .u8)))), (15, .v (.i .i64))], bx := [], bf := [] }
noncomputable def o8_16 : OT := (.two (.ret { sl := [(6, .v .b)], bx := [], bf := [] }) (.exit 2 { sl := [], bx := [], bf := [] }))
noncomputable def T8_16 (a9 : (List (List Int))) (a12 : (List (List Int))) (a15 : Int) : Option ((((List (List Int)) × ((List (List Int)) × (Int × Unit))) × Unit × Unit) ⊕ (((Bool × Unit) × Unit × Unit) ⊕ (Unit × Unit × Unit))) :=
  (bif (decide ((a15 : Int) < (((a9).length : Nat) : Int))) then (bif (decide (0 ≤ (a15 : Int) ∧ (a15 : Int) < (((a9).length : Nat) : Int))) then (bif (decide (0 ≤ (a15 : Int) ∧ (a15 : Int) < (((a12).length : Nat) : Int))) then (bif (!(((strL ((a9).getD (a15 : Int).toNat [])) : ByteArray).toList == ((strL ((a12).getD (a15 : Int).toNat [])) : ByteArray).toList)) then (some (.inr (.inl ((false, ()), (), ())))) else (some (.inl ((a9, a12, (IntKind.wrap .i64 (a15 + 1)), ()), (), ())))) else none) else none) else (some (.inr (.inr ((), (), ())))))
noncomputable def L8_16 (a9 : (List (List Int))) (a12 : (List (List Int))) (a15 : Int) : Option (((Bool × Unit) × Unit × Unit) ⊕ (Unit × Unit × Unit)) := loopF (fun x : (((List (List Int)) × ((List (List Int)) × (Int × Unit))) × Unit × Unit) => T8_16 x.1.1 x.1.2.1 x.1.2.2.1) ((a9, a12, a15, ()), (), ())
theorem L8_16_eq (a9 : (List (List Int))) (a12 : (List (List Int))) (a15 : Int) : L8_16 a9 a12 a15 = (T8_16 a9 a12 a15).bind (Sum.elim (fun x => L8_16 x.1.1 x.1.2.1 x.1.2.2.1) some) := loopF_eq _ _
noncomputable def k8_16 : Con := ⟨i8_16, o8_16, fun x => L8_16 x.1.1 x.1.2.1 x.1.2.2.1⟩
theorem e8_16 (x : i8_16.E) : vround Try.prog C8_16 LO8_16 Try.f8.ntmps l8_16 i8_16 o8_16 x = T8_16 x.1.1 x.1.2.1 x.1.2.2.1 := by kernel_rfl
theorem k8_16_ok : Con.LOK Try.prog Try.f8.ntmps l8_16 k8_16 := (loop_ok C8_16_ok (loops_of (l := []) (by kernel_rfl) (show LoopsOK Try.prog Try.f8.ntmps [] LO8_16 from trivial)) i8_16 o8_16).congr fun x => (congrArg (fun T => loopF T x) (funext e8_16)).symm
noncomputable def C8 : Tab := [(10, c10), (20, c20), (23, c23), (24, c24)]
theorem C8_ok : TabOK Try.prog C8 := ⟨c10_ok, c20_ok, c23_ok, c24_ok, trivial⟩
noncomputable def LO8 : Tab := [(5, k8_5), (16, k8_16)]
noncomputable def i8 : Tm := { sl := [(0, .v (.l (.l (.i .u8)))), (1, .v (.l (.i .u8))), (2, .v (.i .i64))], bx := [], bf := [] }
noncomputable def o8 : OT := (.ret { sl := [(0, .v .b)], bx := [], bf := [] })
/-- anabranch/anabranchlaw03.CheckAlls -/
noncomputable def F8 (a0 : (List (List Int))) (a1 : (List Int)) (a2 : Int) : Option ((Bool × Unit) × Unit × Unit) :=
  ((F10).bind fun y46 => (bif (!y46.1.1) then ((F10).bind fun y47 => (some ((y47.1.1, ()), (), ()))) else (bif (decide (((((a0).length : Nat) : Int) : Int) > 10)) then ((F10).bind fun y48 => (some ((y48.1.1, ()), (), ()))) else (bif (decide (((((a1).length : Nat) : Int) : Int) > 200)) then ((F10).bind fun y49 => (some ((y49.1.1, ()), (), ()))) else ((L8_5 a0 a1 a2 0 ([] : List Int)).bind fun y52 => (Sum.elim (fun y53 => (some ((y53.1.1, ()), (), ()))) (fun y53 => (bif (decide ((y53.2.2.1).length + (a1).length < lim)) then ((F23 (y53.2.2.1 ++ a1) a2).bind fun y54 => ((F24 (y53.2.2.1 ++ a1) a2).bind fun y55 => (bif (((((y54.1.1).length : Nat) : Int) : Int) != (((y55.1.1).length : Nat) : Int)) then (some ((false, ()), (), ())) else (bif ((y54.1.2.1 : Int) != y55.1.2.1) then (some ((false, ()), (), ())) else (bif ((y54.1.2.2.1 : Int) != y55.1.2.2.1) then (some ((false, ()), (), ())) else ((L8_16 y54.1.1 y55.1.1 0).bind fun y56 => (Sum.elim (fun y57 => (some ((y57.1.1, ()), (), ()))) (fun y57 => (some ((true, ()), (), ()))) y56))))))) else none)) y52))))))
noncomputable def c8 : Con := ⟨i8, o8, fun x => F8 x.1.1 x.1.2.1 x.1.2.2.1⟩
theorem e8 (x : i8.E) : vfn Try.prog C8 LO8 Try.f8 b8 i8 o8 x = F8 x.1.1 x.1.2.1 x.1.2.2.1 := by kernel_rfl
theorem c8_ok : Con.OK Try.prog 8 c8 := (fn_ok C8_ok Try.func8 body8 (loops_of (l := [l8_5, l8_16]) (by kernel_rfl) (show LoopsOK Try.prog Try.f8.ntmps [l8_5, l8_16] LO8 from ⟨k8_5_ok, k8_16_ok, trivial⟩)) i8 o8).congr fun x => (e8 x).symm
noncomputable def b9 : Code := (.seq (.region 0 (regOf Try.f9 0) false) (.seq (.seq (.region 1 (regOf Try.f9 1) false) (.cond (.tmp 23) (.seq (.region 2 (regOf Try.f9 2) false) .ret) .skip)) (.seq (.region 3 (regOf Try.f9 3) false) (.seq (.region 4 (regOf Try.f9 4) false) (.seq (.region 5 (regOf Try.f9 5) false) (.seq (.region 6 (regOf Try.f9 6) true) .ret))))))
theorem body9 : Try.f9.body = some b9 := by kernel_rfl
noncomputable def C9 : Tab := [(10, c10), (20, c20), (21, c21), (25, c25), (26, c26)]
theorem C9_ok : TabOK Try.prog C9 := ⟨c10_ok, c20_ok, c21_ok, c25_ok, c26_ok, trivial⟩
noncomputable def LO9 : Tab := []
noncomputable def i9 : Tm := { sl := [(0, .v (.l (.i .u8))), (1, .v (.l (.i .u8)))], bx := [], bf := [] }
noncomputable def o9 : OT := (.ret { sl := [(0, .v .b)], bx := [], bf := [] })
/-- anabranch/anabranchlaw03.CheckWraps -/
noncomputable def F9 (a0 : (List Int)) (a1 : (List Int)) : Option ((Bool × Unit) × Unit × Unit) :=
  ((F10).bind fun y58 => (bif (!y58.1.1) then ((F10).bind fun y59 => (some ((y59.1.1, ()), (), ()))) else (bif (decide (((((a0).length : Nat) : Int) : Int) > 400)) then ((F10).bind fun y60 => (some ((y60.1.1, ()), (), ()))) else (bif (decide (((((a1).length : Nat) : Int) : Int) > 200)) then ((F10).bind fun y61 => (some ((y61.1.1, ()), (), ()))) else ((F25 a0).bind fun y62 => (bif ((decide (0 ≤ ((((y62.2.2.1).length : Nat) : Int) : Int) ∧ ((((y62.2.2.1).length : Nat) : Int) : Int) ≤ (((y62.2.2.1).length : Nat) : Int))) && (decide (((((y62.2.2.1).length : Nat) : Int) : Int) = (((y62.2.2.1).length : Nat) : Int)))) then (bif (decide ((((y62.2.2.1).take ((((y62.2.2.1).length : Nat) : Int) : Int).toNat)).length + (a1).length < lim)) then ((F21 (((y62.2.2.1).take ((((y62.2.2.1).length : Nat) : Int) : Int).toNat) ++ a1) (((a0).length : Nat) : Int)).bind fun y63 => ((F21 y62.2.2.1 (IntKind.wrap .i64 ((((a0).length : Nat) : Int) - 1))).bind fun y64 => ((F20 a0).bind fun y65 => (bif (((strL y62.2.2.1) : ByteArray).toList == ((strL y65.2.2.1) : ByteArray).toList) then (bif ((y63.1.2.2.1 : Int) == 0) then (bif (((strL y63.1.1) : ByteArray).toList == ((strL a0) : ByteArray).toList) then (bif (((strL y63.1.2.1) : ByteArray).toList == ((strL a1) : ByteArray).toList) then ((F26 (((a0).length : Nat) : Int)).bind fun y66 => (bif ((y66.1.1 : Int) == (((y62.2.2.1).length : Nat) : Int)) then (bif ((y64.1.2.2.1 : Int) == 6) then ((F26 (-5)).bind fun y67 => ((F26 0).bind fun y68 => (some ((((y67.1.1 : Int) == y68.1.1), ()), (), ())))) else (some ((false, ()), (), ()))) else (some ((false, ()), (), ())))) else (some ((false, ()), (), ()))) else (some ((false, ()), (), ()))) else (some ((false, ()), (), ()))) else (some ((false, ()), (), ())))))) else none) else none))))))
noncomputable def c9 : Con := ⟨i9, o9, fun x => F9 x.1.1 x.1.2.1⟩
theorem e9 (x : i9.E) : vfn Try.prog C9 LO9 Try.f9 b9 i9 o9 x = F9 x.1.1 x.1.2.1 := by kernel_rfl
theorem c9_ok : Con.OK Try.prog 9 c9 := (fn_ok C9_ok Try.func9 body9 (loops_of (l := []) (by kernel_rfl) (show LoopsOK Try.prog Try.f9.ntmps [] LO9 from trivial)) i9 o9).congr fun x => (e9 x).symm
noncomputable def b7 : Code := (.seq (.region 0 (regOf Try.f7 0) false) (.seq (.seq (.region 1 (regOf Try.f7 1) false) (.cond (.tmp 28) (.seq (.region 2 (regOf Try.f7 2) false) .ret) .skip)) (.seq (.region 3 (regOf Try.f7 3) false) (.seq (.region 4 (regOf Try.f7 4) false) (.seq (.region 5 (regOf Try.f7 5) false) (.seq (.region 6 (regOf Try.f7 6) false) (.seq (.region 7 (regOf Try.f7 7) true) (.seq (.region 8 (regOf Try.f7 8) false) (.seq (.region 9 (regOf Try.f7 9) false) .ret)))))))))
theorem body7 : Try.f7.body = some b7 := by kernel_rfl
noncomputable def C7 : Tab := [(10, c10), (20, c20), (21, c21), (900046, cHot)]
theorem C7_ok : TabOK Try.prog C7 := ⟨c10_ok, c20_ok, c21_ok, cHot_ok, trivial⟩
noncomputable def LO7 : Tab := []
noncomputable def i7 : Tm := { sl := [(0, .v (.l (.i .u8))), (1, .v (.i .u16)), (2, .v (.i .u8)), (3, .v (.i .u16))], bx := [], bf := [] }
noncomputable def o7 : OT := (.ret { sl := [(0, .v .b)], bx := [], bf := [] })
/-- anabranch/anabranchlaw03.CheckTurns -/
noncomputable def F7 (a0 : (List Int)) (a1 : Int) (a2 : Int) (a3 : Int) : Option ((Bool × Unit) × Unit × Unit) :=
  ((F10).bind fun y69 => (bif (!y69.1.1) then ((F10).bind fun y70 => (some ((y70.1.1, ()), (), ()))) else (bif (decide (((((a0).length : Nat) : Int) : Int) > 300)) then ((F10).bind fun y71 => (some ((y71.1.1, ()), (), ()))) else (bif ((a2 : Int) == 0) then ((F10).bind fun y72 => (some ((y72.1.1, ()), (), ()))) else ((F20 a0).bind fun y73 => (bif (decide (((((y73.2.2.1).length : Nat) : Int) : Int) ≠ 0)) then (bif (decide (0 ≤ ((((IntKind.wrap .i64 a3) : Int).tmod (((y73.2.2.1).length : Nat) : Int)) : Int) ∧ ((((IntKind.wrap .i64 a3) : Int).tmod (((y73.2.2.1).length : Nat) : Int)) : Int) ≤ (((y73.2.2.1).length : Nat) : Int))) then ((F21 ((y73.2.2.1).take ((((IntKind.wrap .i64 a3) : Int).tmod (((y73.2.2.1).length : Nat) : Int)) : Int).toNat) 1048576).bind fun y74 => (bif (decide ((y73.2.2.1).length < lim)) then (bif (decide (((((y73.2.2.1).length : Nat) : Int) : Int) ≠ 0)) then (bif (decide (((((y73.2.2.1).length : Nat) : Int) : Int) ≠ 0)) then (bif (decide (0 ≤ ((((IntKind.wrap .i64 a1) : Int).tmod (((y73.2.2.1).length : Nat) : Int)) : Int) ∧ ((((IntKind.wrap .i64 a1) : Int).tmod (((y73.2.2.1).length : Nat) : Int)) : Int) < (((y73.2.2.1).length : Nat) : Int))) then (bif (decide (((((IntKind.wrap .i64 a1) : Int).tmod (((y73.2.2.1).length : Nat) : Int)) : Int).toNat < (y73.2.2.1).length)) then (bif (decide (0 ≤ ((((IntKind.wrap .i64 a1) : Int).tmod (((y73.2.2.1).length : Nat) : Int)) : Int) ∧ ((((IntKind.wrap .i64 a1) : Int).tmod (((y73.2.2.1).length : Nat) : Int)) : Int) < (((y73.2.2.1).length : Nat) : Int))) then (bif (decide (((((IntKind.wrap .i64 a1) : Int).tmod (((y73.2.2.1).length : Nat) : Int)) : Int).toNat < (y73.2.2.1).length)) then ((F21 ((y73.2.2.1).set ((((IntKind.wrap .i64 a1) : Int).tmod (((y73.2.2.1).length : Nat) : Int)) : Int).toNat (iXor .u8 ((y73.2.2.1).getD ((((IntKind.wrap .i64 a1) : Int).tmod (((y73.2.2.1).length : Nat) : Int)) : Int).toNat (0 : Int)) a2)) 1048576).bind fun y75 => (bif ((y74.1.2.2.1 : Int) == 5) then (bif ((y75.1.2.2.1 : Int) != 0) then (some ((true, ()), (), ())) else (bif (decide (((((y75.1.2.1).length : Nat) : Int) : Int) > 0)) then (some (((!(((strL y75.1.1) : ByteArray).toList == ((strL a0) : ByteArray).toList)), ()), (), ())) else (some ((false, ()), (), ())))) else (some ((false, ()), (), ())))) else none) else none) else none) else none) else none) else none) else none)) else none) else none))))))
noncomputable def c7 : Con := ⟨i7, o7, fun x => F7 x.1.1 x.1.2.1 x.1.2.2.1 x.1.2.2.2.1⟩
theorem e7 (x : i7.E) : vfn Try.prog C7 LO7 Try.f7 b7 i7 o7 x = F7 x.1.1 x.1.2.1 x.1.2.2.1 x.1.2.2.2.1 := by kernel_rfl
theorem c7_ok : Con.OK Try.prog 7 c7 := (fn_ok C7_ok Try.func7 body7 (loops_of (l := []) (by kernel_rfl) (show LoopsOK Try.prog Try.f7.ntmps [] LO7 from trivial)) i7 o7).congr fun x => (e7 x).symm
noncomputable def l14_2 : Code := (.seq (.seq (.region 2 (regOf Try.f14 2) false) (.cond (.tmp 7) .skip (.exit 0))) (.seq (.block 1 (.region 4 (regOf Try.f14 4) false)) (.region 3 (regOf Try.f14 3) false)))
noncomputable def b14 : Code := (.seq (.region 0 (regOf Try.f14 0) false) (.seq (.seq (.region 1 (regOf Try.f14 1) false) (.block 0 (.loop l14_2))) (.seq (.region 5 (regOf Try.f14 5) false) .ret)))
theorem body14 : Try.f14.body = some b14 := by kernel_rfl
noncomputable def C14_2 : Tab := []
theorem C14_2_ok : TabOK Try.prog C14_2 := trivial
noncomputable def LO14_2 : Tab := []
noncomputable def i14_2 : Tm := { sl := [(0, .o 0), (1, .v (.i .u64)), (5, .v (.i .i64))], bx := [], bf := [(.i .u8)] }
noncomputable def o14_2 : OT := (.exit 0 { sl := [(0, .o 0)], bx := [], bf := [(.i .u8)] })
noncomputable def T14_2 (a1 : Int) (a5 : Int) (q0 : (List Int)) : Option (((Unit × (Int × (Int × Unit))) × Unit × ((List Int) × Unit)) ⊕ ((Unit × Unit) × Unit × ((List Int) × Unit))) :=
  (bif (decide ((a5 : Int) ≥ 0)) then (bif (decide ((0 : Int) ≤ (IntKind.wrap .i64 (8 * a5)))) then (bif (decide ((q0).length + ([(IntKind.wrap .u8 (iShr .u64 a1 (IntKind.wrap .i64 (8 * a5))))]).length < lim)) then (some (.inl (((), a1, (IntKind.wrap .i64 (a5 - 1)), ()), (), ((q0 ++ [(IntKind.wrap .u8 (iShr .u64 a1 (IntKind.wrap .i64 (8 * a5))))]), ())))) else none) else none) else (some (.inr (((), ()), (), (q0, ())))))
noncomputable def L14_2 (a1 : Int) (a5 : Int) (q0 : (List Int)) : Option ((Unit × Unit) × Unit × ((List Int) × Unit)) := loopF (fun x : ((Unit × (Int × (Int × Unit))) × Unit × ((List Int) × Unit)) => T14_2 x.1.2.1 x.1.2.2.1 x.2.2.1) (((), a1, a5, ()), (), (q0, ()))
theorem L14_2_eq (a1 : Int) (a5 : Int) (q0 : (List Int)) : L14_2 a1 a5 q0 = (T14_2 a1 a5 q0).bind (Sum.elim (fun x => L14_2 x.1.2.1 x.1.2.2.1 x.2.2.1) some) := loopF_eq _ _
noncomputable def k14_2 : Con := ⟨i14_2, o14_2, fun x => L14_2 x.1.2.1 x.1.2.2.1 x.2.2.1⟩
theorem e14_2 (x : i14_2.E) : vround Try.prog C14_2 LO14_2 Try.f14.ntmps l14_2 i14_2 o14_2 x = T14_2 x.1.2.1 x.1.2.2.1 x.2.2.1 := by kernel_rfl
theorem k14_2_ok : Con.LOK Try.prog Try.f14.ntmps l14_2 k14_2 := (loop_ok C14_2_ok (loops_of (l := []) (by kernel_rfl) (show LoopsOK Try.prog Try.f14.ntmps [] LO14_2 from trivial)) i14_2 o14_2).congr fun x => (congrArg (fun T => loopF T x) (funext e14_2)).symm
noncomputable def C14 : Tab := []
theorem C14_ok : TabOK Try.prog C14 := trivial
noncomputable def LO14 : Tab := [(2, k14_2)]
noncomputable def i14 : Tm := { sl := [(0, .o 0), (1, .v (.i .u64))], bx := [], bf := [(.i .u8)] }
noncomputable def o14 : OT := (.ret { sl := [(0, .o 0)], bx := [], bf := [(.i .u8)] })
/-- anabranch/digits.LayFixed -/
noncomputable def F14 (a1 : Int) (q0 : (List Int)) : Option ((Unit × Unit) × Unit × ((List Int) × Unit)) :=
  ((L14_2 a1 7 q0).bind fun y76 => (some (((), ()), (), (y76.2.2.1, ()))))
noncomputable def c14 : Con := ⟨i14, o14, fun x => F14 x.1.2.1 x.2.2.1⟩
theorem e14 (x : i14.E) : vfn Try.prog C14 LO14 Try.f14 b14 i14 o14 x = F14 x.1.2.1 x.2.2.1 := by kernel_rfl
theorem c14_ok : Con.OK Try.prog 14 c14 := (fn_ok C14_ok Try.func14 body14 (loops_of (l := [l14_2]) (by kernel_rfl) (show LoopsOK Try.prog Try.f14.ntmps [l14_2] LO14 from ⟨k14_2_ok, trivial⟩)) i14 o14).congr fun x => (e14 x).symm
noncomputable def l15_4 : Code := (.seq (.seq (.region 4 (regOf Try.f15 4) false) (.cond (.tmp 11) .skip (.exit 0))) (.seq (.block 1 (.region 6 (regOf Try.f15 6) false)) (.region 5 (regOf Try.f15 5) false)))
noncomputable def b15 : Code := (.seq (.region 0 (regOf Try.f15 0) false) (.seq (.region 1 (regOf Try.f15 1) false) (.seq (.region 2 (regOf Try.f15 2) false) (.seq (.seq (.region 3 (regOf Try.f15 3) false) (.block 0 (.loop l15_4))) (.seq (.region 7 (regOf Try.f15 7) false) .ret)))))
theorem body15 : Try.f15.body = some b15 := by kernel_rfl
noncomputable def C15_4 : Tab := []
theorem C15_4_ok : TabOK Try.prog C15_4 := trivial
noncomputable def LO15_4 : Tab := []
noncomputable def i15_4 : Tm := { sl := [(1, .v (.i .u64)), (5, .o 0), (6, .v (.i .i64))], bx := [], bf := [(.i .u8)] }
noncomputable def o15_4 : OT := (.exit 0 { sl := [(5, .o 0)], bx := [], bf := [(.i .u8)] })
noncomputable def T15_4 (a1 : Int) (a6 : Int) (q0 : (List Int)) : Option (((Int × (Unit × (Int × Unit))) × Unit × ((List Int) × Unit)) ⊕ ((Unit × Unit) × Unit × ((List Int) × Unit))) :=
  (bif (decide ((a6 : Int) < 8)) then (bif (decide ((0 : Int) ≤ (IntKind.wrap .i64 (56 - (IntKind.wrap .i64 (8 * a6)))))) then (bif (decide ((q0).length + ([(IntKind.wrap .u8 (iShr .u64 a1 (IntKind.wrap .i64 (56 - (IntKind.wrap .i64 (8 * a6))))))]).length < lim)) then (some (.inl ((a1, (), (IntKind.wrap .i64 (a6 + 1)), ()), (), ((q0 ++ [(IntKind.wrap .u8 (iShr .u64 a1 (IntKind.wrap .i64 (56 - (IntKind.wrap .i64 (8 * a6))))))]), ())))) else none) else none) else (some (.inr (((), ()), (), (q0, ())))))
noncomputable def L15_4 (a1 : Int) (a6 : Int) (q0 : (List Int)) : Option ((Unit × Unit) × Unit × ((List Int) × Unit)) := loopF (fun x : ((Int × (Unit × (Int × Unit))) × Unit × ((List Int) × Unit)) => T15_4 x.1.1 x.1.2.2.1 x.2.2.1) ((a1, (), a6, ()), (), (q0, ()))
theorem L15_4_eq (a1 : Int) (a6 : Int) (q0 : (List Int)) : L15_4 a1 a6 q0 = (T15_4 a1 a6 q0).bind (Sum.elim (fun x => L15_4 x.1.1 x.1.2.2.1 x.2.2.1) some) := loopF_eq _ _
noncomputable def k15_4 : Con := ⟨i15_4, o15_4, fun x => L15_4 x.1.1 x.1.2.2.1 x.2.2.1⟩
theorem e15_4 (x : i15_4.E) : vround Try.prog C15_4 LO15_4 Try.f15.ntmps l15_4 i15_4 o15_4 x = T15_4 x.1.1 x.1.2.2.1 x.2.2.1 := by kernel_rfl
theorem k15_4_ok : Con.LOK Try.prog Try.f15.ntmps l15_4 k15_4 := (loop_ok C15_4_ok (loops_of (l := []) (by kernel_rfl) (show LoopsOK Try.prog Try.f15.ntmps [] LO15_4 from trivial)) i15_4 o15_4).congr fun x => (congrArg (fun T => loopF T x) (funext e15_4)).symm
noncomputable def C15 : Tab := []
theorem C15_ok : TabOK Try.prog C15 := trivial
noncomputable def LO15 : Tab := [(4, k15_4)]
noncomputable def i15 : Tm := { sl := [(0, .v (.l (.i .u8))), (1, .v (.i .u64))], bx := [], bf := [] }
noncomputable def o15 : OT := (.ret { sl := [(0, .o 0)], bx := [], bf := [(.i .u8)] })
/-- anabranch/anabranchref01.Fixed -/
noncomputable def F15 (a0 : (List Int)) (a1 : Int) : Option ((Unit × Unit) × Unit × ((List Int) × Unit)) :=
  (bif (decide ((a0).length < lim)) then ((L15_4 a1 0 a0).bind fun y77 => (some (((), ()), (), (y77.2.2.1, ())))) else none)
noncomputable def c15 : Con := ⟨i15, o15, fun x => F15 x.1.1 x.1.2.1⟩
theorem e15 (x : i15.E) : vfn Try.prog C15 LO15 Try.f15 b15 i15 o15 x = F15 x.1.1 x.1.2.1 := by kernel_rfl
theorem c15_ok : Con.OK Try.prog 15 c15 := (fn_ok C15_ok Try.func15 body15 (loops_of (l := [l15_4]) (by kernel_rfl) (show LoopsOK Try.prog Try.f15.ntmps [l15_4] LO15 from ⟨k15_4_ok, trivial⟩)) i15 o15).congr fun x => (e15 x).symm
noncomputable def b13 : Code := (.seq (.region 0 (regOf Try.f13 0) false) (.seq (.region 1 (regOf Try.f13 1) false) (.seq (.region 2 (regOf Try.f13 2) false) .ret)))
theorem body13 : Try.f13.body = some b13 := by kernel_rfl
noncomputable def C13 : Tab := [(16, c16), (17, c17)]
theorem C13_ok : TabOK Try.prog C13 := ⟨c16_ok, c17_ok, trivial⟩
noncomputable def LO13 : Tab := []
noncomputable def i13 : Tm := { sl := [], bx := [], bf := [] }
noncomputable def o13 : OT := (.ret { sl := [(0, .v .b)], bx := [], bf := [] })
/-- anabranch/anabranchlaw02.awake -/
noncomputable def F13 : Option ((Bool × Unit) × Unit × Unit) :=
  ((F17 [128, 0]).bind fun y78 => ((F16 300 ([] : List Int)).bind fun y79 => (bif (((strL y79.2.2.1) : ByteArray).toList == ((⟨#[172, 2]⟩ : ByteArray) : ByteArray).toList) then (bif ((y78.1.2.2.1 : Int) == 4) then (some ((true, ()), (), ())) else (some ((false, ()), (), ()))) else (some ((false, ()), (), ())))))
noncomputable def c13 : Con := ⟨i13, o13, fun x => F13⟩
theorem e13 (x : i13.E) : vfn Try.prog C13 LO13 Try.f13 b13 i13 o13 x = F13 := by kernel_rfl
theorem c13_ok : Con.OK Try.prog 13 c13 := (fn_ok C13_ok Try.func13 body13 (loops_of (l := []) (by kernel_rfl) (show LoopsOK Try.prog Try.f13.ntmps [] LO13 from trivial)) i13 o13).congr fun x => (e13 x).symm
noncomputable def b4 : Code := (.seq (.region 0 (regOf Try.f4 0) false) (.seq (.seq (.region 1 (regOf Try.f4 1) false) (.cond (.tmp 11) (.seq (.region 2 (regOf Try.f4 2) false) .ret) .skip)) (.seq (.region 3 (regOf Try.f4 3) true) .ret)))
theorem body4 : Try.f4.body = some b4 := by kernel_rfl
noncomputable def C4 : Tab := [(13, c13), (14, c14), (15, c15)]
theorem C4_ok : TabOK Try.prog C4 := ⟨c13_ok, c14_ok, c15_ok, trivial⟩
noncomputable def LO4 : Tab := []
noncomputable def i4 : Tm := { sl := [(0, .v (.l (.i .u8))), (1, .v (.i .u64))], bx := [], bf := [] }
noncomputable def o4 : OT := (.ret { sl := [(0, .v .b)], bx := [], bf := [] })
/-- anabranch/anabranchlaw02.DigitsFixed -/
noncomputable def F4 (a0 : (List Int)) (a1 : Int) : Option ((Bool × Unit) × Unit × Unit) :=
  ((F13).bind fun y80 => (bif (!y80.1.1) then ((F13).bind fun y81 => (some ((y81.1.1, ()), (), ()))) else (bif (decide (((((a0).length : Nat) : Int) : Int) > 200)) then ((F13).bind fun y82 => (some ((y82.1.1, ()), (), ()))) else (bif (decide ((a0).length < lim)) then ((F14 a1 a0).bind fun y83 => ((F15 a0 a1).bind fun y84 => (some (((((strL y83.2.2.1) : ByteArray).toList == ((strL y84.2.2.1) : ByteArray).toList), ()), (), ())))) else none))))
noncomputable def c4 : Con := ⟨i4, o4, fun x => F4 x.1.1 x.1.2.1⟩
theorem e4 (x : i4.E) : vfn Try.prog C4 LO4 Try.f4 b4 i4 o4 x = F4 x.1.1 x.1.2.1 := by kernel_rfl
theorem c4_ok : Con.OK Try.prog 4 c4 := (fn_ok C4_ok Try.func4 body4 (loops_of (l := []) (by kernel_rfl) (show LoopsOK Try.prog Try.f4.ntmps [] LO4 from trivial)) i4 o4).congr fun x => (e4 x).symm
noncomputable def b5 : Code := (.seq (.region 0 (regOf Try.f5 0) false) (.seq (.seq (.region 1 (regOf Try.f5 1) false) (.cond (.tmp 22) (.seq (.region 2 (regOf Try.f5 2) false) .ret) .skip)) (.seq (.region 3 (regOf Try.f5 3) false) (.seq (.region 4 (regOf Try.f5 4) false) (.seq (.region 5 (regOf Try.f5 5) true) .ret)))))
theorem body5 : Try.f5.body = some b5 := by kernel_rfl
noncomputable def C5 : Tab := [(13, c13), (16, c16), (17, c17), (18, c18), (19, c19)]
theorem C5_ok : TabOK Try.prog C5 := ⟨c13_ok, c16_ok, c17_ok, c18_ok, c19_ok, trivial⟩
noncomputable def LO5 : Tab := []
noncomputable def i5 : Tm := { sl := [(0, .v (.l (.i .u8))), (1, .v (.i .u64)), (2, .v (.l (.i .u8)))], bx := [], bf := [] }
noncomputable def o5 : OT := (.ret { sl := [(0, .v .b)], bx := [], bf := [] })
/-- anabranch/anabranchlaw02.DigitsLay -/
noncomputable def F5 (a0 : (List Int)) (a1 : Int) (a2 : (List Int)) : Option ((Bool × Unit) × Unit × Unit) :=
  ((F13).bind fun y85 => (bif (!y85.1.1) then ((F13).bind fun y86 => (some ((y86.1.1, ()), (), ()))) else (bif (decide (((((a0).length : Nat) : Int) : Int) > 200)) then ((F13).bind fun y87 => (some ((y87.1.1, ()), (), ()))) else (bif (decide (((((a2).length : Nat) : Int) : Int) > 200)) then ((F13).bind fun y88 => (some ((y88.1.1, ()), (), ()))) else (bif (decide ((a0).length < lim)) then ((F16 a1 a0).bind fun y89 => (bif ((decide (0 ≤ ((((a0).length : Nat) : Int) : Int) ∧ ((((a0).length : Nat) : Int) : Int) ≤ (((y89.2.2.1).length : Nat) : Int) ∧ ((((y89.2.2.1).length : Nat) : Int) : Int) ≤ (((y89.2.2.1).length : Nat) : Int))) && (decide (((((y89.2.2.1).length : Nat) : Int) : Int) = (((y89.2.2.1).length : Nat) : Int)))) then (bif (decide (((((y89.2.2.1).take ((((y89.2.2.1).length : Nat) : Int) : Int).toNat).drop ((((a0).length : Nat) : Int) : Int).toNat)).length + (a2).length < lim)) then ((F17 ((((y89.2.2.1).take ((((y89.2.2.1).length : Nat) : Int) : Int).toNat).drop ((((a0).length : Nat) : Int) : Int).toNat) ++ a2)).bind fun y90 => ((F18 a0 a1).bind fun y91 => (bif (((strL y89.2.2.1) : ByteArray).toList == ((strL y91.2.2.1) : ByteArray).toList) then (bif ((y90.1.2.2.1 : Int) == 0) then (bif ((y90.1.1 : Int) == a1) then (bif (((strL y90.1.2.1) : ByteArray).toList == ((strL a2) : ByteArray).toList) then ((F19 a1).bind fun y92 => (bif ((y92.1.1 : Int) == (IntKind.wrap .i64 ((((y89.2.2.1).length : Nat) : Int) - (((a0).length : Nat) : Int)))) then ((F19 a1).bind fun y93 => (some (((decide ((y93.1.1 : Int) ≤ 10)), ()), (), ()))) else (some ((false, ()), (), ())))) else (some ((false, ()), (), ()))) else (some ((false, ()), (), ()))) else (some ((false, ()), (), ()))) else (some ((false, ()), (), ()))))) else none) else none)) else none)))))
noncomputable def c5 : Con := ⟨i5, o5, fun x => F5 x.1.1 x.1.2.1 x.1.2.2.1⟩
theorem e5 (x : i5.E) : vfn Try.prog C5 LO5 Try.f5 b5 i5 o5 x = F5 x.1.1 x.1.2.1 x.1.2.2.1 := by kernel_rfl
theorem c5_ok : Con.OK Try.prog 5 c5 := (fn_ok C5_ok Try.func5 body5 (loops_of (l := []) (by kernel_rfl) (show LoopsOK Try.prog Try.f5.ntmps [] LO5 from trivial)) i5 o5).congr fun x => (e5 x).symm
end Go.IM.V

/- Digits: what the printed functions tell. -/
set_option linter.unusedVariables false
set_option linter.unusedSimpArgs false
set_option linter.constructorNameAsVariable false
namespace Go.IM.V
open Go Go.IM Go.Proofs

/-- A number as digits: seven bits each, the lowest first. -/
def dgF : Nat → Int → List Int
  | 0, n => [n]
  | f + 1, n => if n < 128 then [n] else (128 + n % 128) :: dgF f (n / 128)
def dg (n : Int) : List Int := dgF 9 n
theorem dgF_len : ∀ (f : Nat) (n : Int), (dgF f n).length ≤ f + 1
  | 0, _ => by simp [dgF]
  | f + 1, n => by
    unfold dgF
    split
    · simp
    · have := dgF_len f (n / 128); simp; omega
theorem dg_len (n : Int) : (dg n).length ≤ 10 := dgF_len 9 n
theorem dgF_lt {f : Nat} {n : Int} (h : n < 128) : dgF f n = [n] := by
  cases f with
  | zero => rfl
  | succ f => unfold dgF; rw [if_pos h]
theorem or128' : ∀ a : Fin 256, iOr .u8 (a.val : Int) 128 = 128 + (a.val : Int) % 128 := by decide +kernel
theorem or128 (n : Int) : iOr .u8 (IntKind.wrap .u8 n) 128 = 128 + n % 128 := by
  rw [wu8_mod]
  have := or128' ⟨(n % 256).toNat, by omega⟩
  simp only at this
  rw [show (((n % 256).toNat : Nat) : Int) = n % 256 from by omega] at this
  rw [this]; omega
theorem shr7 {n : Int} (h : 0 ≤ n) : iShr .u64 n 7 = n / 128 := by
  unfold iShr
  show n.fdiv (2 ^ 7) = _
  rw [Int.fdiv_eq_ediv_of_nonneg _ (by omega)]
  rfl

theorem L16_run : ∀ (f : Nat) (n : Int) (q : List Int), 0 ≤ n → n < 128 ^ (f + 1) → q.length + f < lim →
    ∃ n' p, L16_1 n q = some (((), n', ()), (), (q ++ p, ())) ∧ 0 ≤ n' ∧ n' < 128 ∧ p ++ [n'] = dgF f n ∧ p.length ≤ f := by
  intro f
  induction f with
  | zero =>
    intro n q h0 h1 hq
    refine ⟨n, [], ?_, h0, by omega, rfl, by simp⟩
    rw [L16_1_eq]
    simp only [T16_1, cif]
    rw [if_neg (by omega)]
    simp
  | succ f ih =>
    intro n q h0 h1 hq
    by_cases hn : n < 128
    · refine ⟨n, [], ?_, h0, hn, by rw [dgF_lt hn]; rfl, by simp⟩
      rw [L16_1_eq]
      simp only [T16_1, cif]
      rw [if_neg (by omega)]
      simp
    · have hl : (q ++ [128 + n % 128]).length = q.length + 1 := by simp
      obtain ⟨n', p, e, a, b, c, d⟩ := ih (n / 128) (q ++ [128 + n % 128]) (by omega) (by rw [Int.pow_succ] at h1; omega) (by rw [hl]; omega)
      refine ⟨n', (128 + n % 128) :: p, ?_, a, b, ?_, by simp; omega⟩
      · rw [L16_1_eq]
        simp only [T16_1, cif]
        rw [if_pos (by omega), if_pos (by simp; omega), or128, shr7 h0]
        simp only [Option.bind_some, Sum.elim_inl]
        rw [e]
        simp
      · rw [dgF, if_neg hn, List.cons_append, c]
theorem F16_eq (n : Int) (q : List Int) (h0 : 0 ≤ n) (h1 : n < 18446744073709551616) (hq : q.length + 10 < lim) : F16 n q = some (ro (q ++ dg n)) := by
  obtain ⟨n', p, e, a, b, c, d⟩ := L16_run 9 n q h0 (by rw [show (128 : Int) ^ (9 + 1) = 1180591620717411303424 from by decide]; omega) (by omega)
  unfold F16
  rw [e]
  simp only [Option.bind_some, cif]
  rw [if_pos (by simp; omega), wu8_mod, Int.emod_eq_of_lt a (by omega), List.append_assoc, c]
  rfl
theorem L18_run : ∀ (f : Nat) (n : Int) (q : List Int), 0 ≤ n → n < 18446744073709551616 → n < 128 ^ (f + 1) → q.length + f < lim →
    ∃ n' p, L18_3 n q = some ((n', (), ()), (), (q ++ p, ())) ∧ 0 ≤ n' ∧ n' < 128 ∧ p ++ [n'] = dgF f n ∧ p.length ≤ f := by
  intro f
  induction f with
  | zero =>
    intro n q h0 h2 h1 hq
    refine ⟨n, [], ?_, h0, by omega, rfl, by simp⟩
    rw [L18_3_eq]
    simp only [T18_3, cif]
    rw [if_neg (by omega)]
    simp
  | succ f ih =>
    intro n q h0 h2 h1 hq
    by_cases hn : n < 128
    · refine ⟨n, [], ?_, h0, hn, by rw [dgF_lt hn]; rfl, by simp⟩
      rw [L18_3_eq]
      simp only [T18_3, cif]
      rw [if_neg (by omega)]
      simp
    · have hl : (q ++ [128 + n % 128]).length = q.length + 1 := by simp
      obtain ⟨n', p, e, a, b, c, d⟩ := ih (n / 128) (q ++ [128 + n % 128]) (by omega) (by omega) (by rw [Int.pow_succ] at h1; omega) (by rw [hl]; omega)
      refine ⟨n', (128 + n % 128) :: p, ?_, a, b, ?_, by simp; omega⟩
      · rw [L18_3_eq]
        simp only [T18_3, cif]
        rw [if_pos (by omega), if_pos (by simp; omega), Int.tmod_eq_emod_of_nonneg h0, Int.tdiv_eq_ediv_of_nonneg h0, wu64 (n := 128 + n % 128) (by omega) (by omega),
          wu8_mod, Int.emod_eq_of_lt (a := 128 + n % 128) (by omega) (by omega), wu64 (n := n / 128) (by omega) (by omega)]
        simp only [Option.bind_some, Sum.elim_inl]
        rw [e]
        simp
      · rw [dgF, if_neg hn, List.cons_append, c]
theorem F18_eq (q : List Int) (n : Int) (h0 : 0 ≤ n) (h1 : n < 18446744073709551616) (hq : q.length + 10 < lim) : F18 q n = some (ro (q ++ dg n)) := by
  obtain ⟨n', p, e, a, b, c, d⟩ := L18_run 9 n q h0 h1 (by rw [show (128 : Int) ^ (9 + 1) = 1180591620717411303424 from by decide]; omega) (by omega)
  unfold F18
  simp only [cif]
  rw [if_pos (by omega), e]
  simp only [Option.bind_some, cif]
  rw [if_pos (by simp; omega), wu8_mod, Int.emod_eq_of_lt a (by omega), List.append_assoc, c]
  rfl

/-- A text: how many bytes, and they. -/
def dgT (t : List Int) : List Int := dg t.length ++ t
theorem dgT_len (t : List Int) : (dgT t).length ≤ 10 + t.length := by unfold dgT; have := dg_len t.length; simp; omega
theorem F31_eq (t q : List Int) (ht : t.length < 4294967296) (hq : q.length + t.length + 10 < lim) : F31 t q = some (ro (q ++ dgT t)) := by
  unfold F31
  rw [wu64 (by omega) (by omega), F16_eq _ _ (by omega) (by omega) (by omega)]
  have := dg_len t.length
  simp only [Option.bind_some, cif]
  rw [if_pos (by simp; omega), List.append_assoc]
  rfl
theorem F27_eq (q t : List Int) (ht : t.length < 4294967296) (hq : q.length + t.length + 10 < lim) : F27 q t = some (ro (q ++ dgT t)) := by
  unfold F27
  rw [wu64 (by omega) (by omega), F18_eq _ _ (by omega) (by omega) (by omega)]
  have := dg_len t.length
  simp only [Option.bind_some, cif]
  rw [if_pos (by simp; omega), List.append_assoc]
  rfl

/-- A number in eight bytes, the highest first; the last k of these. -/
def fixF (n : Int) : Nat → List Int
  | 0 => []
  | k + 1 => (n / 256 ^ k) % 256 :: fixF n k
def fix8 (n : Int) : List Int := fixF n 8
theorem fixF_len (n : Int) : ∀ k, (fixF n k).length = k
  | 0 => rfl
  | k + 1 => by simp [fixF, fixF_len n k]
theorem shr8 {n : Int} (h : 0 ≤ n) (k : Nat) (hk : k < 8) : IntKind.wrap .u8 (iShr .u64 n ((8 * k : Nat) : Int)) = (n / 256 ^ k) % 256 := by
  rw [wu8_mod]
  unfold iShr
  rw [Int.toNat_natCast, Nat.min_eq_left (by show 8 * k ≤ 64; omega), Int.fdiv_eq_ediv_of_nonneg _ (by exact Int.le_of_lt (Int.pow_pos (by decide))), Int.pow_mul]
  rfl
theorem L14_run (n : Int) (h0 : 0 ≤ n) : ∀ (k : Nat) (q : List Int), k ≤ 8 → q.length + k < lim → L14_2 n ((k : Int) - 1) q = some (((), ()), (), (q ++ fixF n k, ())) := by
  intro k
  induction k with
  | zero =>
    intro q hk hq
    rw [L14_2_eq]
    simp only [T14_2, cif]
    rw [if_neg (by omega)]
    simp [fixF]
  | succ k ih =>
    intro q hk hq
    rw [L14_2_eq]
    simp only [T14_2, cif]
    have hw : IntKind.wrap .i64 (8 * (((k + 1 : Nat) : Int) - 1)) = ((8 * k : Nat) : Int) := by rw [w64 (by omega) (by omega)]; omega
    have hw2 : IntKind.wrap .i64 (((k + 1 : Nat) : Int) - 1 - 1) = (k : Int) - 1 := by rw [w64 (by omega) (by omega)]; omega
    rw [if_pos (by omega), hw, hw2, shr8 h0 k (by omega), if_pos (by omega), if_pos (by simp; omega)]
    simp only [Option.bind_some, Sum.elim_inl]
    rw [ih (q ++ [(n / 256 ^ k) % 256]) (by omega) (by simp; omega)]
    simp [fixF]
theorem F14_eq (n : Int) (q : List Int) (h0 : 0 ≤ n) (hq : q.length + 8 < lim) : F14 n q = some (ro (q ++ fix8 n)) := by
  unfold F14
  have := L14_run n h0 8 q (by omega) hq
  rw [show ((8 : Nat) : Int) - 1 = 7 from rfl] at this
  rw [this]
  rfl
theorem L15_run (n : Int) (h0 : 0 ≤ n) : ∀ (k : Nat) (q : List Int), k ≤ 8 → q.length + k < lim → L15_4 n (8 - (k : Int)) q = some (((), ()), (), (q ++ fixF n k, ())) := by
  intro k
  induction k with
  | zero =>
    intro q hk hq
    rw [L15_4_eq]
    simp only [T15_4, cif]
    rw [if_neg (by omega)]
    simp [fixF]
  | succ k ih =>
    intro q hk hq
    rw [L15_4_eq]
    simp only [T15_4, cif]
    have hw : IntKind.wrap .i64 (56 - IntKind.wrap .i64 (8 * (8 - ((k + 1 : Nat) : Int)))) = ((8 * k : Nat) : Int) := by
      rw [w64 (n := 8 * (8 - ((k + 1 : Nat) : Int))) (by omega) (by omega), w64 (by omega) (by omega)]; omega
    have hw2 : IntKind.wrap .i64 (8 - ((k + 1 : Nat) : Int) + 1) = 8 - (k : Int) := by rw [w64 (by omega) (by omega)]; omega
    rw [if_pos (by omega), hw, hw2, shr8 h0 k (by omega), if_pos (by omega), if_pos (by simp; omega)]
    simp only [Option.bind_some, Sum.elim_inl]
    rw [ih (q ++ [(n / 256 ^ k) % 256]) (by omega) (by simp; omega)]
    simp [fixF]
theorem F15_eq (q : List Int) (n : Int) (h0 : 0 ≤ n) (hq : q.length + 8 < lim) : F15 q n = some (ro (q ++ fix8 n)) := by
  unfold F15
  simp only [cif]
  rw [if_pos (by omega)]
  have := L15_run n h0 8 q (by omega) hq
  rw [show (8 : Int) - ((8 : Nat) : Int) = 0 from rfl] at this
  rw [this]
  rfl


def Bys (l : List Int) : Prop := ∀ x ∈ l, 0 ≤ x ∧ x < 256
theorem Bys.drop {l : List Int} (h : Bys l) (n : Nat) : Bys (l.drop n) := fun x hx => h x (List.mem_of_mem_drop hx)
theorem Bys.take {l : List Int} (h : Bys l) (n : Nat) : Bys (l.take n) := fun x hx => h x (List.mem_of_mem_take hx)
theorem Bys.app {a b : List Int} (ha : Bys a) (hb : Bys b) : Bys (a ++ b) := fun x hx => (List.mem_append.1 hx).elim (ha x) (hb x)

/-- The number ahead: and what stands behind it; or why there is none. -/
def tk : Nat → Int → List Int → (Int × List Int) ⊕ Int
  | _, _, [] => .inr 5
  | i, acc, b :: r => if (i = 9 ∧ 1 < b) ∨ (0 < i ∧ b = 0) then .inr 4 else if b < 128 then .inl (acc + b % 128 * 128 ^ i, r) else tk (i + 1) (acc + b % 128 * 128 ^ i) r

theorem and127' : ∀ a : Fin 256, iAnd .u8 (a.val : Int) 127 = (a.val : Int) % 128 := by decide +kernel
theorem and127 {b : Int} (h0 : 0 ≤ b) (h1 : b < 256) : iAnd .u8 b 127 = b % 128 := by
  have := and127' ⟨b.toNat, by omega⟩
  simpa [Int.toNat_of_nonneg h0] using this
theorem or_nat {x y : Nat} (hx : x < 2 ^ 64) (hy : y < 2 ^ 64) : iOr .u64 (x : Int) (y : Int) = ((x ||| y : Nat) : Int) := by
  show IntKind.wrap .u64 (((BitVec.ofInt 64 (x : Int) ||| BitVec.ofInt 64 (y : Int) : BitVec 64).toNat : Nat) : Int) = _
  rw [BitVec.ofInt_natCast, BitVec.ofInt_natCast, BitVec.toNat_or, BitVec.toNat_ofNat, BitVec.toNat_ofNat, Nat.mod_eq_of_lt hx, Nat.mod_eq_of_lt hy]
  have := Nat.or_lt_two_pow hx hy
  exact wu64 (by omega) (by omega)
theorem or_shl {acc c : Int} {i : Nat} (hi : i ≤ 9) (h0 : 0 ≤ acc) (h1 : acc < 128 ^ i) (c0 : 0 ≤ c) (c1 : c < 128) (h9 : i = 9 → c ≤ 1) :
    iOr .u64 acc (iShl .u64 c ((7 * i : Nat) : Int)) = acc + c * 128 ^ i := by
  obtain ⟨x, rfl⟩ := Int.eq_ofNat_of_zero_le h0
  obtain ⟨y, rfl⟩ := Int.eq_ofNat_of_zero_le c0
  have hp : ((128 : Int) ^ i) = ((2 ^ (7 * i) : Nat) : Int) := by rw [Nat.pow_mul]; simp
  rw [hp] at h1 ⊢
  have hx : x < 2 ^ (7 * i) := by exact_mod_cast h1
  have hy : y * 2 ^ (7 * i) < 2 ^ 64 := by
    rcases Nat.lt_or_ge i 9 with q | q
    · have : 2 ^ (7 * i) ≤ 2 ^ 56 := Nat.pow_le_pow_right (by decide) (by omega)
      calc y * 2 ^ (7 * i) ≤ 127 * 2 ^ 56 := Nat.mul_le_mul (by omega) this
        _ < 2 ^ 64 := by decide
    · obtain rfl : i = 9 := by omega
      have := h9 rfl
      calc y * 2 ^ (7 * 9) ≤ 1 * 2 ^ 63 := Nat.mul_le_mul (by omega) (by decide)
        _ < 2 ^ 64 := by decide
  have hx64 : x < 2 ^ 64 := Nat.lt_of_lt_of_le hx (Nat.pow_le_pow_right (by decide) (by omega))
  have hs : iShl .u64 (y : Int) ((7 * i : Nat) : Int) = ((y * 2 ^ (7 * i) : Nat) : Int) := by
    unfold iShl
    rw [Int.toNat_natCast, Nat.min_eq_left (by show 7 * i ≤ 64; omega), show (y : Int) * 2 ^ (7 * i) = ((y * 2 ^ (7 * i) : Nat) : Int) from by simp]
    generalize y * 2 ^ (7 * i) = z at hy
    exact wu64 (by omega) (by omega)
  rw [hs, or_nat hx64 hy, ← Nat.shiftLeft_eq, Nat.or_comm, ← Nat.shiftLeft_add_eq_or_of_lt hx, Nat.shiftLeft_eq]
  simp
  omega

abbrev r3 {α β γ : Type} (x : α) (y : β) (z : γ) : (α × β × γ × Unit) × Unit × Unit := ((x, y, z, ()), (), ())
theorem acc_lt {acc c : Int} {i : Nat} (h1 : acc < 128 ^ i) (c1 : c < 128) : acc + c * 128 ^ i < 128 ^ (i + 1) := by
  have hp : (0 : Int) < 128 ^ i := Int.pow_pos (by decide)
  rw [Int.pow_succ]
  have : c * 128 ^ i ≤ 127 * 128 ^ i := Int.mul_le_mul_of_nonneg_right (by omega) (Int.le_of_lt hp)
  omega
theorem L17_run (xs : List Int) (hb : Bys xs) : ∀ (r : List Int) (i : Nat) (acc : Int), r = xs.drop i → i ≤ 9 → i ≤ xs.length → 0 ≤ acc → acc < 128 ^ i →
    L17_3 xs acc xs (xs.length : Nat) (i : Nat) = some (match tk i acc r with | .inl q => .inl (r3 q.1 q.2 0) | .inr e => if e = 4 then .inl (r3 0 xs 4) else .inr ((), (), ())) := by
  intro r
  induction r with
  | nil =>
    intro i acc hr hi hl h0 h1
    have : xs.length ≤ i := by
      have := congrArg List.length hr
      simp at this
      omega
    rw [L17_3_eq]
    simp only [T17_3, cif]
    rw [if_neg (by omega)]
    rfl
  | cons b r ih =>
    intro i acc hr hi hl h0 h1
    have hlt : i < xs.length := by
      have := congrArg List.length hr
      simp at this
      omega
    have hd := List.drop_eq_getElem_cons hlt
    rw [hd] at hr
    cases hr
    obtain ⟨b0, b1⟩ := hb _ (List.getElem_mem hlt)
    have hg : xs.getD (i : Int).toNat 0 = xs[i] := by rw [Int.toNat_natCast, List.getD_eq_getElem?_getD, List.getElem?_eq_getElem hlt]; rfl
    have hw : IntKind.wrap .i64 (7 * (i : Int)) = ((7 * i : Nat) : Int) := by rw [w64 (by omega) (by omega)]; omega
    have hw2 : IntKind.wrap .i64 ((i : Int) + 1) = ((i + 1 : Nat) : Int) := by rw [w64 (by omega) (by omega)]; omega
    rw [L17_3_eq]
    simp only [T17_3, cif, beq_iff_eq, Bool.cond_eq_ite, decide_eq_true_eq, hg, hw, hw2, and127 b0 b1]
    rw [if_pos (by omega), if_pos (by omega)]
    rw [wu64 (n := xs[i] % 128) (by omega) (by omega)]
    by_cases c : (i = 9 ∧ 1 < xs[i]) ∨ (0 < i ∧ xs[i] = 0)
    · unfold tk
      rw [if_pos c]
      by_cases c9 : i = 9
      · rw [if_pos (by omega)]
        by_cases c1 : xs[i] > 1
        · rw [if_pos c1]; rfl
        · rw [if_neg c1, if_pos (by omega), if_pos (by omega)]; rfl
      · rw [if_neg (by omega), if_pos (by omega), if_pos (by omega)]; rfl
    · unfold tk
      rw [if_neg c]
      have hor : iOr .u64 acc (iShl .u64 (xs[i] % 128) ((7 * i : Nat) : Int)) = acc + xs[i] % 128 * 128 ^ i := or_shl hi h0 h1 (by omega) (by omega) (by omega)
      have hp : (0 : Int) < 128 ^ i := Int.pow_pos (by decide)
      have hnn : 0 ≤ xs[i] % 128 * 128 ^ i := Int.mul_nonneg (by omega) (Int.le_of_lt hp)
      rw [hor]
      have main : (if (0 : Int) ≤ ((7 * i : Nat) : Int) then
          (if xs[i] < 128 then (if 0 ≤ ((i + 1 : Nat) : Int) ∧ ((i + 1 : Nat) : Int) ≤ (xs.length : Int) then some (.inr (.inl (r3 (acc + xs[i] % 128 * 128 ^ i) (xs.drop ((i + 1 : Nat) : Int).toNat) 0))) else none)
          else some (.inl ((xs, acc + xs[i] % 128 * 128 ^ i, xs, (xs.length : Int), ((i + 1 : Nat) : Int), ()), (), ()))) else none :
          Option ((((List Int) × (Int × ((List Int) × (Int × (Int × Unit))))) × Unit × Unit) ⊕ (((Int × ((List Int) × (Int × Unit))) × Unit × Unit) ⊕ (Unit × Unit × Unit)))).bind
          (Sum.elim (fun x => L17_3 x.1.1 x.1.2.1 x.1.2.2.1 x.1.2.2.2.1 x.1.2.2.2.2.1) some) =
          some (match (if xs[i] < 128 then .inl (acc + xs[i] % 128 * 128 ^ i, xs.drop (i + 1)) else tk (i + 1) (acc + xs[i] % 128 * 128 ^ i) (xs.drop (i + 1)) : (Int × List Int) ⊕ Int) with
            | .inl q => .inl (r3 q.1 q.2 0) | .inr e => if e = 4 then .inl (r3 0 xs 4) else .inr ((), (), ())) := by
        rw [if_pos (by omega)]
        by_cases c128 : xs[i] < 128
        · rw [if_pos c128, if_pos c128, if_pos (by omega), Int.toNat_natCast]; rfl
        · rw [if_neg c128, if_neg c128]
          simp only [Option.bind_some, Sum.elim_inl]
          exact ih (i + 1) _ rfl (by omega) (by omega) (by omega) (acc_lt h1 (by omega))
      by_cases c9 : i = 9
      · rw [if_pos (by omega), if_neg (by omega), if_pos (by omega), if_neg (by omega)]
        exact main
      · rw [if_neg (by omega)]
        by_cases c0 : 0 < i
        · rw [if_pos (by omega), if_neg (by omega)]
          exact main
        · rw [if_neg (by omega)]
          exact main
theorem tk_err {r : List Int} : ∀ {i : Nat} {acc e : Int}, tk i acc r = .inr e → e = 4 ∨ e = 5 := by
  induction r with
  | nil => intro i acc e h; cases h; exact .inr rfl
  | cons b r ih =>
    intro i acc e h
    unfold tk at h
    split at h
    · cases h; exact .inl rfl
    · split at h
      · cases h
      · exact ih h
theorem F17_eq (xs : List Int) (hb : Bys xs) : F17 xs = some (match tk 0 0 xs with | .inl q => r3 q.1 q.2 0 | .inr e => r3 0 xs e) := by
  unfold F17
  have := L17_run xs hb xs 0 0 (by simp) (by omega) (by omega) (by omega) (by decide)
  rw [show ((0 : Nat) : Int) = 0 from rfl] at this
  rw [this]
  cases h : tk 0 0 xs with
  | inl q => rfl
  | inr e =>
    rcases tk_err h with rfl | rfl
    · rfl
    · rfl
theorem dgF_byte : ∀ (f : Nat) (n : Int), 0 ≤ n → n < 128 ^ (f + 1) → Bys (dgF f n)
  | 0, n, h0, h1 => fun x hx => by
    simp only [dgF, List.mem_singleton] at hx
    subst hx
    have : (128 : Int) ^ (0 + 1) = 128 := rfl
    omega
  | f + 1, n, h0, h1 => fun x hx => by
    unfold dgF at hx
    split at hx
    · simp at hx; omega
    · rcases List.mem_cons.1 hx with rfl | hx
      · omega
      · exact dgF_byte f (n / 128) (by omega) (by rw [Int.pow_succ] at h1; omega) x hx
theorem dg_byte {n : Int} (h0 : 0 ≤ n) (h1 : n < 18446744073709551616) : Bys (dg n) :=
  dgF_byte 9 n h0 (by rw [show (128 : Int) ^ (9 + 1) = 1180591620717411303424 from by decide]; omega)

theorem tk_app (rest : List Int) : ∀ (f i : Nat) (n acc : Int), f + i = 9 → 0 ≤ n → n < 2 ^ (64 - 7 * i) → (0 < i → 1 ≤ n) → tk i acc (dgF f n ++ rest) = .inl (acc + n * 128 ^ i, rest) := by
  intro f
  induction f with
  | zero =>
    intro i n acc hi h0 h1 hn
    obtain rfl : i = 9 := by omega
    have h2 : n < 2 := h1
    show tk 9 acc (n :: rest) = _
    unfold tk
    rw [if_neg (by omega), if_pos (by omega), Int.emod_eq_of_lt h0 (by omega)]
  | succ f ih =>
    intro i n acc hi h0 h1 hn
    unfold dgF
    by_cases hs : n < 128
    · rw [if_pos hs]
      show tk i acc (n :: rest) = _
      unfold tk
      rw [if_neg (by omega), if_pos hs, Int.emod_eq_of_lt h0 hs]
    · rw [if_neg hs]
      show tk i acc ((128 + n % 128) :: (dgF f (n / 128) ++ rest)) = _
      unfold tk
      rw [if_neg (by omega), if_neg (by omega)]
      have hp : (2 : Int) ^ (64 - 7 * i) = 2 ^ (64 - 7 * (i + 1)) * 128 := by
        rw [show 64 - 7 * i = (64 - 7 * (i + 1)) + 7 from by omega, Int.pow_add]; rfl
      rw [ih (i + 1) (n / 128) _ (by omega) (by omega) (by rw [hp] at h1; omega) (fun _ => by omega)]
      have hm : (128 + n % 128) % 128 = n % 128 := by omega
      rw [hm, Int.pow_succ]
      have : n * 128 ^ i = n % 128 * 128 ^ i + n / 128 * (128 ^ i * 128) := by
        rw [show n / 128 * (128 ^ i * 128) = (n / 128 * 128) * 128 ^ i from by rw [Int.mul_comm (128 ^ i) 128, Int.mul_assoc], ← Int.add_mul]
        congr 1
        omega
      rw [this, Int.add_assoc]
theorem tk_dg {n : Int} (h0 : 0 ≤ n) (h1 : n < 18446744073709551616) (rest : List Int) : tk 0 0 (dg n ++ rest) = .inl (n, rest) := by
  have := tk_app rest 9 0 n 0 (by omega) h0 h1 (by omega)
  rw [dg, this]
  simp
theorem tk_inv : ∀ (xs : List Int) (i : Nat) (acc m : Int) (rest : List Int), Bys xs → i ≤ 9 → tk i acc xs = .inl (m, rest) →
    ∃ n, xs = dgF (9 - i) n ++ rest ∧ m = acc + n * 128 ^ i ∧ 0 ≤ n ∧ n < 2 ^ (64 - 7 * i) ∧ (0 < i → 1 ≤ n) := by
  intro xs
  induction xs with
  | nil => intro i acc m rest hb hi h; cases h
  | cons b r ih =>
    intro i acc m rest hb hi h
    obtain ⟨b0, b1⟩ := hb b (List.mem_cons_self ..)
    unfold tk at h
    split at h
    · cases h
    · rename_i hc
      split at h
      · rename_i h128
        cases h
        refine ⟨b, ?_, by rw [Int.emod_eq_of_lt b0 h128], b0, ?_, by omega⟩
        · rw [dgF_lt h128]; rfl
        · by_cases h9 : i = 9
          · subst h9; show b < 2; omega
          · have hp : (2 : Int) ^ (64 - 7 * i) = 2 ^ (57 - 7 * i) * 128 := by
              rw [show 64 - 7 * i = (57 - 7 * i) + 7 from by omega, Int.pow_add]; rfl
            have : (0 : Int) < 2 ^ (57 - 7 * i) := Int.pow_pos (by decide)
            omega
      · rename_i h128
        have hi9 : i ≠ 9 := by omega
        obtain ⟨n, h1, h2, h3, h4, h5⟩ := ih (i + 1) _ m rest (fun x hx => hb x (List.mem_cons_of_mem _ hx)) (by omega) h
        have h5 := h5 (by omega)
        have hp : (2 : Int) ^ (64 - 7 * i) = 2 ^ (64 - 7 * (i + 1)) * 128 := by
          rw [show 64 - 7 * i = (64 - 7 * (i + 1)) + 7 from by omega, Int.pow_add]; rfl
        refine ⟨b % 128 + n * 128, ?_, ?_, by omega, by rw [hp]; omega, by omega⟩
        · rw [show 9 - i = (9 - (i + 1)) + 1 from by omega]
          unfold dgF
          rw [if_neg (by omega), h1, show 128 + (b % 128 + n * 128) % 128 = b from by omega, show (b % 128 + n * 128) / 128 = n from by omega]
          rfl
        · rw [h2, Int.pow_succ, Int.add_mul, Int.add_assoc, show n * (128 ^ i * 128) = n * 128 * 128 ^ i from by rw [Int.mul_comm (128 ^ i) 128, Int.mul_assoc]]
theorem tk_some {xs : List Int} {m : Int} {rest : List Int} (hb : Bys xs) (h : tk 0 0 xs = .inl (m, rest)) : xs = dg m ++ rest ∧ 0 ≤ m ∧ m < 18446744073709551616 := by
  obtain ⟨n, h1, h2, h3, h4, _⟩ := tk_inv xs 0 0 m rest hb (by omega) h
  have : m = n := by rw [h2]; simp
  subst this
  exact ⟨h1, h3, h4⟩

/-- A text ahead. -/
def tkT (most : Int) (xs : List Int) : (List Int × List Int) ⊕ Int :=
  match tk 0 0 xs with
  | .inr e => .inr e
  | .inl (n, r) => if most < 0 ∨ n > most then .inr 6 else if n > (r.length : Int) then .inr 5 else .inl (r.take n.toNat, r.drop n.toNat)
theorem F28_eq (xs : List Int) (most : Int) (hb : Bys xs) (hl : xs.length < 2 ^ 63) (hm : most < lim) : F28 xs most = some (match tkT most xs with | .inl q => r3 q.1 q.2 0 | .inr e => r3 [] xs e) := by
  unfold F28 tkT
  rw [F17_eq xs hb]
  have hlim : lim = 1099511627776 := rfl
  cases h : tk 0 0 xs with
  | inr e =>
    simp only [Option.bind_some]
    rcases tk_err h with rfl | rfl <;> rfl
  | inl q =>
    obtain ⟨n, r⟩ := q
    obtain ⟨h1, h2, h3⟩ := tk_some hb h
    have hr : r.length ≤ xs.length := by rw [h1]; simp
    simp only [Option.bind_some, bne_self_eq_false, cond_false, cif]
    by_cases c1 : most < 0
    · rw [if_pos c1, if_pos (Or.inl c1)]
    · rw [if_neg c1, wu64 (n := most) (by omega) (by omega), wu64 (n := (r.length : Int)) (by omega) (by omega)]
      by_cases c2 : n > most
      · rw [if_pos c2, if_pos (Or.inr c2)]
      · rw [if_neg c2, if_neg (show ¬ (most < 0 ∨ n > most) from by omega)]
        by_cases c3 : n > (r.length : Int)
        · rw [if_pos c3, if_pos c3]
        · rw [if_neg c3, if_neg c3, if_pos (by omega), if_pos (by rw [List.length_take]; omega), if_pos (by omega)]
theorem tkT_app {t rest : List Int} {most : Int} (h : (t.length : Int) ≤ most) (hl : t.length < 2 ^ 63) : tkT most (dgT t ++ rest) = .inl (t, rest) := by
  unfold tkT dgT
  rw [List.append_assoc, tk_dg (by omega) (by omega)]
  simp only
  rw [if_neg (by omega), if_neg (by simp; omega), Int.toNat_natCast]
  simp
theorem tkT_some {xs t rest : List Int} {most : Int} (hb : Bys xs) (h : tkT most xs = .inl (t, rest)) : xs = dgT t ++ rest ∧ (t.length : Int) ≤ most := by
  unfold tkT at h
  split at h
  · cases h
  · rename_i n r hk
    obtain ⟨h1, h2, h3⟩ := tk_some hb hk
    split at h
    · cases h
    · split at h
      · cases h
      · cases h
        have hlen : (r.take n.toNat).length = n.toNat := by rw [List.length_take]; omega
        refine ⟨?_, by rw [hlen]; omega⟩
        unfold dgT
        rw [hlen, Int.toNat_of_nonneg h2, List.append_assoc, List.take_append_drop, ← h1]


end Go.IM.V

/- Plain: the two sums of bytes are one. -/
set_option linter.unusedVariables false
set_option linter.unusedSimpArgs false
namespace Go.IM.Crc
open Go Go.IM
noncomputable def stepI (s : Int) : Int := iXor .u32 (iShr .u32 s 1) (IntKind.wrap .u32 (2197175160 * iAnd .u32 s 1))
noncomputable def stepsI : Nat → Int → Int
  | 0, s => s
  | d + 1, s => stepsI d (stepI s)
noncomputable def sumI : List UInt8 → Int → Int
  | [], s => s
  | b :: r, s => sumI r (stepsI 8 (iXor .u32 s (IntKind.wrap .u32 (b.toNat : Int))))

noncomputable def topI (s : Int) : Int := iShr .u32 s 31
noncomputable def bitI (b : Int) (k : Nat) : Int := iAnd .u32 (IntKind.wrap .u32 (iShr .u8 b ((k : Nat) : Int))) 1
noncomputable def rstepI (b : Int) (k : Nat) (s : Int) : Int := if bitI b k = topI s then iShl .u32 s 1 else iXor .u32 (iShl .u32 s 1) 517762881
/-- d steps from the k-th bit on. -/
noncomputable def rstepsI (b : Int) : Nat → Nat → Int → Int
  | 0, _, s => s
  | d + 1, k, s => rstepsI b d (k + 1) (rstepI b k s)
noncomputable def rsumI : List UInt8 → Int → Int
  | [], s => s
  | b :: r, s => rsumI r (rstepsI (b.toNat : Int) 8 0 s)
noncomputable def turnI (s : Int) : Nat → Nat → Int → Int
  | 0, _, t => t
  | d + 1, k, t => turnI s d (k + 1) (iOr .u32 (iShl .u32 t 1) (iAnd .u32 (iShr .u32 s ((k : Nat) : Int)) 1))

noncomputable def rsum (B : List UInt8) : Int := turnI (iNot .u32 (rsumI B 4294967295)) 32 0 0
/- Plain: the two sums are one. -/

theorem wrap_u32 (n : Int) : IntKind.wrap .u32 n = n % 4294967296 := by
  simp [IntKind.wrap, IntKind.bits, IntKind.signed]
theorem ofInt_toNat (s : BitVec 32) : BitVec.ofInt 32 (s.toNat : Int) = s := by
  apply BitVec.eq_of_toNat_eq
  have := s.isLt
  rw [BitVec.toNat_ofInt]
  omega
theorem wrap_bv (s : BitVec 32) : IntKind.wrap .u32 (s.toNat : Int) = (s.toNat : Int) := by
  have := s.isLt
  rw [wrap_u32]; omega
theorem xor_bv (s t : BitVec 32) : iXor .u32 (s.toNat : Int) (t.toNat : Int) = ((s ^^^ t).toNat : Int) := by
  unfold iXor
  show IntKind.wrap .u32 ((BitVec.ofInt 32 (s.toNat : Int) ^^^ BitVec.ofInt 32 (t.toNat : Int)).toNat : Int) = _
  rw [ofInt_toNat, ofInt_toNat, wrap_bv]
theorem and_bv (s t : BitVec 32) : iAnd .u32 (s.toNat : Int) (t.toNat : Int) = ((s &&& t).toNat : Int) := by
  unfold iAnd
  show IntKind.wrap .u32 ((BitVec.ofInt 32 (s.toNat : Int) &&& BitVec.ofInt 32 (t.toNat : Int)).toNat : Int) = _
  rw [ofInt_toNat, ofInt_toNat, wrap_bv]
theorem or_bv (s t : BitVec 32) : iOr .u32 (s.toNat : Int) (t.toNat : Int) = ((s ||| t).toNat : Int) := by
  unfold iOr
  show IntKind.wrap .u32 ((BitVec.ofInt 32 (s.toNat : Int) ||| BitVec.ofInt 32 (t.toNat : Int)).toNat : Int) = _
  rw [ofInt_toNat, ofInt_toNat, wrap_bv]
theorem not_bv (s : BitVec 32) : iNot .u32 (s.toNat : Int) = ((~~~s).toNat : Int) := by
  unfold iNot
  have h : (if IntKind.u32.signed then (-1 : Int) else IntKind.u32.max) = ((BitVec.allOnes 32).toNat : Int) := by decide
  rw [h, xor_bv, BitVec.allOnes_xor]
theorem shr_bv (s : BitVec 32) (n : Nat) (hn : n ≤ 32) : iShr .u32 (s.toNat : Int) (n : Int) = ((s >>> n).toNat : Int) := by
  unfold iShr
  have h : min (n : Int).toNat IntKind.u32.bits = n := by show min n 32 = n; omega
  rw [h, BitVec.toNat_ushiftRight, Nat.shiftRight_eq_div_pow]
  have h2 : ((2 : Int) ^ n) = ((2 ^ n : Nat) : Int) := by simp
  rw [h2, Int.fdiv_eq_ediv_of_nonneg _ (Int.natCast_nonneg _)]
  rfl
theorem shl_bv (s : BitVec 32) : iShl .u32 (s.toNat : Int) 1 = ((s <<< 1).toNat : Int) := by
  unfold iShl
  have h : min (1 : Int).toNat IntKind.u32.bits = 1 := by decide
  rw [h, wrap_u32, BitVec.toNat_shiftLeft, Nat.shiftLeft_eq]
  have := s.isLt
  omega
theorem mul_bv (s : BitVec 32) : IntKind.wrap .u32 (2197175160 * (s.toNat : Int)) = ((2197175160#32 * s).toNat : Int) := by
  rw [wrap_u32, BitVec.toNat_mul]
  show _ = ((2197175160 * s.toNat % 2 ^ 32 : Nat) : Int)
  omega

/-! ### In bit vectors -/
def pad (b : UInt8) : BitVec 32 := BitVec.ofNat 32 b.toNat
def stepB (s : BitVec 32) : BitVec 32 := (s >>> 1) ^^^ (2197175160#32 * (s &&& 1#32))
def stepsB : Nat → BitVec 32 → BitVec 32
  | 0, s => s
  | d + 1, s => stepsB d (stepB s)
def sumB : List UInt8 → BitVec 32 → BitVec 32
  | [], s => s
  | b :: r, s => sumB r (stepsB 8 (s ^^^ pad b))

theorem one_bv : (1 : Int) = ((1#32).toNat : Int) := by decide
theorem step_bv (s : BitVec 32) : stepI (s.toNat : Int) = ((stepB s).toNat : Int) := by
  unfold stepI stepB
  have h : iShr .u32 (s.toNat : Int) 1 = ((s >>> 1).toNat : Int) := shr_bv s 1 (by omega)
  have h2 : iAnd .u32 (s.toNat : Int) 1 = ((s &&& 1#32).toNat : Int) := by
    have := and_bv s 1#32
    exact this
  rw [h, h2, mul_bv, xor_bv]
theorem steps_bv : ∀ (d : Nat) (s : BitVec 32), stepsI d (s.toNat : Int) = ((stepsB d s).toNat : Int) := by
  intro d
  induction d with
  | zero => intro s; rfl
  | succ d ih => intro s; rw [stepsI, stepsB, step_bv, ih]
theorem pad_toNat (b : UInt8) : (b.toNat : Int) = ((pad b).toNat : Int) := by
  unfold pad
  have := b.toNat_lt
  rw [BitVec.toNat_ofNat]; omega
theorem sum_bv : ∀ (B : List UInt8) (s : BitVec 32), sumI B (s.toNat : Int) = ((sumB B s).toNat : Int) := by
  intro B
  induction B with
  | nil => intro s; rfl
  | cons b r ih => intro s; rw [sumI, sumB, pad_toNat, wrap_bv, xor_bv, steps_bv, ih]

/-! ### Bit by bit -/
def bitStep (β : Bool) (s : BitVec 32) : BitVec 32 := (s >>> 1) ^^^ (if s.getLsbD 0 != β then 2197175160#32 else 0#32)
def bitsStep (b : BitVec 32) : Nat → Nat → BitVec 32 → BitVec 32
  | 0, _, s => s
  | d + 1, k, s => bitsStep b d (k + 1) (bitStep (b.getLsbD k) s)

theorem and_one (s : BitVec 32) : s &&& 1#32 = if s.getLsbD 0 then 1#32 else 0#32 := by
  apply BitVec.eq_of_getLsbD_eq
  intro i hi
  rw [BitVec.getLsbD_and]
  by_cases h : i = 0
  · subst h
    cases hs : s.getLsbD 0 <;> simp
  · have : (1#32).getLsbD i = false := by
      rw [BitVec.getLsbD_one]; simp; omega
    rw [this]
    cases hs : s.getLsbD 0 <;> simp [this]
theorem stepB_bit (s : BitVec 32) : stepB s = (s >>> 1) ^^^ (if s.getLsbD 0 then 2197175160#32 else 0#32) := by
  unfold stepB
  rw [and_one]
  cases s.getLsbD 0 <;> simp

theorem split (b : BitVec 32) : ∀ (d k : Nat) (s : BitVec 32), stepsB d (s ^^^ (b >>> k)) = bitsStep b d k s ^^^ (b >>> (k + d)) := by
  intro d
  induction d with
  | zero => intro k s; rfl
  | succ d ih =>
    intro k s
    rw [stepsB, bitsStep]
    have h : stepB (s ^^^ (b >>> k)) = bitStep (b.getLsbD k) s ^^^ (b >>> (k + 1)) := by
      rw [stepB_bit]
      unfold bitStep
      have e1 : (s ^^^ b >>> k) >>> 1 = s >>> 1 ^^^ b >>> (k + 1) := by
        apply BitVec.eq_of_getLsbD_eq
        intro i hi
        simp [BitVec.getLsbD_ushiftRight, Nat.add_comm, Nat.add_left_comm, Nat.add_assoc]
      have e2 : (s ^^^ b >>> k).getLsbD 0 = (s.getLsbD 0 != b.getLsbD k) := by simp
      rw [e1, e2]
      rw [BitVec.xor_assoc, BitVec.xor_assoc, BitVec.xor_comm (b >>> (k + 1))]
    rw [h, ih (k + 1), show k + 1 + d = k + (d + 1) by omega]

theorem split8 (b : UInt8) (s : BitVec 32) : stepsB 8 (s ^^^ pad b) = bitsStep (pad b) 8 0 s := by
  have h := split (pad b) 8 0 s
  have e0 : pad b >>> 0 = pad b := by simp
  have e8 : pad b >>> (0 + 8) = 0#32 := by
    apply BitVec.eq_of_toNat_eq
    have := b.toNat_lt
    rw [BitVec.toNat_ushiftRight, Nat.shiftRight_eq_div_pow]
    unfold pad
    rw [BitVec.toNat_ofNat]
    simp
    omega
  rw [e0, e8] at h
  rw [h, BitVec.xor_zero]

/- Plain: the two sums are one (by the highest bit first). -/

def rev (s : BitVec 32) : BitVec 32 := s.reverse
theorem rev_get (s : BitVec 32) (i : Nat) (hi : i < 32) : (rev s).getLsbD i = s.getLsbD (31 - i) := by
  unfold rev
  rw [BitVec.getLsbD_reverse, BitVec.getMsbD]
  simp [hi]
theorem rev_xor (s t : BitVec 32) : rev (s ^^^ t) = rev s ^^^ rev t := by
  apply BitVec.eq_of_getLsbD_eq
  intro i hi
  rw [rev_get _ _ hi, BitVec.getLsbD_xor, BitVec.getLsbD_xor, rev_get _ _ hi, rev_get _ _ hi]
theorem rev_not (s : BitVec 32) : rev (~~~s) = ~~~(rev s) := by
  apply BitVec.eq_of_getLsbD_eq
  intro i hi
  rw [rev_get _ _ hi, BitVec.getLsbD_not, BitVec.getLsbD_not, rev_get _ _ hi]
  simp [hi]; omega
theorem rev_rev (s : BitVec 32) : rev (rev s) = s := by
  apply BitVec.eq_of_getLsbD_eq
  intro i hi
  rw [rev_get _ _ hi, rev_get _ _ (by omega)]
  congr 1; omega
theorem rev_shr (s : BitVec 32) : rev (s >>> 1) = rev s <<< 1 := by
  apply BitVec.eq_of_getLsbD_eq
  intro i hi
  rw [rev_get _ _ hi, BitVec.getLsbD_ushiftRight, BitVec.getLsbD_shiftLeft]
  by_cases h : i = 0
  · subst h
    simp
  · rw [rev_get _ _ (by omega)]
    have : 1 + (31 - i) = 31 - (i - 1) := by omega
    rw [this]
    simp [hi]; omega

def rstepB (β : Bool) (s : BitVec 32) : BitVec 32 := (s <<< 1) ^^^ (if s.getLsbD 31 != β then 517762881#32 else 0#32)
theorem rstep_rev (β : Bool) (s : BitVec 32) : rstepB β (rev s) = rev (bitStep β s) := by
  unfold rstepB bitStep
  rw [rev_xor, rev_shr, rev_get _ _ (by omega)]
  have e1 : rev 2197175160#32 = 517762881#32 := by decide +kernel
  have e2 : rev 0#32 = 0#32 := by decide +kernel
  congr 1
  by_cases h : (s.getLsbD (31 - 31) != β) = true
  · have h2 : (s.getLsbD 0 != β) = true := h
    rw [if_pos h, if_pos h2, e1]
  · have h2 : ¬ (s.getLsbD 0 != β) = true := h
    rw [if_neg h, if_neg h2, e2]

theorem bit_toNat (s : BitVec 32) : ((s &&& 1#32).toNat : Int) = if s.getLsbD 0 then 1 else 0 := by
  rw [and_one]; cases s.getLsbD 0 <;> simp
theorem bit_bv (b : UInt8) (k : Nat) (hk : k < 8) : bitI (b.toNat : Int) k = if (pad b).getLsbD k then 1 else 0 := by
  unfold bitI
  have h1 : iShr .u8 (b.toNat : Int) (k : Int) = ((pad b >>> k).toNat : Int) := by
    have := shr_bv (pad b) k (by omega)
    rw [← pad_toNat] at this
    rw [← this]
    unfold iShr
    have e : min (k : Int).toNat IntKind.u8.bits = min (k : Int).toNat IntKind.u32.bits := by show min k 8 = min k 32; omega
    rw [e]
  rw [h1, wrap_bv]
  have h2 := and_bv (pad b >>> k) 1#32
  have h3 : iAnd .u32 ((pad b >>> k).toNat : Int) 1 = (((pad b >>> k) &&& 1#32).toNat : Int) := h2
  rw [h3, bit_toNat]
  simp
theorem top_bv (s : BitVec 32) : topI (s.toNat : Int) = if s.getLsbD 31 then 1 else 0 := by
  unfold topI
  have h : iShr .u32 (s.toNat : Int) 31 = ((s >>> 31).toNat : Int) := shr_bv s 31 (by omega)
  rw [h]
  have h2 : s >>> 31 = (s >>> 31) &&& 1#32 := by
    apply BitVec.eq_of_getLsbD_eq
    intro i hi
    rw [BitVec.getLsbD_and, BitVec.getLsbD_ushiftRight, BitVec.getLsbD_one]
    by_cases h : i = 0
    · subst h; simp
    · rw [BitVec.getLsbD_of_ge _ _ (by omega)]; simp
  rw [h2, bit_toNat]
  simp
theorem rstep_bv (b : UInt8) (k : Nat) (hk : k < 8) (s : BitVec 32) : rstepI (b.toNat : Int) k (s.toNat : Int) = ((rstepB ((pad b).getLsbD k) s).toNat : Int) := by
  unfold rstepI rstepB
  rw [bit_bv b k hk, top_bv, shl_bv]
  have hx : iXor .u32 ((s <<< 1).toNat : Int) 517762881 = ((s <<< 1 ^^^ 517762881#32).toNat : Int) := xor_bv (s <<< 1) 517762881#32
  rw [hx]
  cases (pad b).getLsbD k <;> cases s.getLsbD 31 <;> simp
theorem rsteps_bv (b : UInt8) : ∀ (d k : Nat), k + d ≤ 8 → ∀ (s : BitVec 32), rstepsI (b.toNat : Int) d k ((rev s).toNat : Int) = ((rev (bitsStep (pad b) d k s)).toNat : Int) := by
  intro d
  induction d with
  | zero => intro k _ s; rfl
  | succ d ih =>
    intro k hk s
    rw [rstepsI, bitsStep, rstep_bv b k (by omega), rstep_rev, ih (k + 1) (by omega)]
theorem rsum_bv : ∀ (B : List UInt8) (s : BitVec 32), rsumI B ((rev s).toNat : Int) = ((rev (sumB B s)).toNat : Int) := by
  intro B
  induction B with
  | nil => intro s; rfl
  | cons b r ih => intro s; rw [rsumI, sumB, rsteps_bv b 8 0 (by omega), ih, split8]

/-! ### The bits turned -/
def turnB (s : BitVec 32) : Nat → Nat → BitVec 32 → BitVec 32
  | 0, _, t => t
  | d + 1, k, t => turnB s d (k + 1) ((t <<< 1) ||| ((s >>> k) &&& 1#32))
theorem turn_bv (s : BitVec 32) : ∀ (d k : Nat), k + d ≤ 32 → ∀ (t : BitVec 32), turnI (s.toNat : Int) d k (t.toNat : Int) = ((turnB s d k t).toNat : Int) := by
  intro d
  induction d with
  | zero => intro k _ t; rfl
  | succ d ih =>
    intro k hk t
    rw [turnI, turnB, shl_bv, shr_bv s k (by omega)]
    have h3 : iAnd .u32 ((s >>> k).toNat : Int) 1 = (((s >>> k) &&& 1#32).toNat : Int) := and_bv (s >>> k) 1#32
    rw [h3, or_bv, ih (k + 1) (by omega)]
theorem turn_spec (s : BitVec 32) : ∀ (d k : Nat), k + d = 32 → ∀ (t : BitVec 32), (∀ j, j < 32 → t.getLsbD j = (decide (j < k) && s.getLsbD (k - 1 - j))) → turnB s d k t = rev s := by
  intro d
  induction d with
  | zero =>
    intro k hk t ht
    obtain rfl : k = 32 := by omega
    apply BitVec.eq_of_getLsbD_eq
    intro i hi
    show t.getLsbD i = _
    rw [ht i hi, rev_get _ _ hi]
    simp [hi]
  | succ d ih =>
    intro k hk t ht
    rw [turnB]
    refine ih (k + 1) (by omega) _ fun j hj => ?_
    rw [BitVec.getLsbD_or, BitVec.getLsbD_shiftLeft, BitVec.getLsbD_and, BitVec.getLsbD_ushiftRight, BitVec.getLsbD_one]
    by_cases h0 : j = 0
    · subst h0; simp
    · rw [ht (j - 1) (by omega)]
      have e : k - 1 - (j - 1) = k + 1 - 1 - j := by omega
      rw [e]
      by_cases hjk : j < k + 1
      · have : j - 1 < k := by omega
        simp [hjk, this, hj, h0]
      · have : ¬ j - 1 < k := by omega
        simp [hjk, this, h0]

theorem sums_alike (B : List UInt8) : iNot .u32 (sumI B 4294967295) = rsum B := by
  have e1 : (4294967295 : Int) = ((BitVec.allOnes 32).toNat : Int) := by decide
  have e2 : (4294967295 : Int) = ((rev (BitVec.allOnes 32)).toNat : Int) := by decide +kernel
  unfold rsum
  have h1 : sumI B 4294967295 = ((sumB B (BitVec.allOnes 32)).toNat : Int) := by rw [e1, sum_bv]
  have h2 : rsumI B 4294967295 = ((rev (sumB B (BitVec.allOnes 32))).toNat : Int) := by rw [e2, rsum_bv]
  rw [h1, h2, not_bv, not_bv]
  have h3 := turn_bv (~~~(rev (sumB B (BitVec.allOnes 32)))) 32 0 (by omega) 0#32
  have e0 : ((0#32).toNat : Int) = 0 := by decide
  rw [e0] at h3
  rw [h3, turn_spec _ 32 0 rfl 0#32 (fun j _ => by simp), rev_not, rev_rev]


end Go.IM.Crc

/- The value machine: texts held against one another. -/
set_option linter.unusedVariables false
set_option linter.unusedSimpArgs false
namespace Go.IM.V
open Go Go.IM

theorem toList_loop (bs : ByteArray) : ∀ (d i : Nat) (r : List UInt8), i + d = bs.size → ByteArray.toList.loop bs i r = r.reverse ++ bs.data.toList.drop i := by
  intro d
  induction d with
  | zero =>
    intro i r h
    unfold ByteArray.toList.loop
    rw [if_neg (by omega), List.drop_eq_nil_of_le (by simp; omega), List.append_nil]
  | succ d ih =>
    intro i r h
    have hs : bs.size = bs.data.toList.length := by simp
    unfold ByteArray.toList.loop
    rw [if_pos (by omega), ih (i + 1) _ (by omega), List.drop_eq_getElem_cons (l := bs.data.toList) (i := i) (by omega)]
    have hlt : i < bs.data.size := by have : bs.size = bs.data.size := rfl; omega
    have : bs.get! i = bs.data.toList[i]'(by omega) := by
      show bs.data[i]! = _
      rw [getElem!_pos bs.data i hlt]
      simp
    simp [this]
theorem toListB (bs : ByteArray) : bs.toList = bs.data.toList := by
  have := toList_loop bs bs.size 0 [] (by omega)
  unfold ByteArray.toList
  rw [this]; simp
theorem strL_toList (l : List Int) : (strL l).toList = l.map fun n => UInt8.ofNat n.toNat := by rw [toListB]; simp [strL]
theorem strL_beq {a b : List Int} (ha : ∀ x ∈ a, 0 ≤ x ∧ x < 256) (hb : ∀ x ∈ b, 0 ≤ x ∧ x < 256) : ((strL a).toList == (strL b).toList) = decide (a = b) := by
  rw [strL_toList, strL_toList, Bool.eq_iff_iff, beq_iff_eq, decide_eq_true_iff]
  constructor
  · intro h
    have back : ∀ l : List Int, (∀ x ∈ l, 0 ≤ x ∧ x < 256) → (l.map fun n => UInt8.ofNat n.toNat).map (fun b => (b.toNat : Int)) = l := by
      intro l hl
      rw [List.map_map]
      conv => rhs; rw [← List.map_id l]
      apply List.map_congr_left
      intro x hx
      have := hl x hx
      simp [UInt8.toNat_ofNat']
      omega
    rw [← back a ha, ← back b hb, h]
  · intro h; rw [h]
end Go.IM.V

/- Records: the sums, and what is wrapped. -/
set_option linter.unusedVariables false
set_option linter.unusedSimpArgs false
set_option linter.constructorNameAsVariable false
namespace Go.IM.V
open Go Go.IM Go.Proofs Go.IM.Crc

def toB (xs : List Int) : List UInt8 := xs.map fun n => UInt8.ofNat n.toNat
theorem toB_get {xs : List Int} (hb : Bys xs) {i : Nat} (h : i < xs.length) : xs.getD i 0 = (((toB xs)[i]'(by simpa [toB] using h)).toNat : Int) := by
  have := hb _ (List.getElem_mem h)
  rw [List.getD_eq_getElem?_getD, List.getElem?_eq_getElem h]
  simp only [toB, List.getElem_map, Option.getD_some, UInt8.toNat_ofNat']
  omega
theorem toB_len (xs : List Int) : (toB xs).length = xs.length := by simp [toB]

theorem L11a_run (a7 : List Int) (a8 a9 : Int) : ∀ (d k : Nat) (s : Int), k + d = 8 → L11_7 s a7 a8 a9 (k : Nat) = some (r1 (stepsI d s)) := by
  intro d
  induction d with
  | zero =>
    intro k s hk
    rw [L11_7_eq]
    simp only [T11_7, cif]
    rw [if_neg (by omega)]
    rfl
  | succ d ih =>
    intro k s hk
    have hw : IntKind.wrap .i64 ((k : Int) + 1) = ((k + 1 : Nat) : Int) := by rw [w64 (by omega) (by omega)]; omega
    rw [L11_7_eq]
    simp only [T11_7, cif]
    rw [if_pos (by omega), hw]
    simp only [Option.bind_some, Sum.elim_inl]
    exact ih (k + 1) _ (by omega)
theorem L11_run (xs : List Int) (hb : Bys xs) (hl : xs.length < 2 ^ 62) : ∀ (d i : Nat) (s : Int), i + d = xs.length → L11_3 s xs (xs.length : Nat) (i : Nat) = some (r1 (sumI ((toB xs).drop i) s)) := by
  intro d
  induction d with
  | zero =>
    intro i s hi
    rw [L11_3_eq]
    simp only [T11_3, cif]
    rw [if_neg (by omega), List.drop_eq_nil_of_le (by rw [toB_len]; omega)]
    rfl
  | succ d ih =>
    intro i s hi
    have hlt : i < xs.length := by omega
    have hw : IntKind.wrap .i64 ((i : Int) + 1) = ((i + 1 : Nat) : Int) := by rw [w64 (by omega) (by omega)]; omega
    have h8 := fun s => L11a_run xs (xs.length : Nat) (i : Nat) 8 0 s (by omega)
    rw [show ((0 : Nat) : Int) = 0 from rfl] at h8
    rw [L11_3_eq]
    simp only [T11_3, cif]
    rw [if_pos (by omega), if_pos (by omega), h8, hw]
    simp only [Option.bind_some, Sum.elim_inl, Int.toNat_natCast, toB_get hb hlt]
    rw [ih (i + 1) _ (by omega), List.drop_eq_getElem_cons (l := toB xs) (i := i) (by rw [toB_len]; omega)]
    rfl
/-- The sum of bytes. -/
noncomputable def crc (xs : List Int) : Int := rsum (toB xs)
theorem F11_eq (xs : List Int) (hb : Bys xs) (hl : xs.length < 2 ^ 62) : F11 xs = some (r1 (crc xs)) := by
  unfold F11 crc
  have := L11_run xs hb hl xs.length 0 4294967295 (by omega)
  rw [show ((0 : Nat) : Int) = 0 from rfl] at this
  rw [this, ← sums_alike]
  rfl
theorem L12a_run (xs : List Int) (hb : Bys xs) (i : Nat) (hi : i < xs.length) : ∀ (d k : Nat) (s : Int), k + d = 8 → L12_6 xs s (i : Nat) (k : Nat) = some (r1 (rstepsI (xs.getD i 0) d k s)) := by
  intro d
  induction d with
  | zero =>
    intro k s hk
    rw [L12_6_eq]
    simp only [T12_6, cif]
    rw [if_neg (by omega)]
    rfl
  | succ d ih =>
    intro k s hk
    have hw : IntKind.wrap .i64 ((k : Int) + 1) = ((k + 1 : Nat) : Int) := by rw [w64 (by omega) (by omega)]; omega
    rw [L12_6_eq]
    simp only [T12_6, cif]
    rw [if_pos (by omega), if_pos (by omega), if_pos (by omega), hw]
    simp only [Int.toNat_natCast, Bool.cond_eq_ite, bne_iff_ne, ne_eq]
    have e : rstepsI (xs.getD i 0) (d + 1) k s = rstepsI (xs.getD i 0) d (k + 1) (rstepI (xs.getD i 0) k s) := rfl
    rw [e]
    by_cases c : bitI (xs.getD i 0) k = topI s
    · rw [if_neg (fun h => h c)]
      simp only [Option.bind_some, Sum.elim_inl]
      rw [ih (k + 1) _ (by omega)]
      unfold rstepI
      rw [if_pos c]
    · rw [if_pos (show ¬ iAnd IntKind.u32 (IntKind.u32.wrap (iShr IntKind.u8 (xs.getD i 0) (k : Int))) 1 = iShr IntKind.u32 s 31 from c)]
      simp only [Option.bind_some, Sum.elim_inl]
      rw [ih (k + 1) _ (by omega)]
      unfold rstepI
      rw [if_neg c]
theorem L12_run (xs : List Int) (hb : Bys xs) (hl : xs.length < 2 ^ 62) : ∀ (d i : Nat) (s : Int), i + d = xs.length → L12_3 xs s (i : Nat) = some (r1 (rsumI ((toB xs).drop i) s)) := by
  intro d
  induction d with
  | zero =>
    intro i s hi
    rw [L12_3_eq]
    simp only [T12_3, cif]
    rw [if_neg (by omega), List.drop_eq_nil_of_le (by rw [toB_len]; omega)]
    rfl
  | succ d ih =>
    intro i s hi
    have hlt : i < xs.length := by omega
    have hw : IntKind.wrap .i64 ((i : Int) + 1) = ((i + 1 : Nat) : Int) := by rw [w64 (by omega) (by omega)]; omega
    have h8 := L12a_run xs hb i hlt 8 0 s (by omega)
    rw [show ((0 : Nat) : Int) = 0 from rfl] at h8
    rw [L12_3_eq]
    simp only [T12_3, cif]
    rw [if_pos (by omega), h8, hw]
    simp only [Option.bind_some, Sum.elim_inl, toB_get hb hlt]
    rw [ih (i + 1) _ (by omega), List.drop_eq_getElem_cons (l := toB xs) (i := i) (by rw [toB_len]; omega)]
    rfl
theorem L12t_run (s : Int) : ∀ (d k : Nat) (t : Int), k + d = 32 → L12_16 s t (k : Nat) = some (r1 (turnI s d k t)) := by
  intro d
  induction d with
  | zero =>
    intro k t hk
    rw [L12_16_eq]
    simp only [T12_16, cif]
    rw [if_neg (by omega)]
    rfl
  | succ d ih =>
    intro k t hk
    have hw : IntKind.wrap .i64 ((k : Int) + 1) = ((k + 1 : Nat) : Int) := by rw [w64 (by omega) (by omega)]; omega
    rw [L12_16_eq]
    simp only [T12_16, cif]
    rw [if_pos (by omega), if_pos (by omega), hw]
    simp only [Option.bind_some, Sum.elim_inl]
    exact ih (k + 1) _ (by omega)
theorem F12_eq (xs : List Int) (hb : Bys xs) (hl : xs.length < 2 ^ 62) : F12 xs = some (r1 (crc xs)) := by
  unfold F12 crc
  have := L12_run xs hb hl xs.length 0 4294967295 (by omega)
  rw [show ((0 : Nat) : Int) = 0 from rfl] at this
  rw [this]
  have := L12t_run (iNot .u32 (rsumI (toB xs) 4294967295)) 32 0 0 (by omega)
  rw [show ((0 : Nat) : Int) = 0 from rfl] at this
  simp only [Option.bind_some, List.drop_zero]
  rw [this]
  rfl
theorem F10_eq : F10 = some (r1 true) := by
  unfold F10
  rw [F11_eq _ (by intro x hx; simp at hx; omega) (by decide)]
  simp only [cif]
  rw [if_pos (by decide)]
  simp only [Option.bind_some]
  exact congrArg (fun b : Bool => some (r1 b)) (by decide +kernel)

/-! ### Records -/
def four (n : Int) : List Int := [IntKind.wrap .u8 (iShr .u32 n 24), IntKind.wrap .u8 (iShr .u32 n 16), IntKind.wrap .u8 (iShr .u32 n 8), IntKind.wrap .u8 n]
theorem four_byte (n : Int) : Bys (four n) := fun x hx => by
  simp only [four, List.mem_cons, List.not_mem_nil, or_false] at hx
  rcases hx with rfl | rfl | rfl | rfl <;> rw [wu8_mod] <;> omega
theorem four_len (n : Int) : (four n).length = 4 := rfl
theorem F29_eq (n : Int) : F29 n = some (r1 (four n)) := rfl
/-- A record. -/
noncomputable def rcd (p : List Int) : List Int := dgT p ++ four (crc (dgT p))
theorem dgT_byte {t : List Int} (h : Bys t) (hl : t.length < 2 ^ 63) : Bys (dgT t) := (dg_byte (by omega) (by omega)).app h
theorem rcd_byte {p : List Int} (h : Bys p) (hl : p.length < 2 ^ 63) : Bys (rcd p) := (dgT_byte h hl).app (four_byte _)
theorem rcd_len (p : List Int) : (rcd p).length = (dg p.length).length + p.length + 4 := by unfold rcd dgT; simp [four_len]; omega
theorem F20_eq (p : List Int) (hb : Bys p) (hl : p.length < 4294967296) : F20 p = some (ro (rcd p)) := by
  have h1 := dgT_len p
  have hlim : lim = 1099511627776 := rfl
  unfold F20
  rw [F27_eq _ _ hl (by simp; omega)]
  simp only [Option.bind_some, List.nil_append]
  rw [F12_eq _ (dgT_byte hb (by omega)) (by omega)]
  simp only [Option.bind_some, cif]
  rw [if_pos (by simp; omega)]
  rfl
theorem F25_eq (p : List Int) (hb : Bys p) (hl : p.length < 4294967296) : F25 p = some (ro (rcd p)) := by
  have h1 := dgT_len p
  have hlim : lim = 1099511627776 := rfl
  unfold F25
  rw [F31_eq _ _ hl (by simp; omega)]
  simp only [Option.bind_some, List.nil_append]
  rw [F11_eq _ (dgT_byte hb (by omega)) (by omega)]
  simp only [Option.bind_some, F29_eq, cif]
  rw [if_pos (by rw [four_len]; omega)]
  rfl
/-- The record ahead. -/
noncomputable def opn (most : Int) (xs : List Int) : (List Int × List Int) ⊕ Int :=
  match tkT most xs with
  | .inr e => .inr e
  | .inl (t, r) => if r.length < 4 then .inr 5 else if four (crc (xs.take (xs.length - r.length))) = r.take 4 then .inl (t, r.drop 4) else .inr 4
theorem tkT_err {most e : Int} {xs : List Int} (h : tkT most xs = .inr e) : e = 4 ∨ e = 5 ∨ e = 6 := by
  unfold tkT at h
  split at h
  · rename_i hk; cases h; rcases tk_err hk with h | h <;> omega
  · split at h
    · cases h; omega
    · split at h
      · cases h; omega
      · cases h
theorem F28_eq' (xs : List Int) (most : Int) (hb : Bys xs) (hl : xs.length < lim) (hm : most < 9223372036854775808) : F28 xs most = some (match tkT most xs with | .inl q => r3 q.1 q.2 0 | .inr e => r3 [] xs e) := by
  unfold F28 tkT
  rw [F17_eq xs hb]
  have hlim : lim = 1099511627776 := rfl
  cases h : tk 0 0 xs with
  | inr e =>
    simp only [Option.bind_some]
    rcases tk_err h with rfl | rfl <;> rfl
  | inl q =>
    obtain ⟨n, r⟩ := q
    obtain ⟨h1, h2, h3⟩ := tk_some hb h
    have hr : r.length ≤ xs.length := by rw [h1]; simp
    simp only [Option.bind_some, bne_self_eq_false, cond_false, cif]
    by_cases c1 : most < 0
    · rw [if_pos c1, if_pos (Or.inl c1)]
    · rw [if_neg c1, wu64 (n := most) (by omega) (by omega), wu64 (n := (r.length : Int)) (by omega) (by omega)]
      by_cases c2 : n > most
      · rw [if_pos c2, if_pos (Or.inr c2)]
      · rw [if_neg c2, if_neg (show ¬ (most < 0 ∨ n > most) from by omega)]
        by_cases c3 : n > (r.length : Int)
        · rw [if_pos c3, if_pos c3]
        · rw [if_neg c3, if_neg c3, if_pos (by omega), if_pos (by rw [List.length_take]; omega), if_pos (by omega)]
theorem F21_eq (xs : List Int) (most : Int) (hb : Bys xs) (hl : xs.length < lim) (hm : most < 9223372036854775808) :
    F21 xs most = some (match opn most xs with | .inl q => r3 q.1 q.2 0 | .inr e => r3 [] xs e) := by
  have hlim : lim = 1099511627776 := rfl
  unfold F21 opn
  rw [F28_eq' xs most hb hl hm]
  cases h : tkT most xs with
  | inr e =>
    simp only [Option.bind_some]
    rcases tkT_err h with rfl | rfl | rfl <;> rfl
  | inl q =>
    obtain ⟨t, r⟩ := q
    obtain ⟨h1, h2⟩ := tkT_some hb h
    have hr : r.length ≤ xs.length := by rw [h1]; simp
    have br : Bys r := fun x hx => hb x (by rw [h1]; exact List.mem_append.2 (.inr hx))
    have hw : IntKind.wrap .i64 ((xs.length : Int) - (r.length : Int)) = ((xs.length - r.length : Nat) : Int) := by rw [w64 (by omega) (by omega)]; omega
    simp only [Option.bind_some, bne_self_eq_false, cond_false, cif, hw, Int.toNat_natCast]
    by_cases c4 : r.length < 4
    · rw [if_pos (by omega), if_pos c4]
    · rw [if_neg (by omega), if_neg c4, if_pos (by omega), F11_eq _ (hb.take _) (by rw [List.length_take]; omega)]
      simp only [Option.bind_some, F29_eq]
      have h4 : (4 : Int).toNat = 4 := rfl
      rw [if_pos (by omega), h4, strL_beq (four_byte _) (br.take 4)]
      by_cases ce : four (crc (xs.take (xs.length - r.length))) = r.take 4
      · rw [decide_eq_true ce, if_pos ce]
        simp only [Bool.not_true, cond_false]
        rw [if_pos (by omega)]
      · rw [decide_eq_false ce, if_neg ce]
        rfl

/-! ### The reference's reading -/
theorem add_shl {acc c : Int} {i : Nat} (hi : i ≤ 9) (h0 : 0 ≤ acc) (h1 : acc < 128 ^ i) (c0 : 0 ≤ c) (c1 : c < 128) (h9 : i = 9 → c ≤ 1) :
    IntKind.wrap .u64 (acc + iShl .u64 c ((7 * i : Nat) : Int)) = acc + c * 128 ^ i := by
  have hp : (128 : Int) ^ i ≤ 9223372036854775808 := by
    have : ∀ j : Fin 10, (128 : Int) ^ j.val ≤ 9223372036854775808 := by decide
    exact this ⟨i, by omega⟩
  have hc : c * 128 ^ i < 9223372036854775809 := by
    rcases Nat.lt_or_ge i 9 with q | q
    · have h8 : (128 : Int) ^ i ≤ 72057594037927936 := by
        have : ∀ j : Fin 9, (128 : Int) ^ j.val ≤ 72057594037927936 := by decide
        exact this ⟨i, by omega⟩
      calc c * 128 ^ i ≤ 127 * 72057594037927936 := Int.mul_le_mul (by omega) h8 (Int.le_of_lt (Int.pow_pos (by decide))) (by decide)
        _ < 9223372036854775809 := by decide
    · obtain rfl : i = 9 := by omega
      have := h9 rfl
      rw [show (128 : Int) ^ 9 = 9223372036854775808 from rfl]
      omega
  have hnn : 0 ≤ c * 128 ^ i := Int.mul_nonneg c0 (Int.le_of_lt (Int.pow_pos (by decide)))
  have hs : iShl .u64 c ((7 * i : Nat) : Int) = c * 128 ^ i := by
    unfold iShl
    rw [Int.toNat_natCast, Nat.min_eq_left (by show 7 * i ≤ 64; omega), show (2 : Int) ^ (7 * i) = 128 ^ i from by rw [Int.pow_mul]; rfl]
    exact wu64 hnn (by omega)
  rw [hs]
  exact wu64 (by omega) (by omega)
theorem L30_run (xs : List Int) (hb : Bys xs) : ∀ (r : List Int) (i : Nat) (acc : Int), r = xs.drop i → i ≤ 9 → i ≤ xs.length → 0 ≤ acc → acc < 128 ^ i →
    L30_3 xs acc (i : Nat) = some (match tk i acc r with | .inl q => .inl (r3 q.1 ((xs.length - q.2.length : Nat) : Int) 0) | .inr e => if e = 4 then .inl (r3 0 0 4) else .inr ((), (), ())) := by
  intro r
  induction r with
  | nil =>
    intro i acc hr hi hl h0 h1
    have : xs.length ≤ i := by
      have := congrArg List.length hr
      simp at this
      omega
    rw [L30_3_eq]
    simp only [T30_3, cif]
    rw [if_neg (by omega)]
    rfl
  | cons b r ih =>
    intro i acc hr hi hl h0 h1
    have hlt : i < xs.length := by
      have := congrArg List.length hr
      simp at this
      omega
    have hd := List.drop_eq_getElem_cons hlt
    rw [hd] at hr
    cases hr
    obtain ⟨b0, b1⟩ := hb _ (List.getElem_mem hlt)
    have hg : xs.getD (i : Int).toNat 0 = xs[i] := by rw [Int.toNat_natCast, List.getD_eq_getElem?_getD, List.getElem?_eq_getElem hlt]; rfl
    have hw : IntKind.wrap .i64 (7 * (i : Int)) = ((7 * i : Nat) : Int) := by rw [w64 (by omega) (by omega)]; omega
    have hw2 : IntKind.wrap .i64 ((i : Int) + 1) = ((i + 1 : Nat) : Int) := by rw [w64 (by omega) (by omega)]; omega
    have hin : 0 ≤ (i : Int) ∧ (i : Int) < (xs.length : Int) := by omega
    rw [L30_3_eq]
    simp only [T30_3, cif, beq_iff_eq, Bool.cond_eq_ite, decide_eq_true_eq, hg, hw, hw2, if_pos hin, Int.tmod_eq_emod_of_nonneg b0]
    rw [if_pos (show (i : Int) < (xs.length : Int) from by omega)]
    rw [wu64 (n := xs[i] % 128) (by omega) (by omega)]
    by_cases c : (i = 9 ∧ 1 < xs[i]) ∨ (0 < i ∧ xs[i] = 0)
    · unfold tk
      rw [if_pos c]
      by_cases c9 : i = 9
      · rw [if_pos (by omega)]
        by_cases c1 : xs[i] > 1
        · rw [if_pos c1]; rfl
        · rw [if_neg c1, if_pos (by omega), if_pos (by omega)]; rfl
      · rw [if_neg (by omega), if_pos (by omega), if_pos (by omega)]; rfl
    · unfold tk
      rw [if_neg c]
      have hor : IntKind.wrap .u64 (acc + iShl .u64 (xs[i] % 128) ((7 * i : Nat) : Int)) = acc + xs[i] % 128 * 128 ^ i := add_shl hi h0 h1 (by omega) (by omega) (by omega)
      have hp : (0 : Int) < 128 ^ i := Int.pow_pos (by decide)
      have hnn : 0 ≤ xs[i] % 128 * 128 ^ i := Int.mul_nonneg (by omega) (Int.le_of_lt hp)
      rw [hor]
      have main : (if (0 : Int) ≤ ((7 * i : Nat) : Int) then
          (if xs[i] < 128 then some (.inr (.inl (r3 (acc + xs[i] % 128 * 128 ^ i) ((i + 1 : Nat) : Int) 0)))
          else some (.inl ((xs, acc + xs[i] % 128 * 128 ^ i, ((i + 1 : Nat) : Int), ()), (), ()))) else none :
          Option ((((List Int) × (Int × (Int × Unit))) × Unit × Unit) ⊕ (((Int × (Int × (Int × Unit))) × Unit × Unit) ⊕ (Unit × Unit × Unit)))).bind
          (Sum.elim (fun x => L30_3 x.1.1 x.1.2.1 x.1.2.2.1) some) =
          some (match (if xs[i] < 128 then .inl (acc + xs[i] % 128 * 128 ^ i, xs.drop (i + 1)) else tk (i + 1) (acc + xs[i] % 128 * 128 ^ i) (xs.drop (i + 1)) : (Int × List Int) ⊕ Int) with
            | .inl q => .inl (r3 q.1 ((xs.length - q.2.length : Nat) : Int) 0) | .inr e => if e = 4 then .inl (r3 0 0 4) else .inr ((), (), ())) := by
        rw [if_pos (by omega)]
        by_cases c128 : xs[i] < 128
        · rw [if_pos c128, if_pos c128]
          simp only [Option.bind_some, Sum.elim_inr, List.length_drop]
          rw [show xs.length - (xs.length - (i + 1)) = i + 1 from by omega]
        · rw [if_neg c128, if_neg c128]
          simp only [Option.bind_some, Sum.elim_inl]
          exact ih (i + 1) _ rfl (by omega) (by omega) (by omega) (acc_lt h1 (by omega))
      by_cases c9 : i = 9
      · rw [if_pos (by omega), if_neg (by omega), if_pos (by omega), if_neg (by omega)]
        exact main
      · rw [if_neg (by omega)]
        by_cases c0 : 0 < i
        · rw [if_pos (by omega), if_neg (by omega)]
          exact main
        · rw [if_neg (by omega)]
          exact main
theorem F30_eq (xs : List Int) (hb : Bys xs) : F30 xs = some (match tk 0 0 xs with | .inl q => r3 q.1 ((xs.length - q.2.length : Nat) : Int) 0 | .inr e => r3 0 0 e) := by
  unfold F30
  have := L30_run xs hb xs 0 0 (by simp) (by omega) (by omega) (by omega) (by decide)
  rw [show ((0 : Nat) : Int) = 0 from rfl] at this
  rw [this]
  cases h : tk 0 0 xs with
  | inl q => rfl
  | inr e =>
    rcases tk_err h with rfl | rfl
    · rfl
    · rfl
end Go.IM.V

/- Records: the law CheckOpens. -/
set_option linter.unusedVariables false
set_option linter.unusedSimpArgs false
set_option linter.constructorNameAsVariable false
namespace Go.IM.V
open Go Go.IM Go.Proofs Go.IM.Crc

theorem opn_some {xs t r : List Int} {most : Int} (hb : Bys xs) (h : opn most xs = .inl (t, r)) : xs = rcd t ++ r ∧ (t.length : Int) ≤ most ∧ t.length ≤ xs.length := by
  unfold opn at h
  cases h1 : tkT most xs with
  | inr e => rw [h1] at h; cases h
  | inl q =>
    obtain ⟨t', r'⟩ := q
    rw [h1] at h
    dsimp only at h
    obtain ⟨g1, g2⟩ := tkT_some hb h1
    split at h
    · cases h
    · split at h
      · rename_i c4 ce
        cases h
        have hx : xs.take (xs.length - r'.length) = dgT t := by
          rw [g1, List.length_append, Nat.add_sub_cancel, List.take_left]
        rw [hx] at ce
        refine ⟨?_, g2, by rw [g1]; unfold dgT; simp; omega⟩
        unfold rcd
        rw [ce, List.append_assoc, List.take_append_drop, ← g1]
      · cases h
theorem F22_eq (xs : List Int) (most : Int) (hb : Bys xs) (hl : xs.length < 1000000) (hm : most < 9223372036854775808) :
    F22 xs most = some (match opn most xs with | .inl q => r3 q.1 ((xs.length - q.2.length : Nat) : Int) 0 | .inr e => r3 [] 0 e) := by
  unfold F22 opn tkT
  rw [F30_eq xs hb]
  cases h : tk 0 0 xs with
  | inr e =>
    simp only [Option.bind_some]
    rcases tk_err h with rfl | rfl <;> rfl
  | inl q =>
    obtain ⟨n, r⟩ := q
    obtain ⟨h1, h2, h3⟩ := tk_some hb h
    have hr : xs.length = (dg n).length + r.length := by rw [h1]; simp
    have hk : xs.length - r.length = (dg n).length := by omega
    simp only [Option.bind_some, bne_self_eq_false, cond_false, cif, hk]
    by_cases c1 : most < 0
    · rw [if_pos c1, if_pos (show most < 0 ∨ n > most from Or.inl c1)]
    · rw [if_neg c1, wu64 (n := most) (by omega) (by omega)]
      have hw1 : IntKind.wrap .i64 ((xs.length : Int) - ((dg n).length : Int)) = (r.length : Int) := by rw [w64 (by omega) (by omega)]; omega
      rw [hw1, wu64 (n := (r.length : Int)) (by omega) (by omega)]
      by_cases c2 : n > most
      · rw [if_pos c2, if_pos (show most < 0 ∨ n > most from Or.inr c2)]
      · rw [if_neg c2, if_neg (show ¬ (most < 0 ∨ n > most) from by omega)]
        by_cases c3 : n > (r.length : Int)
        · rw [if_pos c3, if_pos c3]
        · rw [if_neg c3, if_neg c3]
          obtain ⟨k, rfl⟩ := Int.eq_ofNat_of_zero_le h2
          simp only [Int.toNat_natCast]
          have hw2 : IntKind.wrap .i64 (k : Int) = (k : Int) := w64 (by omega) (by omega)
          have hw3 : IntKind.wrap .i64 (((dg (k : Int)).length : Int) + (k : Int)) = (((dg (k : Int)).length + k : Nat) : Int) := by rw [w64 (by omega) (by omega)]; omega
          have hw4 : IntKind.wrap .i64 ((xs.length : Int) - (((dg (k : Int)).length + k : Nat) : Int)) = ((r.length - k : Nat) : Int) := by rw [w64 (by omega) (by omega)]; omega
          have hw5 : IntKind.wrap .i64 ((((dg (k : Int)).length + k : Nat) : Int) + 4) = (((dg (k : Int)).length + k + 4 : Nat) : Int) := by rw [w64 (by omega) (by omega)]; omega
          simp only [hw2, hw3, hw4, hw5, Int.toNat_natCast]
          have htl : (r.take k).length = k := by rw [List.length_take]; omega
          have hdT : dgT (r.take k) = dg (k : Int) ++ r.take k := by unfold dgT; rw [htl]
          have hdl : (r.drop k).length = r.length - k := by simp
          by_cases c4 : r.length - k < 4
          · rw [if_pos (by omega), if_pos (show (r.drop k).length < 4 from by rw [hdl]; exact c4)]
          · rw [if_neg (by omega), if_neg (show ¬ (r.drop k).length < 4 from by rw [hdl]; exact c4), if_pos (by omega)]
            have hbody : (xs.take ((dg (k : Int)).length + k)).drop (dg (k : Int)).length = r.take k := by
              rw [h1, List.take_length_add_append, List.drop_left]
            have br : Bys r := fun x hx => hb x (by rw [h1]; exact List.mem_append.2 (.inr hx))
            rw [hbody, F20_eq _ (br.take k) (by omega)]
            simp only [Option.bind_some]
            rw [if_pos (by omega), strL_beq (rcd_byte (br.take k) (by omega)) (hb.take _)]
            have htake : xs.take ((dg (k : Int)).length + k + 4) = dgT (r.take k) ++ (r.drop k).take 4 := by
              rw [h1, hdT, Nat.add_assoc, List.take_length_add_append, List.append_assoc, List.take_add]
            have hpre : xs.take (xs.length - (r.drop k).length) = dgT (r.take k) := by
              rw [hdl, show xs.length - (r.length - k) = (dg (k : Int)).length + k from by omega, h1, hdT, List.take_length_add_append]
            have hiff : rcd (r.take k) = xs.take ((dg (k : Int)).length + k + 4) ↔ four (crc (xs.take (xs.length - (r.drop k).length))) = (r.drop k).take 4 := by
              rw [htake, hpre]; unfold rcd; exact List.append_cancel_left_eq _ _ _ |>.to_iff
            by_cases ce : four (crc (xs.take (xs.length - (r.drop k).length))) = (r.drop k).take 4
            · rw [decide_eq_true (hiff.2 ce), if_pos ce]
              simp only [Bool.not_true, cond_false]
              rw [if_pos (by omega)]
              have : xs.length - ((r.drop k).drop 4).length = (dg (k : Int)).length + k + 4 := by simp; omega
              rw [this]
            · rw [decide_eq_false (fun q => ce (hiff.1 q)), if_neg ce]
              rfl
theorem opens_body (xs : List Int) (most : Int) (hb : Bys xs) (hl : xs.length < 1000000) (hm : most < 9223372036854775808) :
    ((F21 xs most).bind fun y44 => ((F22 xs most).bind fun y45 => (bif ((y44.1.2.2.1 : Int) == y45.1.2.2.1) then (bif (((strL y44.1.1) : ByteArray).toList == ((strL y45.1.1) : ByteArray).toList) then (if (0 ≤ (y45.1.2.1 : Int) ∧ (y45.1.2.1 : Int) ≤ (((xs).length : Nat) : Int)) then
      (some (r1 (((strL y44.1.2.1) : ByteArray).toList == ((strL ((xs).drop (y45.1.2.1 : Int).toNat)) : ByteArray).toList))) else none) else (some (r1 false))) else (some (r1 false))))) = some (r1 true) := by
  rw [F21_eq xs most hb (by show _ < 1099511627776; omega) hm, F22_eq xs most hb hl hm]
  cases h : opn most xs with
  | inr e =>
    simp only [Option.bind_some, beq_self_eq_true, cond_true, cif]
    rw [if_pos (by omega)]
    simp
  | inl q =>
    obtain ⟨t, r⟩ := q
    obtain ⟨h1, h2, h3⟩ := opn_some hb h
    simp only [Option.bind_some, beq_self_eq_true, cond_true, cif]
    rw [if_pos (by omega), Int.toNat_natCast]
    have : xs.drop (xs.length - r.length) = r := by rw [h1, List.length_append, Nat.add_sub_cancel, List.drop_left]
    rw [this, beq_self_eq_true]
theorem checkOpens_pure (p : List Int) (most : Int) (w : Bool) (hb : Bys p) (hm : most ≤ 9223372036854775807) : F6 p most w = some (r1 true) := by
  unfold F6
  simp only [F10_eq, Option.bind_some, Bool.not_true, cond_false, cif]
  split
  · rfl
  cases w
  · exact opens_body p most hb (by omega) (by omega)
  · have hd := dg_len p.length
    have hr := rcd_len p
    simp only [cond_true]
    rw [F20_eq p hb (by omega)]
    exact opens_body (rcd p) most (rcd_byte hb (by omega)) (by omega) (by omega)
end Go.IM.V

/- Records: the law CheckWraps. -/
set_option linter.unusedVariables false
set_option linter.unusedSimpArgs false
set_option linter.constructorNameAsVariable false
namespace Go.IM.V
open Go Go.IM Go.Proofs Go.IM.Crc

theorem L19_run : ∀ (f : Nat) (n : Int) (k : Nat), 0 ≤ n → n < 128 ^ (f + 1) → k < 1000 - f → f < 100 → L19_2 n (k : Nat) = some (r1 ((k + (dgF f n).length - 1 : Nat) : Int)) := by
  intro f
  induction f with
  | zero =>
    intro n k h0 h1 hk hf
    rw [L19_2_eq]
    simp only [T19_2, cif]
    rw [if_neg (by have : (128 : Int) ^ (0 + 1) = 128 := rfl; omega)]
    simp [dgF]
  | succ f ih =>
    intro n k h0 h1 hk hf
    by_cases hn : n < 128
    · rw [L19_2_eq]
      simp only [T19_2, cif]
      rw [if_neg (by omega), dgF_lt hn]
      simp
    · have hw : IntKind.wrap .i64 ((k : Int) + 1) = ((k + 1 : Nat) : Int) := by rw [w64 (by omega) (by omega)]; omega
      rw [L19_2_eq]
      simp only [T19_2, cif]
      rw [if_pos (by omega), shr7 h0, hw]
      simp only [Option.bind_some, Sum.elim_inl]
      rw [ih (n / 128) (k + 1) (by omega) (by rw [Int.pow_succ] at h1; omega) (by omega) (by omega)]
      have : (dgF (f + 1) n).length = (dgF f (n / 128)).length + 1 := by
        rw [show dgF (f + 1) n = (128 + n % 128) :: dgF f (n / 128) from by rw [dgF, if_neg hn]]; rfl
      rw [this]
      rw [show k + 1 + (dgF f (n / 128)).length - 1 = k + ((dgF f (n / 128)).length + 1) - 1 from by omega]
theorem F19_eq (n : Int) (h0 : 0 ≤ n) (h1 : n < 18446744073709551616) : F19 n = some (r1 (((dg n).length : Nat) : Int)) := by
  unfold F19
  have := L19_run 9 n 1 h0 (by rw [show (128 : Int) ^ (9 + 1) = 1180591620717411303424 from by decide]; omega) (by omega) (by omega)
  rw [show ((1 : Nat) : Int) = 1 from rfl, show 1 + (dgF 9 n).length - 1 = (dg n).length from by unfold dg; omega] at this
  rw [this]
  rfl
theorem F26_eq (n : Nat) (h : n < 4294967296) : F26 (n : Int) = some (r1 (((dg (n : Int)).length + n + 4 : Nat) : Int)) := by
  have hd := dg_len (n : Int)
  unfold F26
  rw [if_neg (by omega), wu64 (by omega) (by omega), F19_eq _ (by omega) (by omega)]
  simp only [Option.bind_some]
  rw [w64 (n := (((dg (n : Int)).length : Nat) : Int) + (n : Int)) (by omega) (by omega), w64 (by omega) (by omega)]
  rfl
theorem opn_app {t rest : List Int} {most : Int} (h : (t.length : Int) ≤ most) (hl : t.length < 2 ^ 63) : opn most (rcd t ++ rest) = .inl (t, rest) := by
  unfold opn rcd
  rw [List.append_assoc, tkT_app h hl]
  dsimp only
  have e1 : (four (crc (dgT t)) ++ rest).length = 4 + rest.length := by rw [List.length_append, four_len]
  rw [if_neg (by omega)]
  have e2 : (dgT t ++ (four (crc (dgT t)) ++ rest)).take ((dgT t ++ (four (crc (dgT t)) ++ rest)).length - (four (crc (dgT t)) ++ rest).length) = dgT t := by
    rw [List.length_append, Nat.add_sub_cancel, List.take_left]
  rw [e2, List.take_left' (four_len _), List.drop_left' (four_len _), if_pos rfl]
theorem opn_long {t rest : List Int} {most : Int} (h : most < (t.length : Int)) (hl : t.length < 2 ^ 63) : opn most (rcd t ++ rest) = .inr 6 := by
  have : tkT most (rcd t ++ rest) = .inr 6 := by
    unfold tkT rcd dgT
    rw [List.append_assoc, List.append_assoc, tk_dg (by omega) (by omega)]
    dsimp only
    rw [if_pos (by omega)]
  unfold opn
  rw [this]
theorem checkWraps_pure (p q : List Int) (hb : Bys p) (hq : Bys q) : F9 p q = some (r1 true) := by
  unfold F9
  simp only [F10_eq, Option.bind_some, Bool.not_true, cond_false, cif]
  split
  · rfl
  split
  · rfl
  have hlim : lim = 1099511627776 := rfl
  have hd := dg_len p.length
  have hr := rcd_len p
  have br := rcd_byte hb (by omega)
  have e1 := opn_app (t := p) (rest := q) (most := (p.length : Int)) (by omega) (by omega)
  have e2 := opn_long (t := p) (rest := []) (most := (p.length : Int) - 1) (by omega) (by omega)
  rw [List.append_nil] at e2
  rw [F25_eq p hb (by omega)]
  simp only [Option.bind_some]
  simp only [cand, cif]
  rw [if_pos (by simp), if_pos (by simp; omega), Int.toNat_natCast, List.take_length, F21_eq _ _ (br.app hq) (by rw [List.length_append]; omega) (by omega), e1]
  simp only [Option.bind_some]
  rw [w64 (by omega) (by omega), F21_eq _ _ br (by omega) (by omega), e2]
  simp only [Option.bind_some]
  rw [F20_eq p hb (by omega)]
  simp only [Option.bind_some, beq_self_eq_true, cond_true]
  rw [F26_eq p.length (by omega), show F26 (-5) = F26 0 from rfl, show F26 0 = _ from F26_eq 0 (by omega)]
  have : ((((dg (p.length : Int)).length + p.length + 4 : Nat) : Int) == (((rcd p).length : Nat) : Int)) = true := by
    rw [beq_iff_eq, hr]
  simp only [Option.bind_some, this, cond_true, beq_self_eq_true]
end Go.IM.V

/- Digits: the law DigitsLay. -/
set_option linter.unusedVariables false
set_option linter.unusedSimpArgs false
set_option linter.constructorNameAsVariable false
namespace Go.IM.V
open Go Go.IM Go.Proofs Go.IM.Crc

theorem F13_eq : F13 = some (r1 true) := by
  unfold F13
  rw [F17_eq _ (by intro x hx; simp at hx; omega), F16_eq _ _ (by omega) (by omega) (by decide)]
  have e1 : tk 0 0 [128, 0] = .inr 4 := by decide +kernel
  have e2 : ([] : List Int) ++ dg 300 = [172, 2] := by decide +kernel
  rw [e1, e2]
  simp only [Option.bind_some]
  rw [show strL [172, 2] = (⟨#[172, 2]⟩ : ByteArray) from rfl]
  simp
theorem digitsLay_pure (p : List Int) (n : Int) (q : List Int) (hb : Bys p) (hn : 0 ≤ n ∧ n < 18446744073709551616) (hq : Bys q) : F5 p n q = some (r1 true) := by
  unfold F5
  rw [F13_eq]
  simp only [Option.bind_some, Bool.not_true, cond_false]
  rw [cif]
  split
  · rfl
  rename_i hp
  rw [cif]
  split
  · rfl
  rename_i hp2
  have hlim : lim = 1099511627776 := rfl
  have hd := dg_len n
  have bd := dg_byte hn.1 hn.2
  simp only [cif, cand]
  rw [if_pos (by omega), F16_eq _ _ hn.1 hn.2 (by omega)]
  simp only [Option.bind_some, Int.toNat_natCast, List.take_length, List.drop_left]
  rw [if_pos (by refine ⟨⟨by omega, ?_, by omega⟩, trivial⟩; rw [List.length_append]; omega), if_pos (by omega), F17_eq _ (bd.app hq), tk_dg hn.1 hn.2]
  simp only [Option.bind_some]
  rw [F18_eq _ _ hn.1 hn.2 (by omega), F19_eq _ hn.1 hn.2]
  simp only [Option.bind_some, beq_self_eq_true, cond_true]
  rw [show (((p ++ dg n).length : Nat) : Int) - ((p.length : Nat) : Int) = (((dg n).length : Nat) : Int) from by rw [List.length_append]; omega, w64 (by omega) (by omega)]
  simp only [beq_self_eq_true, cond_true]
  have : decide ((((dg n).length : Nat) : Int) ≤ 10) = true := by simp; omega
  rw [this]
end Go.IM.V
