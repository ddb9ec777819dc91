/- What the code of a law comes to, and what that tells: part 1. Lemmas alone; no conditions. -/
import Derived.Test.YtjoedmfdfbgfeaaProg
import Derived.KernelRfl
import Derived.Test.YtjoedmfdfbgfeaaImM3
/- Vectors: what the code comes to. -/
set_option linter.unusedVariables false
set_option linter.constructorNameAsVariable false
namespace Go.IM.V
open Go Go.IM Go.Proofs

noncomputable def b14 : Code := (.seq (.region 0 (regOf Try.f14 0) false) (.seq (.seq (.region 1 (regOf Try.f14 1) false) (.cond (.tmp 12) (.seq (.region 2 (regOf Try.f14 2) false) .ret) .skip)) (.seq (.region 3 (regOf Try.f14 3) false) .ret)))
theorem body14 : Try.f14.body = some b14 := by kernel_rfl
noncomputable def C14 : Tab := []
theorem C14_ok : TabOK Try.prog C14 := trivial
noncomputable def LO14 : Tab := []
noncomputable def i14 : Tm := { sl := [(0, .v (.l (.i .u64))), (1, .v (.i .i64))], bx := [], bf := [] }
noncomputable def o14 : OT := (.ret { sl := [(0, .v (.i .u64))], bx := [], bf := [] })
/-- anabranch/anabranchref06.Get -/
noncomputable def F14 (a0 : (List Int)) (a1 : Int) : Option ((Int × Unit) × Unit × Unit) :=
  (bif (decide ((a1 : Int) < 0)) then (some ((0, ()), (), ())) else (bif (decide ((a1 : Int) ≥ (((a0).length : Nat) : Int))) then (some ((0, ()), (), ())) else (bif (decide (0 ≤ (a1 : Int) ∧ (a1 : Int) < (((a0).length : Nat) : Int))) then (some ((((a0).getD (a1 : Int).toNat (0 : Int)), ()), (), ())) else none)))
noncomputable def c14 : Con := ⟨i14, o14, fun x => F14 x.1.1 x.1.2.1⟩
theorem e14 (x : i14.E) : vfn Try.prog C14 LO14 Try.f14 b14 i14 o14 x = F14 x.1.1 x.1.2.1 := by kernel_rfl
theorem c14_ok : Con.OK Try.prog 14 c14 := (fn_ok C14_ok Try.func14 body14 (loops_of (l := []) (by kernel_rfl) (show LoopsOK Try.prog Try.f14.ntmps [] LO14 from trivial)) i14 o14).congr fun x => (e14 x).symm
noncomputable def b18 : Code := (.seq (.region 0 (regOf Try.f18 0) false) (.seq (.seq (.region 1 (regOf Try.f18 1) false) (.cond (.tmp 12) (.seq (.region 2 (regOf Try.f18 2) false) .ret) .skip)) (.seq (.region 3 (regOf Try.f18 3) false) .ret)))
theorem body18 : Try.f18.body = some b18 := by kernel_rfl
noncomputable def C18 : Tab := []
theorem C18_ok : TabOK Try.prog C18 := trivial
noncomputable def LO18 : Tab := []
noncomputable def i18 : Tm := { sl := [(0, .v (.l (.i .u64))), (1, .v (.i .i64))], bx := [], bf := [] }
noncomputable def o18 : OT := (.ret { sl := [(0, .v (.i .u64))], bx := [], bf := [] })
/-- (anabranch/vector.Vector).Get -/
noncomputable def F18 (a0 : (List Int)) (a1 : Int) : Option ((Int × Unit) × Unit × Unit) :=
  (bif (decide ((a1 : Int) < 0)) then (some ((0, ()), (), ())) else (bif (decide ((a1 : Int) ≥ (((a0).length : Nat) : Int))) then (some ((0, ()), (), ())) else (bif (decide (0 ≤ (a1 : Int) ∧ (a1 : Int) < (((a0).length : Nat) : Int))) then (some ((((a0).getD (a1 : Int).toNat (0 : Int)), ()), (), ())) else none)))
noncomputable def c18 : Con := ⟨i18, o18, fun x => F18 x.1.1 x.1.2.1⟩
theorem e18 (x : i18.E) : vfn Try.prog C18 LO18 Try.f18 b18 i18 o18 x = F18 x.1.1 x.1.2.1 := by kernel_rfl
theorem c18_ok : Con.OK Try.prog 18 c18 := (fn_ok C18_ok Try.func18 body18 (loops_of (l := []) (by kernel_rfl) (show LoopsOK Try.prog Try.f18.ntmps [] LO18 from trivial)) i18 o18).congr fun x => (e18 x).symm
noncomputable def l19_2 : Code := (.seq (.region 2 (regOf Try.f19 2) false) (.seq (.cond (.tmp 10) .skip (.exit 0)) (.seq (.block 1 (.seq (.region 3 (regOf Try.f19 3) false) (.seq (.region 4 (regOf Try.f19 4) false) (.cond (.tmp 18) (.seq (.region 5 (regOf Try.f19 5) false) .ret) .skip)))) (.region 6 (regOf Try.f19 6) false))))
noncomputable def b19 : Code := (.seq (.region 0 (regOf Try.f19 0) false) (.seq (.seq (.region 1 (regOf Try.f19 1) false) (.block 0 (.loop l19_2))) (.seq (.region 7 (regOf Try.f19 7) false) .ret)))
theorem body19 : Try.f19.body = some b19 := by kernel_rfl
noncomputable def C19_2 : Tab := [(18, c18)]
theorem C19_2_ok : TabOK Try.prog C19_2 := ⟨c18_ok, trivial⟩
noncomputable def LO19_2 : Tab := []
noncomputable def i19_2 : Tm := { sl := [(1, .v (.l (.i .u64))), (7, .v (.l (.i .u64))), (8, .v (.i .i64)), (9, .v (.i .i64))], bx := [], bf := [] }
noncomputable def o19_2 : OT := (.two (.ret { sl := [(4, .v .b)], bx := [], bf := [] }) (.exit 0 { sl := [], bx := [], bf := [] }))
noncomputable def T19_2 (a1 : (List Int)) (a7 : (List Int)) (a8 : Int) (a9 : Int) : Option ((((List Int) × ((List Int) × (Int × (Int × Unit)))) × Unit × Unit) ⊕ (((Bool × Unit) × Unit × Unit) ⊕ (Unit × Unit × Unit))) :=
  (bif (decide ((a9 : Int) < a8)) then (bif (decide (0 ≤ (a9 : Int) ∧ (a9 : Int) < (((a7).length : Nat) : Int))) then ((F18 a1 a9).bind fun y2 => (bif (decide ((((a7).getD (a9 : Int).toNat (0 : Int)) : Int) > y2.1.1)) then (some (.inr (.inl ((false, ()), (), ())))) else (some (.inl ((a1, a7, a8, (IntKind.wrap .i64 (a9 + 1)), ()), (), ()))))) else none) else (some (.inr (.inr ((), (), ())))))
noncomputable def L19_2 (a1 : (List Int)) (a7 : (List Int)) (a8 : Int) (a9 : Int) : Option (((Bool × Unit) × Unit × Unit) ⊕ (Unit × Unit × Unit)) := loopF (fun x : (((List Int) × ((List Int) × (Int × (Int × Unit)))) × Unit × Unit) => T19_2 x.1.1 x.1.2.1 x.1.2.2.1 x.1.2.2.2.1) ((a1, a7, a8, a9, ()), (), ())
theorem L19_2_eq (a1 : (List Int)) (a7 : (List Int)) (a8 : Int) (a9 : Int) : L19_2 a1 a7 a8 a9 = (T19_2 a1 a7 a8 a9).bind (Sum.elim (fun x => L19_2 x.1.1 x.1.2.1 x.1.2.2.1 x.1.2.2.2.1) some) := loopF_eq _ _
noncomputable def k19_2 : Con := ⟨i19_2, o19_2, fun x => L19_2 x.1.1 x.1.2.1 x.1.2.2.1 x.1.2.2.2.1⟩
theorem e19_2 (x : i19_2.E) : vround Try.prog C19_2 LO19_2 Try.f19.ntmps l19_2 i19_2 o19_2 x = T19_2 x.1.1 x.1.2.1 x.1.2.2.1 x.1.2.2.2.1 := by kernel_rfl
theorem k19_2_ok : Con.LOK Try.prog Try.f19.ntmps l19_2 k19_2 := (loop_ok C19_2_ok (loops_of (l := []) (by kernel_rfl) (show LoopsOK Try.prog Try.f19.ntmps [] LO19_2 from trivial)) i19_2 o19_2).congr fun x => (congrArg (fun T => loopF T x) (funext e19_2)).symm
noncomputable def C19 : Tab := [(18, c18)]
theorem C19_ok : TabOK Try.prog C19 := ⟨c18_ok, trivial⟩
noncomputable def LO19 : Tab := [(2, k19_2)]
noncomputable def i19 : Tm := { sl := [(0, .v (.l (.i .u64))), (1, .v (.l (.i .u64)))], bx := [], bf := [] }
noncomputable def o19 : OT := (.ret { sl := [(0, .v .b)], bx := [], bf := [] })
/-- (anabranch/vector.Vector).Within -/
noncomputable def F19 (a0 : (List Int)) (a1 : (List Int)) : Option ((Bool × Unit) × Unit × Unit) :=
  ((L19_2 a1 a0 (((a0).length : Nat) : Int) 0).bind fun y3 => (Sum.elim (fun y4 => (some ((y4.1.1, ()), (), ()))) (fun y4 => (some ((true, ()), (), ()))) y3))
noncomputable def c19 : Con := ⟨i19, o19, fun x => F19 x.1.1 x.1.2.1⟩
theorem e19 (x : i19.E) : vfn Try.prog C19 LO19 Try.f19 b19 i19 o19 x = F19 x.1.1 x.1.2.1 := by kernel_rfl
theorem c19_ok : Con.OK Try.prog 19 c19 := (fn_ok C19_ok Try.func19 body19 (loops_of (l := [l19_2]) (by kernel_rfl) (show LoopsOK Try.prog Try.f19.ntmps [l19_2] LO19 from ⟨k19_2_ok, trivial⟩)) i19 o19).congr fun x => (e19 x).symm
noncomputable def l20_2 : Code := (.seq (.seq (.region 2 (regOf Try.f20 2) false) (.cond (.tmp 9) .skip (.exit 0))) (.seq (.block 1 (.seq (.region 4 (regOf Try.f20 4) true) (.cond (.tmp 19) (.seq (.region 5 (regOf Try.f20 5) false) .ret) .skip))) (.region 3 (regOf Try.f20 3) false)))
noncomputable def b20 : Code := (.seq (.region 0 (regOf Try.f20 0) false) (.seq (.seq (.region 1 (regOf Try.f20 1) false) (.block 0 (.loop l20_2))) (.seq (.region 6 (regOf Try.f20 6) false) .ret)))
theorem body20 : Try.f20.body = some b20 := by kernel_rfl
noncomputable def C20_2 : Tab := [(14, c14)]
theorem C20_2_ok : TabOK Try.prog C20_2 := ⟨c14_ok, trivial⟩
noncomputable def LO20_2 : Tab := []
noncomputable def i20_2 : Tm := { sl := [(0, .v (.l (.i .u64))), (1, .v (.l (.i .u64))), (5, .v (.i .i64))], bx := [], bf := [] }
noncomputable def o20_2 : OT := (.two (.ret { sl := [(4, .v .b)], bx := [], bf := [] }) (.exit 0 { sl := [], bx := [], bf := [] }))
noncomputable def T20_2 (a0 : (List Int)) (a1 : (List Int)) (a5 : Int) : Option ((((List Int) × ((List Int) × (Int × Unit))) × Unit × Unit) ⊕ (((Bool × Unit) × Unit × Unit) ⊕ (Unit × Unit × Unit))) :=
  (bif (decide ((a5 : Int) < (((a0).length : Nat) : Int))) then (bif (decide (0 ≤ (a5 : Int) ∧ (a5 : Int) < (((a0).length : Nat) : Int))) then ((F14 a1 a5).bind fun y6 => (bif (decide ((((a0).getD (a5 : Int).toNat (0 : Int)) : Int) > y6.1.1)) then (some (.inr (.inl ((false, ()), (), ())))) else (some (.inl ((a0, a1, (IntKind.wrap .i64 (a5 + 1)), ()), (), ()))))) else none) else (some (.inr (.inr ((), (), ())))))
noncomputable def L20_2 (a0 : (List Int)) (a1 : (List Int)) (a5 : Int) : Option (((Bool × Unit) × Unit × Unit) ⊕ (Unit × Unit × Unit)) := loopF (fun x : (((List Int) × ((List Int) × (Int × Unit))) × Unit × Unit) => T20_2 x.1.1 x.1.2.1 x.1.2.2.1) ((a0, a1, a5, ()), (), ())
theorem L20_2_eq (a0 : (List Int)) (a1 : (List Int)) (a5 : Int) : L20_2 a0 a1 a5 = (T20_2 a0 a1 a5).bind (Sum.elim (fun x => L20_2 x.1.1 x.1.2.1 x.1.2.2.1) some) := loopF_eq _ _
noncomputable def k20_2 : Con := ⟨i20_2, o20_2, fun x => L20_2 x.1.1 x.1.2.1 x.1.2.2.1⟩
theorem e20_2 (x : i20_2.E) : vround Try.prog C20_2 LO20_2 Try.f20.ntmps l20_2 i20_2 o20_2 x = T20_2 x.1.1 x.1.2.1 x.1.2.2.1 := by kernel_rfl
theorem k20_2_ok : Con.LOK Try.prog Try.f20.ntmps l20_2 k20_2 := (loop_ok C20_2_ok (loops_of (l := []) (by kernel_rfl) (show LoopsOK Try.prog Try.f20.ntmps [] LO20_2 from trivial)) i20_2 o20_2).congr fun x => (congrArg (fun T => loopF T x) (funext e20_2)).symm
noncomputable def C20 : Tab := [(14, c14)]
theorem C20_ok : TabOK Try.prog C20 := ⟨c14_ok, trivial⟩
noncomputable def LO20 : Tab := [(2, k20_2)]
noncomputable def i20 : Tm := { sl := [(0, .v (.l (.i .u64))), (1, .v (.l (.i .u64)))], bx := [], bf := [] }
noncomputable def o20 : OT := (.ret { sl := [(0, .v .b)], bx := [], bf := [] })
/-- anabranch/anabranchref06.Within -/
noncomputable def F20 (a0 : (List Int)) (a1 : (List Int)) : Option ((Bool × Unit) × Unit × Unit) :=
  ((L20_2 a0 a1 0).bind fun y7 => (Sum.elim (fun y8 => (some ((y8.1.1, ()), (), ()))) (fun y8 => (some ((true, ()), (), ()))) y7))
noncomputable def c20 : Con := ⟨i20, o20, fun x => F20 x.1.1 x.1.2.1⟩
theorem e20 (x : i20.E) : vfn Try.prog C20 LO20 Try.f20 b20 i20 o20 x = F20 x.1.1 x.1.2.1 := by kernel_rfl
theorem c20_ok : Con.OK Try.prog 20 c20 := (fn_ok C20_ok Try.func20 body20 (loops_of (l := [l20_2]) (by kernel_rfl) (show LoopsOK Try.prog Try.f20.ntmps [l20_2] LO20 from ⟨k20_2_ok, trivial⟩)) i20 o20).congr fun x => (e20 x).symm
noncomputable def b21 : Code := (.seq (.region 0 (regOf Try.f21 0) false) (.seq (.region 1 (regOf Try.f21 1) false) .ret))
theorem body21 : Try.f21.body = some b21 := by kernel_rfl
noncomputable def C21 : Tab := [(19, c19)]
theorem C21_ok : TabOK Try.prog C21 := ⟨c19_ok, trivial⟩
noncomputable def LO21 : Tab := []
noncomputable def i21 : Tm := { sl := [(0, .v (.l (.i .u64))), (1, .v (.l (.i .u64)))], bx := [], bf := [] }
noncomputable def o21 : OT := (.ret { sl := [(0, .v .b)], bx := [], bf := [] })
/-- anabranch/vector.Same -/
noncomputable def F21 (a0 : (List Int)) (a1 : (List Int)) : Option ((Bool × Unit) × Unit × Unit) :=
  ((F19 a0 a1).bind fun y9 => (bif y9.1.1 then ((F19 a1 a0).bind fun y10 => (some ((y10.1.1, ()), (), ()))) else (some ((false, ()), (), ()))))
noncomputable def c21 : Con := ⟨i21, o21, fun x => F21 x.1.1 x.1.2.1⟩
theorem e21 (x : i21.E) : vfn Try.prog C21 LO21 Try.f21 b21 i21 o21 x = F21 x.1.1 x.1.2.1 := by kernel_rfl
theorem c21_ok : Con.OK Try.prog 21 c21 := (fn_ok C21_ok Try.func21 body21 (loops_of (l := []) (by kernel_rfl) (show LoopsOK Try.prog Try.f21.ntmps [] LO21 from trivial)) i21 o21).congr fun x => (e21 x).symm
noncomputable def b22 : Code := (.seq (.region 0 (regOf Try.f22 0) false) (.seq (.region 1 (regOf Try.f22 1) false) .ret))
theorem body22 : Try.f22.body = some b22 := by kernel_rfl
noncomputable def C22 : Tab := [(19, c19)]
theorem C22_ok : TabOK Try.prog C22 := ⟨c19_ok, trivial⟩
noncomputable def LO22 : Tab := []
noncomputable def i22 : Tm := { sl := [(0, .v (.l (.i .u64))), (1, .v (.l (.i .u64)))], bx := [], bf := [] }
noncomputable def o22 : OT := (.ret { sl := [(0, .v .b)], bx := [], bf := [] })
/-- anabranch/vector.Apart -/
noncomputable def F22 (a0 : (List Int)) (a1 : (List Int)) : Option ((Bool × Unit) × Unit × Unit) :=
  ((F19 a0 a1).bind fun y11 => (bif (!y11.1.1) then ((F19 a1 a0).bind fun y12 => (some (((!y12.1.1), ()), (), ()))) else (some ((false, ()), (), ()))))
noncomputable def c22 : Con := ⟨i22, o22, fun x => F22 x.1.1 x.1.2.1⟩
theorem e22 (x : i22.E) : vfn Try.prog C22 LO22 Try.f22 b22 i22 o22 x = F22 x.1.1 x.1.2.1 := by kernel_rfl
theorem c22_ok : Con.OK Try.prog 22 c22 := (fn_ok C22_ok Try.func22 body22 (loops_of (l := []) (by kernel_rfl) (show LoopsOK Try.prog Try.f22.ntmps [] LO22 from trivial)) i22 o22).congr fun x => (e22 x).symm
noncomputable def l15_3 : Code := (.seq (.region 3 (regOf Try.f15 3) false) (.seq (.cond (.tmp 12) .skip (.exit 0)) (.seq (.block 1 (.seq (.region 4 (regOf Try.f15 4) false) (.seq (.region 5 (regOf Try.f15 5) false) (.seq (.seq (.region 6 (regOf Try.f15 6) false) (.cond (.tmp 27) (.seq (.region 7 (regOf Try.f15 7) false) .ret) .skip)) (.region 8 (regOf Try.f15 8) false))))) (.region 9 (regOf Try.f15 9) false))))
noncomputable def b15 : Code := (.seq (.region 0 (regOf Try.f15 0) false) (.seq (.region 1 (regOf Try.f15 1) false) (.seq (.seq (.region 2 (regOf Try.f15 2) false) (.block 0 (.loop l15_3))) (.seq (.region 10 (regOf Try.f15 10) false) .ret))))
theorem body15 : Try.f15.body = some b15 := by kernel_rfl
noncomputable def C15_3 : Tab := [(18, c18)]
theorem C15_3_ok : TabOK Try.prog C15_3 := ⟨c18_ok, trivial⟩
noncomputable def LO15_3 : Tab := []
noncomputable def i15_3 : Tm := { sl := [(1, .v (.l (.i .u64))), (5, .v (.i .u64)), (9, .v (.l (.i .u64))), (10, .v (.i .i64)), (11, .v (.i .i64))], bx := [], bf := [] }
noncomputable def o15_3 : OT := (.two (.ret { sl := [(4, .v (.i .u64))], bx := [], bf := [] }) (.exit 0 { sl := [(5, .v (.i .u64))], bx := [], bf := [] }))
noncomputable def T15_3 (a1 : (List Int)) (a5 : Int) (a9 : (List Int)) (a10 : Int) (a11 : Int) : Option ((((List Int) × (Int × ((List Int) × (Int × (Int × Unit))))) × Unit × Unit) ⊕ (((Int × Unit) × Unit × Unit) ⊕ ((Int × Unit) × Unit × Unit))) :=
  (bif (decide ((a11 : Int) < a10)) then (bif (decide (0 ≤ (a11 : Int) ∧ (a11 : Int) < (((a9).length : Nat) : Int))) then ((F18 a1 a11).bind fun y14 => (bif (decide (((IntKind.wrap .u64 (a5 + (IntKind.wrap .u64 (((a9).getD (a11 : Int).toNat (0 : Int)) - (if (y14.1.1 : Int) < ((a9).getD (a11 : Int).toNat (0 : Int)) then y14.1.1 else ((a9).getD (a11 : Int).toNat (0 : Int))))))) : Int) < a5)) then (some (.inr (.inl ((18446744073709551615, ()), (), ())))) else (some (.inl ((a1, (IntKind.wrap .u64 (a5 + (IntKind.wrap .u64 (((a9).getD (a11 : Int).toNat (0 : Int)) - (if (y14.1.1 : Int) < ((a9).getD (a11 : Int).toNat (0 : Int)) then y14.1.1 else ((a9).getD (a11 : Int).toNat (0 : Int))))))), a9, a10, (IntKind.wrap .i64 (a11 + 1)), ()), (), ()))))) else none) else (some (.inr (.inr ((a5, ()), (), ())))))
noncomputable def L15_3 (a1 : (List Int)) (a5 : Int) (a9 : (List Int)) (a10 : Int) (a11 : Int) : Option (((Int × Unit) × Unit × Unit) ⊕ ((Int × Unit) × Unit × Unit)) := loopF (fun x : (((List Int) × (Int × ((List Int) × (Int × (Int × Unit))))) × Unit × Unit) => T15_3 x.1.1 x.1.2.1 x.1.2.2.1 x.1.2.2.2.1 x.1.2.2.2.2.1) ((a1, a5, a9, a10, a11, ()), (), ())
theorem L15_3_eq (a1 : (List Int)) (a5 : Int) (a9 : (List Int)) (a10 : Int) (a11 : Int) : L15_3 a1 a5 a9 a10 a11 = (T15_3 a1 a5 a9 a10 a11).bind (Sum.elim (fun x => L15_3 x.1.1 x.1.2.1 x.1.2.2.1 x.1.2.2.2.1 x.1.2.2.2.2.1) some) := loopF_eq _ _
noncomputable def k15_3 : Con := ⟨i15_3, o15_3, fun x => L15_3 x.1.1 x.1.2.1 x.1.2.2.1 x.1.2.2.2.1 x.1.2.2.2.2.1⟩
theorem e15_3 (x : i15_3.E) : vround Try.prog C15_3 LO15_3 Try.f15.ntmps l15_3 i15_3 o15_3 x = T15_3 x.1.1 x.1.2.1 x.1.2.2.1 x.1.2.2.2.1 x.1.2.2.2.2.1 := by kernel_rfl
theorem k15_3_ok : Con.LOK Try.prog Try.f15.ntmps l15_3 k15_3 := (loop_ok C15_3_ok (loops_of (l := []) (by kernel_rfl) (show LoopsOK Try.prog Try.f15.ntmps [] LO15_3 from trivial)) i15_3 o15_3).congr fun x => (congrArg (fun T => loopF T x) (funext e15_3)).symm
noncomputable def C15 : Tab := [(18, c18)]
theorem C15_ok : TabOK Try.prog C15 := ⟨c18_ok, trivial⟩
noncomputable def LO15 : Tab := [(3, k15_3)]
noncomputable def i15 : Tm := { sl := [(0, .v (.l (.i .u64))), (1, .v (.l (.i .u64)))], bx := [], bf := [] }
noncomputable def o15 : OT := (.ret { sl := [(0, .v (.i .u64))], bx := [], bf := [] })
/-- (anabranch/vector.Vector).Lack -/
noncomputable def F15 (a0 : (List Int)) (a1 : (List Int)) : Option ((Int × Unit) × Unit × Unit) :=
  ((L15_3 a1 0 a0 (((a0).length : Nat) : Int) 0).bind fun y15 => (Sum.elim (fun y16 => (some ((y16.1.1, ()), (), ()))) (fun y16 => (some ((y16.1.1, ()), (), ()))) y15))
noncomputable def c15 : Con := ⟨i15, o15, fun x => F15 x.1.1 x.1.2.1⟩
theorem e15 (x : i15.E) : vfn Try.prog C15 LO15 Try.f15 b15 i15 o15 x = F15 x.1.1 x.1.2.1 := by kernel_rfl
theorem c15_ok : Con.OK Try.prog 15 c15 := (fn_ok C15_ok Try.func15 body15 (loops_of (l := [l15_3]) (by kernel_rfl) (show LoopsOK Try.prog Try.f15.ntmps [l15_3] LO15 from ⟨k15_3_ok, trivial⟩)) i15 o15).congr fun x => (e15 x).symm
noncomputable def b70 : Code := (.seq (.region 0 (regOf Try.f70 0) false) (.seq (.seq (.region 1 (regOf Try.f70 1) false) (.cond (.tmp 4) (.seq (.region 2 (regOf Try.f70 2) false) .ret) .skip)) (.seq (.region 3 (regOf Try.f70 3) false) .ret)))
theorem body70 : Try.f70.body = some b70 := by kernel_rfl
noncomputable def C70 : Tab := []
theorem C70_ok : TabOK Try.prog C70 := trivial
noncomputable def LO70 : Tab := []
noncomputable def i70 : Tm := { sl := [(0, .v (.l (.i .u64)))], bx := [], bf := [] }
noncomputable def o70 : OT := (.ret { sl := [(0, .v (.l (.i .u64)))], bx := [], bf := [] })
/-- slices.Clone[anabranch/vector.Vector,uint64] -/
noncomputable def F70 (a0 : (List Int)) : Option (((List Int) × Unit) × Unit × Unit) :=
  (nilBr (a0).length (some (([], ()), (), ())) (bif (decide ((([] : List Int)).length + (a0).length < lim)) then (some (((([] : List Int) ++ a0), ()), (), ())) else none))
noncomputable def c70 : Con := ⟨i70, o70, fun x => F70 x.1.1⟩
theorem e70 (x : i70.E) : vfn Try.prog C70 LO70 Try.f70 b70 i70 o70 x = F70 x.1.1 := by kernel_rfl
theorem c70_ok : Con.OK Try.prog 70 c70 := (fn_ok C70_ok Try.func70 body70 (loops_of (l := []) (by kernel_rfl) (show LoopsOK Try.prog Try.f70.ntmps [] LO70 from trivial)) i70 o70).congr fun x => (e70 x).symm
noncomputable def l55_2 : Code := (.seq (.seq (.region 2 (regOf Try.f55 2) false) (.cond (.tmp 15) .skip (.exit 0))) (.block 1 (.region 3 (regOf Try.f55 3) false)))
noncomputable def b55 : Code := (.seq (.region 0 (regOf Try.f55 0) false) (.seq (.region 1 (regOf Try.f55 1) false) (.seq (.block 0 (.loop l55_2)) (.seq (.region 4 (regOf Try.f55 4) false) .ret))))
theorem body55 : Try.f55.body = some b55 := by kernel_rfl
noncomputable def C55_2 : Tab := []
theorem C55_2_ok : TabOK Try.prog C55_2 := trivial
noncomputable def LO55_2 : Tab := []
noncomputable def i55_2 : Tm := { sl := [(0, .v (.l (.i .u64))), (3, .v (.i .i64))], bx := [], bf := [] }
noncomputable def o55_2 : OT := (.exit 0 { sl := [(3, .v (.i .i64))], bx := [], bf := [] })
noncomputable def T55_2 (a0 : (List Int)) (a3 : Int) : Option ((((List Int) × (Int × Unit)) × Unit × Unit) ⊕ ((Int × Unit) × Unit × Unit)) :=
  (bif (decide ((a3 : Int) > 0)) then (bif (decide (0 ≤ ((IntKind.wrap .i64 (a3 - 1)) : Int) ∧ ((IntKind.wrap .i64 (a3 - 1)) : Int) < (((a0).length : Nat) : Int))) then (bif ((((a0).getD ((IntKind.wrap .i64 (a3 - 1)) : Int).toNat (0 : Int)) : Int) == 0) then (some (.inl ((a0, (IntKind.wrap .i64 (a3 - 1)), ()), (), ()))) else (some (.inr ((a3, ()), (), ())))) else none) else (some (.inr ((a3, ()), (), ()))))
noncomputable def L55_2 (a0 : (List Int)) (a3 : Int) : Option ((Int × Unit) × Unit × Unit) := loopF (fun x : (((List Int) × (Int × Unit)) × Unit × Unit) => T55_2 x.1.1 x.1.2.1) ((a0, a3, ()), (), ())
theorem L55_2_eq (a0 : (List Int)) (a3 : Int) : L55_2 a0 a3 = (T55_2 a0 a3).bind (Sum.elim (fun x => L55_2 x.1.1 x.1.2.1) some) := loopF_eq _ _
noncomputable def k55_2 : Con := ⟨i55_2, o55_2, fun x => L55_2 x.1.1 x.1.2.1⟩
theorem e55_2 (x : i55_2.E) : vround Try.prog C55_2 LO55_2 Try.f55.ntmps l55_2 i55_2 o55_2 x = T55_2 x.1.1 x.1.2.1 := by kernel_rfl
theorem k55_2_ok : Con.LOK Try.prog Try.f55.ntmps l55_2 k55_2 := (loop_ok C55_2_ok (loops_of (l := []) (by kernel_rfl) (show LoopsOK Try.prog Try.f55.ntmps [] LO55_2 from trivial)) i55_2 o55_2).congr fun x => (congrArg (fun T => loopF T x) (funext e55_2)).symm
noncomputable def C55 : Tab := [(70, c70)]
theorem C55_ok : TabOK Try.prog C55 := ⟨c70_ok, trivial⟩
noncomputable def LO55 : Tab := [(2, k55_2)]
noncomputable def i55 : Tm := { sl := [(0, .v (.l (.i .u64)))], bx := [], bf := [] }
noncomputable def o55 : OT := (.ret { sl := [(0, .v (.l (.i .u64)))], bx := [], bf := [] })
/-- (anabranch/vector.Vector).Trim -/
noncomputable def F55 (a0 : (List Int)) : Option (((List Int) × Unit) × Unit × Unit) :=
  ((L55_2 a0 (((a0).length : Nat) : Int)).bind fun y17 => (bif (decide (0 ≤ (y17.1.1 : Int) ∧ (y17.1.1 : Int) ≤ (((a0).length : Nat) : Int))) then ((F70 ((a0).take (y17.1.1 : Int).toNat)).bind fun y18 => (some ((y18.1.1, ()), (), ()))) else none))
noncomputable def c55 : Con := ⟨i55, o55, fun x => F55 x.1.1⟩
theorem e55 (x : i55.E) : vfn Try.prog C55 LO55 Try.f55 b55 i55 o55 x = F55 x.1.1 := by kernel_rfl
theorem c55_ok : Con.OK Try.prog 55 c55 := (fn_ok C55_ok Try.func55 body55 (loops_of (l := [l55_2]) (by kernel_rfl) (show LoopsOK Try.prog Try.f55.ntmps [l55_2] LO55 from ⟨k55_2_ok, trivial⟩)) i55 o55).congr fun x => (e55 x).symm
noncomputable def b44 : Code := (.seq (.region 0 (regOf Try.f44 0) false) (.seq (.region 1 (regOf Try.f44 1) false) .ret))
theorem body44 : Try.f44.body = some b44 := by kernel_rfl
noncomputable def C44 : Tab := []
theorem C44_ok : TabOK Try.prog C44 := trivial
noncomputable def LO44 : Tab := []
noncomputable def i44 : Tm := { sl := [(0, .v (.i .u64)), (1, .v (.i .u64))], bx := [], bf := [] }
noncomputable def o44 : OT := (.ret { sl := [(0, .v (.i .u64))], bx := [], bf := [] })
/-- anabranch/vector.Join.1 -/
noncomputable def F44 (a0 : Int) (a1 : Int) : Option ((Int × Unit) × Unit × Unit) :=
  (some (((if (a1 : Int) > a0 then a1 else a0), ()), (), ()))
noncomputable def c44 : Con := ⟨i44, o44, fun x => F44 x.1.1 x.1.2.1⟩
theorem e44 (x : i44.E) : vfn Try.prog C44 LO44 Try.f44 b44 i44 o44 x = F44 x.1.1 x.1.2.1 := by kernel_rfl
theorem c44_ok : Con.OK Try.prog 44 c44 := (fn_ok C44_ok Try.func44 body44 (loops_of (l := []) (by kernel_rfl) (show LoopsOK Try.prog Try.f44.ntmps [] LO44 from trivial)) i44 o44).congr fun x => (e44 x).symm
noncomputable def b45 : Code := (.seq (.region 0 (regOf Try.f45 0) false) (.seq (.region 1 (regOf Try.f45 1) false) .ret))
theorem body45 : Try.f45.body = some b45 := by kernel_rfl
noncomputable def C45 : Tab := []
theorem C45_ok : TabOK Try.prog C45 := trivial
noncomputable def LO45 : Tab := []
noncomputable def i45 : Tm := { sl := [(0, .v (.i .u64)), (1, .v (.i .u64))], bx := [], bf := [] }
noncomputable def o45 : OT := (.ret { sl := [(0, .v (.i .u64))], bx := [], bf := [] })
/-- anabranch/vector.Meet.1 -/
noncomputable def F45 (a0 : Int) (a1 : Int) : Option ((Int × Unit) × Unit × Unit) :=
  (some (((if (a1 : Int) < a0 then a1 else a0), ()), (), ()))
noncomputable def c45 : Con := ⟨i45, o45, fun x => F45 x.1.1 x.1.2.1⟩
theorem e45 (x : i45.E) : vfn Try.prog C45 LO45 Try.f45 b45 i45 o45 x = F45 x.1.1 x.1.2.1 := by kernel_rfl
theorem c45_ok : Con.OK Try.prog 45 c45 := (fn_ok C45_ok Try.func45 body45 (loops_of (l := []) (by kernel_rfl) (show LoopsOK Try.prog Try.f45.ntmps [] LO45 from trivial)) i45 o45).congr fun x => (e45 x).symm
noncomputable def l43j_3 : Code := (.seq (.region 3 (regOf Try.f43 3) false) (.seq (.cond (.tmp 15) .skip (.exit 0)) (.seq (.block 1 (.seq (.region 4 (regOf Try.f43 4) false) (.region 5 (regOf Try.f43 5) false))) (.region 6 (regOf Try.f43 6) false))))
noncomputable def b43j : Code := (.seq (.region 0 (regOf Try.f43 0) false) (.seq (.region 1 (regOf Try.f43 1) false) (.seq (.seq (.region 2 (regOf Try.f43 2) false) (.block 0 (.loop l43j_3))) (.seq (.region 7 (regOf Try.f43 7) false) .ret))))
theorem body43j : Try.f43.body = some b43j := by kernel_rfl
noncomputable def C43j_3 : Tab := [(18, c18), (44, c44)]
theorem C43j_3_ok : TabOK Try.prog C43j_3 := ⟨c18_ok, c44_ok, trivial⟩
noncomputable def LO43j_3 : Tab := []
noncomputable def i43j_3 : Tm := { sl := [(0, .v (.l (.i .u64))), (1, .v (.l (.i .u64))), (2, .fn 44), (7, .o 0), (13, .v (.i .i64)), (14, .v (.i .i64))], bx := [], bf := [(.i .u64)] }
noncomputable def o43j_3 : OT := (.exit 0 { sl := [(7, .o 0)], bx := [], bf := [(.i .u64)] })
noncomputable def T43j_3 (a0 : (List Int)) (a1 : (List Int)) (a13 : Int) (a14 : Int) (q0 : (List Int)) : Option ((((List Int) × ((List Int) × (Unit × (Unit × (Int × (Int × Unit)))))) × Unit × ((List Int) × Unit)) ⊕ ((Unit × Unit) × Unit × ((List Int) × Unit))) :=
  (bif (decide ((a14 : Int) < a13)) then ((F18 a0 a14).bind fun y22 => ((F18 a1 a14).bind fun y23 => ((F44 y22.1.1 y23.1.1).bind fun y24 => (bif (decide ((q0).length + ([y24.1.1]).length < lim)) then (some (.inl ((a0, a1, (), (), a13, (IntKind.wrap .i64 (a14 + 1)), ()), (), ((q0 ++ [y24.1.1]), ())))) else none)))) else (some (.inr (((), ()), (), (q0, ())))))
noncomputable def L43j_3 (a0 : (List Int)) (a1 : (List Int)) (a13 : Int) (a14 : Int) (q0 : (List Int)) : Option ((Unit × Unit) × Unit × ((List Int) × Unit)) := loopF (fun x : (((List Int) × ((List Int) × (Unit × (Unit × (Int × (Int × Unit)))))) × Unit × ((List Int) × Unit)) => T43j_3 x.1.1 x.1.2.1 x.1.2.2.2.2.1 x.1.2.2.2.2.2.1 x.2.2.1) ((a0, a1, (), (), a13, a14, ()), (), (q0, ()))
theorem L43j_3_eq (a0 : (List Int)) (a1 : (List Int)) (a13 : Int) (a14 : Int) (q0 : (List Int)) : L43j_3 a0 a1 a13 a14 q0 = (T43j_3 a0 a1 a13 a14 q0).bind (Sum.elim (fun x => L43j_3 x.1.1 x.1.2.1 x.1.2.2.2.2.1 x.1.2.2.2.2.2.1 x.2.2.1) some) := loopF_eq _ _
noncomputable def k43j_3 : Con := ⟨i43j_3, o43j_3, fun x => L43j_3 x.1.1 x.1.2.1 x.1.2.2.2.2.1 x.1.2.2.2.2.2.1 x.2.2.1⟩
theorem e43j_3 (x : i43j_3.E) : vround Try.prog C43j_3 LO43j_3 Try.f43.ntmps l43j_3 i43j_3 o43j_3 x = T43j_3 x.1.1 x.1.2.1 x.1.2.2.2.2.1 x.1.2.2.2.2.2.1 x.2.2.1 := by kernel_rfl
theorem k43j_3_ok : Con.LOK Try.prog Try.f43.ntmps l43j_3 k43j_3 := (loop_ok C43j_3_ok (loops_of (l := []) (by kernel_rfl) (show LoopsOK Try.prog Try.f43.ntmps [] LO43j_3 from trivial)) i43j_3 o43j_3).congr fun x => (congrArg (fun T => loopF T x) (funext e43j_3)).symm
noncomputable def C43j : Tab := [(18, c18), (44, c44), (55, c55)]
theorem C43j_ok : TabOK Try.prog C43j := ⟨c18_ok, c44_ok, c55_ok, trivial⟩
noncomputable def LO43j : Tab := [(3, k43j_3)]
noncomputable def i43j : Tm := { sl := [(0, .v (.l (.i .u64))), (1, .v (.l (.i .u64))), (2, .fn 44)], bx := [], bf := [] }
noncomputable def o43j : OT := (.ret { sl := [(0, .v (.l (.i .u64)))], bx := [], bf := [] })
/-- anabranch/vector.pair -/
noncomputable def F43j (a0 : (List Int)) (a1 : (List Int)) : Option (((List Int) × Unit) × Unit × Unit) :=
  ((L43j_3 a0 a1 (if ((((a1).length : Nat) : Int) : Int) > (((a0).length : Nat) : Int) then (((a1).length : Nat) : Int) else (((a0).length : Nat) : Int)) 0 ([] : List Int)).bind fun y25 => ((F55 y25.2.2.1).bind fun y26 => (some ((y26.1.1, ()), (), ()))))
noncomputable def c43j : Con := ⟨i43j, o43j, fun x => F43j x.1.1 x.1.2.1⟩
theorem e43j (x : i43j.E) : vfn Try.prog C43j LO43j Try.f43 b43j i43j o43j x = F43j x.1.1 x.1.2.1 := by kernel_rfl
theorem c43j_ok : Con.OK Try.prog 43 c43j := (fn_ok C43j_ok Try.func43 body43j (loops_of (l := [l43j_3]) (by kernel_rfl) (show LoopsOK Try.prog Try.f43.ntmps [l43j_3] LO43j from ⟨k43j_3_ok, trivial⟩)) i43j o43j).congr fun x => (e43j x).symm
noncomputable def b16 : Code := (.seq (.region 0 (regOf Try.f16 0) false) (.seq (.region 1 (regOf Try.f16 1) false) .ret))
theorem body16 : Try.f16.body = some b16 := by kernel_rfl
noncomputable def C16 : Tab := [(43, c43j)]
theorem C16_ok : TabOK Try.prog C16 := ⟨c43j_ok, trivial⟩
noncomputable def LO16 : Tab := []
noncomputable def i16 : Tm := { sl := [(0, .v (.l (.i .u64))), (1, .v (.l (.i .u64)))], bx := [], bf := [] }
noncomputable def o16 : OT := (.ret { sl := [(0, .v (.l (.i .u64)))], bx := [], bf := [] })
/-- anabranch/vector.Join -/
noncomputable def F16 (a0 : (List Int)) (a1 : (List Int)) : Option (((List Int) × Unit) × Unit × Unit) :=
  ((F43j a0 a1).bind fun y27 => (some ((y27.1.1, ()), (), ())))
noncomputable def c16 : Con := ⟨i16, o16, fun x => F16 x.1.1 x.1.2.1⟩
theorem e16 (x : i16.E) : vfn Try.prog C16 LO16 Try.f16 b16 i16 o16 x = F16 x.1.1 x.1.2.1 := by kernel_rfl
theorem c16_ok : Con.OK Try.prog 16 c16 := (fn_ok C16_ok Try.func16 body16 (loops_of (l := []) (by kernel_rfl) (show LoopsOK Try.prog Try.f16.ntmps [] LO16 from trivial)) i16 o16).congr fun x => (e16 x).symm
noncomputable def l43m_3 : Code := (.seq (.region 3 (regOf Try.f43 3) false) (.seq (.cond (.tmp 15) .skip (.exit 0)) (.seq (.block 1 (.seq (.region 4 (regOf Try.f43 4) false) (.region 5 (regOf Try.f43 5) false))) (.region 6 (regOf Try.f43 6) false))))
noncomputable def b43m : Code := (.seq (.region 0 (regOf Try.f43 0) false) (.seq (.region 1 (regOf Try.f43 1) false) (.seq (.seq (.region 2 (regOf Try.f43 2) false) (.block 0 (.loop l43m_3))) (.seq (.region 7 (regOf Try.f43 7) false) .ret))))
theorem body43m : Try.f43.body = some b43m := by kernel_rfl
noncomputable def C43m_3 : Tab := [(18, c18), (45, c45)]
theorem C43m_3_ok : TabOK Try.prog C43m_3 := ⟨c18_ok, c45_ok, trivial⟩
noncomputable def LO43m_3 : Tab := []
noncomputable def i43m_3 : Tm := { sl := [(0, .v (.l (.i .u64))), (1, .v (.l (.i .u64))), (2, .fn 45), (7, .o 0), (13, .v (.i .i64)), (14, .v (.i .i64))], bx := [], bf := [(.i .u64)] }
noncomputable def o43m_3 : OT := (.exit 0 { sl := [(7, .o 0)], bx := [], bf := [(.i .u64)] })
noncomputable def T43m_3 (a0 : (List Int)) (a1 : (List Int)) (a13 : Int) (a14 : Int) (q0 : (List Int)) : Option ((((List Int) × ((List Int) × (Unit × (Unit × (Int × (Int × Unit)))))) × Unit × ((List Int) × Unit)) ⊕ ((Unit × Unit) × Unit × ((List Int) × Unit))) :=
  (bif (decide ((a14 : Int) < a13)) then ((F18 a0 a14).bind fun y31 => ((F18 a1 a14).bind fun y32 => ((F45 y31.1.1 y32.1.1).bind fun y33 => (bif (decide ((q0).length + ([y33.1.1]).length < lim)) then (some (.inl ((a0, a1, (), (), a13, (IntKind.wrap .i64 (a14 + 1)), ()), (), ((q0 ++ [y33.1.1]), ())))) else none)))) else (some (.inr (((), ()), (), (q0, ())))))
noncomputable def L43m_3 (a0 : (List Int)) (a1 : (List Int)) (a13 : Int) (a14 : Int) (q0 : (List Int)) : Option ((Unit × Unit) × Unit × ((List Int) × Unit)) := loopF (fun x : (((List Int) × ((List Int) × (Unit × (Unit × (Int × (Int × Unit)))))) × Unit × ((List Int) × Unit)) => T43m_3 x.1.1 x.1.2.1 x.1.2.2.2.2.1 x.1.2.2.2.2.2.1 x.2.2.1) ((a0, a1, (), (), a13, a14, ()), (), (q0, ()))
theorem L43m_3_eq (a0 : (List Int)) (a1 : (List Int)) (a13 : Int) (a14 : Int) (q0 : (List Int)) : L43m_3 a0 a1 a13 a14 q0 = (T43m_3 a0 a1 a13 a14 q0).bind (Sum.elim (fun x => L43m_3 x.1.1 x.1.2.1 x.1.2.2.2.2.1 x.1.2.2.2.2.2.1 x.2.2.1) some) := loopF_eq _ _
noncomputable def k43m_3 : Con := ⟨i43m_3, o43m_3, fun x => L43m_3 x.1.1 x.1.2.1 x.1.2.2.2.2.1 x.1.2.2.2.2.2.1 x.2.2.1⟩
theorem e43m_3 (x : i43m_3.E) : vround Try.prog C43m_3 LO43m_3 Try.f43.ntmps l43m_3 i43m_3 o43m_3 x = T43m_3 x.1.1 x.1.2.1 x.1.2.2.2.2.1 x.1.2.2.2.2.2.1 x.2.2.1 := by kernel_rfl
theorem k43m_3_ok : Con.LOK Try.prog Try.f43.ntmps l43m_3 k43m_3 := (loop_ok C43m_3_ok (loops_of (l := []) (by kernel_rfl) (show LoopsOK Try.prog Try.f43.ntmps [] LO43m_3 from trivial)) i43m_3 o43m_3).congr fun x => (congrArg (fun T => loopF T x) (funext e43m_3)).symm
noncomputable def C43m : Tab := [(18, c18), (45, c45), (55, c55)]
theorem C43m_ok : TabOK Try.prog C43m := ⟨c18_ok, c45_ok, c55_ok, trivial⟩
noncomputable def LO43m : Tab := [(3, k43m_3)]
noncomputable def i43m : Tm := { sl := [(0, .v (.l (.i .u64))), (1, .v (.l (.i .u64))), (2, .fn 45)], bx := [], bf := [] }
noncomputable def o43m : OT := (.ret { sl := [(0, .v (.l (.i .u64)))], bx := [], bf := [] })
/-- anabranch/vector.pair -/
noncomputable def F43m (a0 : (List Int)) (a1 : (List Int)) : Option (((List Int) × Unit) × Unit × Unit) :=
  ((L43m_3 a0 a1 (if ((((a1).length : Nat) : Int) : Int) > (((a0).length : Nat) : Int) then (((a1).length : Nat) : Int) else (((a0).length : Nat) : Int)) 0 ([] : List Int)).bind fun y34 => ((F55 y34.2.2.1).bind fun y35 => (some ((y35.1.1, ()), (), ()))))
noncomputable def c43m : Con := ⟨i43m, o43m, fun x => F43m x.1.1 x.1.2.1⟩
theorem e43m (x : i43m.E) : vfn Try.prog C43m LO43m Try.f43 b43m i43m o43m x = F43m x.1.1 x.1.2.1 := by kernel_rfl
theorem c43m_ok : Con.OK Try.prog 43 c43m := (fn_ok C43m_ok Try.func43 body43m (loops_of (l := [l43m_3]) (by kernel_rfl) (show LoopsOK Try.prog Try.f43.ntmps [l43m_3] LO43m from ⟨k43m_3_ok, trivial⟩)) i43m o43m).congr fun x => (e43m x).symm
noncomputable def b17 : Code := (.seq (.region 0 (regOf Try.f17 0) false) (.seq (.region 1 (regOf Try.f17 1) false) .ret))
theorem body17 : Try.f17.body = some b17 := by kernel_rfl
noncomputable def C17 : Tab := [(43, c43m)]
theorem C17_ok : TabOK Try.prog C17 := ⟨c43m_ok, trivial⟩
noncomputable def LO17 : Tab := []
noncomputable def i17 : Tm := { sl := [(0, .v (.l (.i .u64))), (1, .v (.l (.i .u64)))], bx := [], bf := [] }
noncomputable def o17 : OT := (.ret { sl := [(0, .v (.l (.i .u64)))], bx := [], bf := [] })
/-- anabranch/vector.Meet -/
noncomputable def F17 (a0 : (List Int)) (a1 : (List Int)) : Option (((List Int) × Unit) × Unit × Unit) :=
  ((F43m a0 a1).bind fun y36 => (some ((y36.1.1, ()), (), ())))
noncomputable def c17 : Con := ⟨i17, o17, fun x => F17 x.1.1 x.1.2.1⟩
theorem e17 (x : i17.E) : vfn Try.prog C17 LO17 Try.f17 b17 i17 o17 x = F17 x.1.1 x.1.2.1 := by kernel_rfl
theorem c17_ok : Con.OK Try.prog 17 c17 := (fn_ok C17_ok Try.func17 body17 (loops_of (l := []) (by kernel_rfl) (show LoopsOK Try.prog Try.f17.ntmps [] LO17 from trivial)) i17 o17).congr fun x => (e17 x).symm
noncomputable def b13 : Code := (.seq (.region 0 (regOf Try.f13 0) false) (.seq (.region 1 (regOf Try.f13 1) false) .ret))
theorem body13 : Try.f13.body = some b13 := by kernel_rfl
noncomputable def C13 : Tab := [(15, c15), (16, c16), (21, c21)]
theorem C13_ok : TabOK Try.prog C13 := ⟨c15_ok, c16_ok, c21_ok, trivial⟩
noncomputable def LO13 : Tab := []
noncomputable def i13 : Tm := { sl := [], bx := [], bf := [] }
noncomputable def o13 : OT := (.ret { sl := [(0, .v .b)], bx := [], bf := [] })
/-- anabranch/anabranchlaw07.awake -/
noncomputable def F13 : Option ((Bool × Unit) × Unit × Unit) :=
  ((F16 [1, 2] [3]).bind fun y37 => ((F21 y37.1.1 [3, 2]).bind fun y38 => (bif y38.1.1 then ((F15 [3, 2] [1]).bind fun y39 => (some ((((y39.1.1 : Int) == 4), ()), (), ()))) else (some ((false, ()), (), ())))))
noncomputable def c13 : Con := ⟨i13, o13, fun x => F13⟩
theorem e13 (x : i13.E) : vfn Try.prog C13 LO13 Try.f13 b13 i13 o13 x = F13 := by kernel_rfl
theorem c13_ok : Con.OK Try.prog 13 c13 := (fn_ok C13_ok Try.func13 body13 (loops_of (l := []) (by kernel_rfl) (show LoopsOK Try.prog Try.f13.ntmps [] LO13 from trivial)) i13 o13).congr fun x => (e13 x).symm
noncomputable def l3_6 : Code := (.seq (.seq (.region 6 (regOf Try.f3 6) false) (.cond (.tmp 25) .skip (.exit 0))) (.seq (.block 1 (.seq (.region 8 (regOf Try.f3 8) false) (.seq (.region 9 (regOf Try.f3 9) false) (.cond (.tmp 36) (.seq (.region 10 (regOf Try.f3 10) false) (.region 11 (regOf Try.f3 11) false)) .skip)))) (.region 7 (regOf Try.f3 7) false)))
noncomputable def b3 : Code := (.seq (.region 0 (regOf Try.f3 0) false) (.seq (.seq (.region 1 (regOf Try.f3 1) false) (.cond (.tmp 20) (.seq (.region 2 (regOf Try.f3 2) false) .ret) .skip)) (.seq (.region 3 (regOf Try.f3 3) false) (.seq (.region 4 (regOf Try.f3 4) false) (.seq (.seq (.region 5 (regOf Try.f3 5) false) (.block 0 (.loop l3_6))) (.seq (.seq (.region 12 (regOf Try.f3 12) false) (.cond (.tmp 56) (.region 13 (regOf Try.f3 13) false) .skip)) (.seq (.region 14 (regOf Try.f3 14) false) .ret)))))))
theorem body3 : Try.f3.body = some b3 := by kernel_rfl
noncomputable def C3_6 : Tab := [(14, c14)]
theorem C3_6_ok : TabOK Try.prog C3_6 := ⟨c14_ok, trivial⟩
noncomputable def LO3_6 : Tab := []
noncomputable def i3_6 : Tm := { sl := [(0, .v (.l (.i .u64))), (1, .v (.l (.i .u64))), (5, .v (.i .u64)), (6, .v .b), (7, .v (.i .i64))], bx := [], bf := [] }
noncomputable def o3_6 : OT := (.exit 0 { sl := [(5, .v (.i .u64)), (6, .v .b)], bx := [], bf := [] })
noncomputable def T3_6 (a0 : (List Int)) (a1 : (List Int)) (a5 : Int) (a6 : Bool) (a7 : Int) : Option ((((List Int) × ((List Int) × (Int × (Bool × (Int × Unit))))) × Unit × Unit) ⊕ ((Int × (Bool × Unit)) × Unit × Unit)) :=
  (bif (decide ((a7 : Int) < (((a0).length : Nat) : Int))) then ((F14 a1 a7).bind fun y45 => (bif (decide (0 ≤ (a7 : Int) ∧ (a7 : Int) < (((a0).length : Nat) : Int))) then (bif (decide ((((a0).getD (a7 : Int).toNat (0 : Int)) : Int) > y45.1.1)) then (bif (decide (0 ≤ (a7 : Int) ∧ (a7 : Int) < (((a0).length : Nat) : Int))) then (bif a6 then (some (.inl ((a0, a1, (IntKind.wrap .u64 (a5 + (IntKind.wrap .u64 (((a0).getD (a7 : Int).toNat (0 : Int)) - y45.1.1)))), true, (IntKind.wrap .i64 (a7 + 1)), ()), (), ()))) else (bif (decide (0 ≤ (a7 : Int) ∧ (a7 : Int) < (((a0).length : Nat) : Int))) then (some (.inl ((a0, a1, (IntKind.wrap .u64 (a5 + (IntKind.wrap .u64 (((a0).getD (a7 : Int).toNat (0 : Int)) - y45.1.1)))), (decide (((IntKind.wrap .u64 (a5 + (IntKind.wrap .u64 (((a0).getD (a7 : Int).toNat (0 : Int)) - y45.1.1)))) : Int) < (IntKind.wrap .u64 (((a0).getD (a7 : Int).toNat (0 : Int)) - y45.1.1)))), (IntKind.wrap .i64 (a7 + 1)), ()), (), ()))) else none)) else none) else (some (.inl ((a0, a1, a5, a6, (IntKind.wrap .i64 (a7 + 1)), ()), (), ())))) else none)) else (some (.inr ((a5, a6, ()), (), ()))))
noncomputable def L3_6 (a0 : (List Int)) (a1 : (List Int)) (a5 : Int) (a6 : Bool) (a7 : Int) : Option ((Int × (Bool × Unit)) × Unit × Unit) := loopF (fun x : (((List Int) × ((List Int) × (Int × (Bool × (Int × Unit))))) × Unit × Unit) => T3_6 x.1.1 x.1.2.1 x.1.2.2.1 x.1.2.2.2.1 x.1.2.2.2.2.1) ((a0, a1, a5, a6, a7, ()), (), ())
theorem L3_6_eq (a0 : (List Int)) (a1 : (List Int)) (a5 : Int) (a6 : Bool) (a7 : Int) : L3_6 a0 a1 a5 a6 a7 = (T3_6 a0 a1 a5 a6 a7).bind (Sum.elim (fun x => L3_6 x.1.1 x.1.2.1 x.1.2.2.1 x.1.2.2.2.1 x.1.2.2.2.2.1) some) := loopF_eq _ _
noncomputable def k3_6 : Con := ⟨i3_6, o3_6, fun x => L3_6 x.1.1 x.1.2.1 x.1.2.2.1 x.1.2.2.2.1 x.1.2.2.2.2.1⟩
theorem e3_6 (x : i3_6.E) : vround Try.prog C3_6 LO3_6 Try.f3.ntmps l3_6 i3_6 o3_6 x = T3_6 x.1.1 x.1.2.1 x.1.2.2.1 x.1.2.2.2.1 x.1.2.2.2.2.1 := by kernel_rfl
theorem k3_6_ok : Con.LOK Try.prog Try.f3.ntmps l3_6 k3_6 := (loop_ok C3_6_ok (loops_of (l := []) (by kernel_rfl) (show LoopsOK Try.prog Try.f3.ntmps [] LO3_6 from trivial)) i3_6 o3_6).congr fun x => (congrArg (fun T => loopF T x) (funext e3_6)).symm
noncomputable def C3 : Tab := [(13, c13), (14, c14), (15, c15)]
theorem C3_ok : TabOK Try.prog C3 := ⟨c13_ok, c14_ok, c15_ok, trivial⟩
noncomputable def LO3 : Tab := [(6, k3_6)]
noncomputable def i3 : Tm := { sl := [(0, .v (.l (.i .u64))), (1, .v (.l (.i .u64)))], bx := [], bf := [] }
noncomputable def o3 : OT := (.ret { sl := [(0, .v .b)], bx := [], bf := [] })
/-- anabranch/anabranchlaw07.VectorLacks -/
noncomputable def F3 (a0 : (List Int)) (a1 : (List Int)) : Option ((Bool × Unit) × Unit × Unit) :=
  ((F13).bind fun y40 => (bif (!y40.1.1) then ((F13).bind fun y41 => (some ((y41.1.1, ()), (), ()))) else (bif (decide (((((a0).length : Nat) : Int) : Int) > 64)) then ((F13).bind fun y42 => (some ((y42.1.1, ()), (), ()))) else (bif (decide (((((a1).length : Nat) : Int) : Int) > 64)) then ((F13).bind fun y43 => (some ((y43.1.1, ()), (), ()))) else ((L3_6 a0 a1 0 false 0).bind fun y46 => (bif y46.1.2.1 then ((F15 a0 a1).bind fun y47 => (some ((((y47.1.1 : Int) == 18446744073709551615), ()), (), ()))) else ((F15 a0 a1).bind fun y48 => (some ((((y48.1.1 : Int) == y46.1.1), ()), (), ())))))))))
noncomputable def c3 : Con := ⟨i3, o3, fun x => F3 x.1.1 x.1.2.1⟩
theorem e3 (x : i3.E) : vfn Try.prog C3 LO3 Try.f3 b3 i3 o3 x = F3 x.1.1 x.1.2.1 := by kernel_rfl
theorem c3_ok : Con.OK Try.prog 3 c3 := (fn_ok C3_ok Try.func3 body3 (loops_of (l := [l3_6]) (by kernel_rfl) (show LoopsOK Try.prog Try.f3.ntmps [l3_6] LO3 from ⟨k3_6_ok, trivial⟩)) i3 o3).congr fun x => (e3 x).symm
noncomputable def l4_6 : Code := (.seq (.seq (.region 6 (regOf Try.f4 6) false) (.cond (.tmp 30) .skip (.exit 0))) (.seq (.block 1 (.seq (.region 8 (regOf Try.f4 8) false) (.seq (.region 9 (regOf Try.f4 9) false) (.seq (.seq (.region 10 (regOf Try.f4 10) false) (.cond (.tmp 41) (.region 11 (regOf Try.f4 11) false) .skip)) (.seq (.region 12 (regOf Try.f4 12) false) (.cond (.tmp 55) (.seq (.region 13 (regOf Try.f4 13) false) .ret) .skip)))))) (.region 7 (regOf Try.f4 7) false)))
noncomputable def b4 : Code := (.seq (.region 0 (regOf Try.f4 0) false) (.seq (.seq (.region 1 (regOf Try.f4 1) false) (.cond (.tmp 21) (.seq (.region 2 (regOf Try.f4 2) false) .ret) .skip)) (.seq (.region 3 (regOf Try.f4 3) false) (.seq (.region 4 (regOf Try.f4 4) false) (.seq (.seq (.region 5 (regOf Try.f4 5) false) (.block 0 (.loop l4_6))) (.seq (.region 14 (regOf Try.f4 14) false) .ret))))))
theorem body4 : Try.f4.body = some b4 := by kernel_rfl
noncomputable def C4_6 : Tab := [(14, c14), (18, c18)]
theorem C4_6_ok : TabOK Try.prog C4_6 := ⟨c14_ok, c18_ok, trivial⟩
noncomputable def LO4_6 : Tab := []
noncomputable def i4_6 : Tm := { sl := [(0, .v (.l (.i .u64))), (1, .v (.l (.i .u64))), (5, .v (.l (.i .u64))), (6, .v (.l (.i .u64))), (7, .v (.i .i64))], bx := [], bf := [] }
noncomputable def o4_6 : OT := (.two (.ret { sl := [(4, .v .b)], bx := [], bf := [] }) (.exit 0 { sl := [], bx := [], bf := [] }))
noncomputable def T4_6 (a0 : (List Int)) (a1 : (List Int)) (a5 : (List Int)) (a6 : (List Int)) (a7 : Int) : Option ((((List Int) × ((List Int) × ((List Int) × ((List Int) × (Int × Unit))))) × Unit × Unit) ⊕ (((Bool × Unit) × Unit × Unit) ⊕ (Unit × Unit × Unit))) :=
  (bif (decide ((a7 : Int) < 66)) then ((F14 a0 a7).bind fun y61 => ((F14 a1 a7).bind fun y62 => (bif (decide ((y61.1.1 : Int) > y62.1.1)) then ((F18 a6 a7).bind fun y63 => (bif ((y63.1.1 : Int) != y62.1.1) then (some (.inr (.inl ((false, ()), (), ())))) else ((F18 a5 a7).bind fun y64 => (bif ((y64.1.1 : Int) != y61.1.1) then (some (.inr (.inl ((false, ()), (), ())))) else (some (.inl ((a0, a1, a5, a6, (IntKind.wrap .i64 (a7 + 1)), ()), (), ()))))))) else ((F18 a6 a7).bind fun y65 => (bif ((y65.1.1 : Int) != y61.1.1) then (some (.inr (.inl ((false, ()), (), ())))) else ((F18 a5 a7).bind fun y66 => (bif ((y66.1.1 : Int) != y62.1.1) then (some (.inr (.inl ((false, ()), (), ())))) else (some (.inl ((a0, a1, a5, a6, (IntKind.wrap .i64 (a7 + 1)), ()), (), ())))))))))) else (some (.inr (.inr ((), (), ())))))
noncomputable def L4_6 (a0 : (List Int)) (a1 : (List Int)) (a5 : (List Int)) (a6 : (List Int)) (a7 : Int) : Option (((Bool × Unit) × Unit × Unit) ⊕ (Unit × Unit × Unit)) := loopF (fun x : (((List Int) × ((List Int) × ((List Int) × ((List Int) × (Int × Unit))))) × Unit × Unit) => T4_6 x.1.1 x.1.2.1 x.1.2.2.1 x.1.2.2.2.1 x.1.2.2.2.2.1) ((a0, a1, a5, a6, a7, ()), (), ())
theorem L4_6_eq (a0 : (List Int)) (a1 : (List Int)) (a5 : (List Int)) (a6 : (List Int)) (a7 : Int) : L4_6 a0 a1 a5 a6 a7 = (T4_6 a0 a1 a5 a6 a7).bind (Sum.elim (fun x => L4_6 x.1.1 x.1.2.1 x.1.2.2.1 x.1.2.2.2.1 x.1.2.2.2.2.1) some) := loopF_eq _ _
noncomputable def k4_6 : Con := ⟨i4_6, o4_6, fun x => L4_6 x.1.1 x.1.2.1 x.1.2.2.1 x.1.2.2.2.1 x.1.2.2.2.2.1⟩
theorem e4_6 (x : i4_6.E) : vround Try.prog C4_6 LO4_6 Try.f4.ntmps l4_6 i4_6 o4_6 x = T4_6 x.1.1 x.1.2.1 x.1.2.2.1 x.1.2.2.2.1 x.1.2.2.2.2.1 := by kernel_rfl
theorem k4_6_ok : Con.LOK Try.prog Try.f4.ntmps l4_6 k4_6 := (loop_ok C4_6_ok (loops_of (l := []) (by kernel_rfl) (show LoopsOK Try.prog Try.f4.ntmps [] LO4_6 from trivial)) i4_6 o4_6).congr fun x => (congrArg (fun T => loopF T x) (funext e4_6)).symm
noncomputable def C4 : Tab := [(13, c13), (14, c14), (16, c16), (17, c17), (18, c18)]
theorem C4_ok : TabOK Try.prog C4 := ⟨c13_ok, c14_ok, c16_ok, c17_ok, c18_ok, trivial⟩
noncomputable def LO4 : Tab := [(6, k4_6)]
noncomputable def i4 : Tm := { sl := [(0, .v (.l (.i .u64))), (1, .v (.l (.i .u64)))], bx := [], bf := [] }
noncomputable def o4 : OT := (.ret { sl := [(0, .v .b)], bx := [], bf := [] })
/-- anabranch/anabranchlaw07.VectorJoins -/
noncomputable def F4 (a0 : (List Int)) (a1 : (List Int)) : Option ((Bool × Unit) × Unit × Unit) :=
  ((F13).bind fun y49 => (bif (!y49.1.1) then ((F13).bind fun y50 => (some ((y50.1.1, ()), (), ()))) else (bif (decide (((((a0).length : Nat) : Int) : Int) > 64)) then ((F13).bind fun y51 => (some ((y51.1.1, ()), (), ()))) else (bif (decide (((((a1).length : Nat) : Int) : Int) > 64)) then ((F13).bind fun y52 => (some ((y52.1.1, ()), (), ()))) else ((F16 a0 a1).bind fun y53 => ((F17 a0 a1).bind fun y54 => ((L4_6 a0 a1 y53.1.1 y54.1.1 0).bind fun y67 => (Sum.elim (fun y68 => (some ((y68.1.1, ()), (), ()))) (fun y68 => (bif (((((y53.1.1).length : Nat) : Int) : Int) == 0) then (bif (((((y54.1.1).length : Nat) : Int) : Int) == 0) then (some ((true, ()), (), ())) else (bif (decide (0 ≤ ((IntKind.wrap .i64 ((((y54.1.1).length : Nat) : Int) - 1)) : Int) ∧ ((IntKind.wrap .i64 ((((y54.1.1).length : Nat) : Int) - 1)) : Int) < (((y54.1.1).length : Nat) : Int))) then (some ((((((y54.1.1).getD ((IntKind.wrap .i64 ((((y54.1.1).length : Nat) : Int) - 1)) : Int).toNat (0 : Int)) : Int) != 0), ()), (), ())) else none)) else (bif (decide (0 ≤ ((IntKind.wrap .i64 ((((y53.1.1).length : Nat) : Int) - 1)) : Int) ∧ ((IntKind.wrap .i64 ((((y53.1.1).length : Nat) : Int) - 1)) : Int) < (((y53.1.1).length : Nat) : Int))) then (bif ((((y53.1.1).getD ((IntKind.wrap .i64 ((((y53.1.1).length : Nat) : Int) - 1)) : Int).toNat (0 : Int)) : Int) != 0) then (bif (((((y54.1.1).length : Nat) : Int) : Int) == 0) then (some ((true, ()), (), ())) else (bif (decide (0 ≤ ((IntKind.wrap .i64 ((((y54.1.1).length : Nat) : Int) - 1)) : Int) ∧ ((IntKind.wrap .i64 ((((y54.1.1).length : Nat) : Int) - 1)) : Int) < (((y54.1.1).length : Nat) : Int))) then (some ((((((y54.1.1).getD ((IntKind.wrap .i64 ((((y54.1.1).length : Nat) : Int) - 1)) : Int).toNat (0 : Int)) : Int) != 0), ()), (), ())) else none)) else (some ((false, ()), (), ()))) else none))) y67))))))))
noncomputable def c4 : Con := ⟨i4, o4, fun x => F4 x.1.1 x.1.2.1⟩
theorem e4 (x : i4.E) : vfn Try.prog C4 LO4 Try.f4 b4 i4 o4 x = F4 x.1.1 x.1.2.1 := by kernel_rfl
theorem c4_ok : Con.OK Try.prog 4 c4 := (fn_ok C4_ok Try.func4 body4 (loops_of (l := [l4_6]) (by kernel_rfl) (show LoopsOK Try.prog Try.f4.ntmps [l4_6] LO4 from ⟨k4_6_ok, trivial⟩)) i4 o4).congr fun x => (e4 x).symm
noncomputable def b5 : Code := (.seq (.region 0 (regOf Try.f5 0) false) (.seq (.seq (.region 1 (regOf Try.f5 1) false) (.cond (.tmp 27) (.seq (.region 2 (regOf Try.f5 2) false) .ret) .skip)) (.seq (.region 3 (regOf Try.f5 3) false) (.seq (.region 4 (regOf Try.f5 4) false) (.seq (.region 5 (regOf Try.f5 5) false) (.seq (.region 6 (regOf Try.f5 6) false) (.seq (.region 7 (regOf Try.f5 7) false) .ret)))))))
theorem body5 : Try.f5.body = some b5 := by kernel_rfl
noncomputable def C5 : Tab := [(13, c13), (16, c16), (17, c17), (19, c19), (20, c20), (21, c21), (22, c22)]
theorem C5_ok : TabOK Try.prog C5 := ⟨c13_ok, c16_ok, c17_ok, c19_ok, c20_ok, c21_ok, c22_ok, trivial⟩
noncomputable def LO5 : Tab := []
noncomputable def i5 : Tm := { sl := [(0, .v (.l (.i .u64))), (1, .v (.l (.i .u64))), (2, .v (.l (.i .u64)))], bx := [], bf := [] }
noncomputable def o5 : OT := (.ret { sl := [(0, .v .b)], bx := [], bf := [] })
/-- anabranch/anabranchlaw07.VectorOrders -/
noncomputable def F5 (a0 : (List Int)) (a1 : (List Int)) (a2 : (List Int)) : Option ((Bool × Unit) × Unit × Unit) :=
  ((F13).bind fun y69 => (bif (!y69.1.1) then ((F13).bind fun y70 => (some ((y70.1.1, ()), (), ()))) else (bif (decide (((((a0).length : Nat) : Int) : Int) > 64)) then ((F13).bind fun y71 => (some ((y71.1.1, ()), (), ()))) else (bif (decide (((((a1).length : Nat) : Int) : Int) > 64)) then ((F13).bind fun y72 => (some ((y72.1.1, ()), (), ()))) else (bif (decide (((((a2).length : Nat) : Int) : Int) > 64)) then ((F13).bind fun y73 => (some ((y73.1.1, ()), (), ()))) else ((F19 a0 a1).bind fun y74 => ((F19 a1 a0).bind fun y75 => ((F20 a0 a1).bind fun y76 => (bif (y74.1.1 == y76.1.1) then ((F21 a0 a1).bind fun y77 => (bif y74.1.1 then (bif (y77.1.1 == y75.1.1) then ((F22 a0 a1).bind fun y78 => (bif (!y74.1.1) then (bif (y78.1.1 == (!y75.1.1)) then (bif (!y74.1.1) then ((F16 a0 a1).bind fun y79 => ((F19 a0 y79.1.1).bind fun y80 => (bif y80.1.1 then ((F17 a0 a1).bind fun y81 => ((F19 y81.1.1 a1).bind fun y82 => (some ((y82.1.1, ()), (), ())))) else (some ((false, ()), (), ()))))) else ((F19 a1 a2).bind fun y83 => (bif (!y83.1.1) then ((F16 a0 a1).bind fun y84 => ((F19 a0 y84.1.1).bind fun y85 => (bif y85.1.1 then ((F17 a0 a1).bind fun y86 => ((F19 y86.1.1 a1).bind fun y87 => (some ((y87.1.1, ()), (), ())))) else (some ((false, ()), (), ()))))) else ((F19 a0 a2).bind fun y88 => (bif y88.1.1 then ((F16 a0 a1).bind fun y89 => ((F19 a0 y89.1.1).bind fun y90 => (bif y90.1.1 then ((F17 a0 a1).bind fun y91 => ((F19 y91.1.1 a1).bind fun y92 => (some ((y92.1.1, ()), (), ())))) else (some ((false, ()), (), ()))))) else (some ((false, ()), (), ()))))))) else (some ((false, ()), (), ()))) else (bif (y78.1.1 == false) then (bif (!y74.1.1) then ((F16 a0 a1).bind fun y93 => ((F19 a0 y93.1.1).bind fun y94 => (bif y94.1.1 then ((F17 a0 a1).bind fun y95 => ((F19 y95.1.1 a1).bind fun y96 => (some ((y96.1.1, ()), (), ())))) else (some ((false, ()), (), ()))))) else ((F19 a1 a2).bind fun y97 => (bif (!y97.1.1) then ((F16 a0 a1).bind fun y98 => ((F19 a0 y98.1.1).bind fun y99 => (bif y99.1.1 then ((F17 a0 a1).bind fun y100 => ((F19 y100.1.1 a1).bind fun y101 => (some ((y101.1.1, ()), (), ())))) else (some ((false, ()), (), ()))))) else ((F19 a0 a2).bind fun y102 => (bif y102.1.1 then ((F16 a0 a1).bind fun y103 => ((F19 a0 y103.1.1).bind fun y104 => (bif y104.1.1 then ((F17 a0 a1).bind fun y105 => ((F19 y105.1.1 a1).bind fun y106 => (some ((y106.1.1, ()), (), ())))) else (some ((false, ()), (), ()))))) else (some ((false, ()), (), ()))))))) else (some ((false, ()), (), ()))))) else (some ((false, ()), (), ()))) else (bif (y77.1.1 == false) then ((F22 a0 a1).bind fun y107 => (bif (!y74.1.1) then (bif (y107.1.1 == (!y75.1.1)) then (bif (!y74.1.1) then ((F16 a0 a1).bind fun y108 => ((F19 a0 y108.1.1).bind fun y109 => (bif y109.1.1 then ((F17 a0 a1).bind fun y110 => ((F19 y110.1.1 a1).bind fun y111 => (some ((y111.1.1, ()), (), ())))) else (some ((false, ()), (), ()))))) else ((F19 a1 a2).bind fun y112 => (bif (!y112.1.1) then ((F16 a0 a1).bind fun y113 => ((F19 a0 y113.1.1).bind fun y114 => (bif y114.1.1 then ((F17 a0 a1).bind fun y115 => ((F19 y115.1.1 a1).bind fun y116 => (some ((y116.1.1, ()), (), ())))) else (some ((false, ()), (), ()))))) else ((F19 a0 a2).bind fun y117 => (bif y117.1.1 then ((F16 a0 a1).bind fun y118 => ((F19 a0 y118.1.1).bind fun y119 => (bif y119.1.1 then ((F17 a0 a1).bind fun y120 => ((F19 y120.1.1 a1).bind fun y121 => (some ((y121.1.1, ()), (), ())))) else (some ((false, ()), (), ()))))) else (some ((false, ()), (), ()))))))) else (some ((false, ()), (), ()))) else (bif (y107.1.1 == false) then (bif (!y74.1.1) then ((F16 a0 a1).bind fun y122 => ((F19 a0 y122.1.1).bind fun y123 => (bif y123.1.1 then ((F17 a0 a1).bind fun y124 => ((F19 y124.1.1 a1).bind fun y125 => (some ((y125.1.1, ()), (), ())))) else (some ((false, ()), (), ()))))) else ((F19 a1 a2).bind fun y126 => (bif (!y126.1.1) then ((F16 a0 a1).bind fun y127 => ((F19 a0 y127.1.1).bind fun y128 => (bif y128.1.1 then ((F17 a0 a1).bind fun y129 => ((F19 y129.1.1 a1).bind fun y130 => (some ((y130.1.1, ()), (), ())))) else (some ((false, ()), (), ()))))) else ((F19 a0 a2).bind fun y131 => (bif y131.1.1 then ((F16 a0 a1).bind fun y132 => ((F19 a0 y132.1.1).bind fun y133 => (bif y133.1.1 then ((F17 a0 a1).bind fun y134 => ((F19 y134.1.1 a1).bind fun y135 => (some ((y135.1.1, ()), (), ())))) else (some ((false, ()), (), ()))))) else (some ((false, ()), (), ()))))))) else (some ((false, ()), (), ()))))) else (some ((false, ()), (), ()))))) else (some ((false, ()), (), ())))))))))))
noncomputable def c5 : Con := ⟨i5, o5, fun x => F5 x.1.1 x.1.2.1 x.1.2.2.1⟩
theorem e5 (x : i5.E) : vfn Try.prog C5 LO5 Try.f5 b5 i5 o5 x = F5 x.1.1 x.1.2.1 x.1.2.2.1 := by kernel_rfl
theorem c5_ok : Con.OK Try.prog 5 c5 := (fn_ok C5_ok Try.func5 body5 (loops_of (l := []) (by kernel_rfl) (show LoopsOK Try.prog Try.f5.ntmps [] LO5 from trivial)) i5 o5).congr fun x => (e5 x).symm
end Go.IM.V

/- Vectors: what the printed functions tell. -/
set_option linter.unusedVariables false
set_option linter.unusedSimpArgs false
set_option linter.constructorNameAsVariable false
namespace Go.IM.V
open Go Go.IM Go.Proofs

/-- The numbers of a vector: none below nought. -/
def Vok (v : List Int) : Prop := ∀ x ∈ v, 0 ≤ x ∧ x < 18446744073709551616
abbrev gv (v : List Int) (k : Nat) : Int := v.getD k 0
theorem Vok.gv {v : List Int} (h : Vok v) (k : Nat) : 0 ≤ gv v k ∧ gv v k < 18446744073709551616 := by
  unfold V.gv
  rw [List.getD_eq_getElem?_getD]
  rcases Nat.lt_or_ge k v.length with hk | hk
  · rw [List.getElem?_eq_getElem hk]; exact h _ (List.getElem_mem hk)
  · rw [List.getElem?_eq_none hk]; simp
theorem gv_ge {v : List Int} {k : Nat} (h : v.length ≤ k) : gv v k = 0 := by
  unfold gv; rw [List.getD_eq_getElem?_getD, List.getElem?_eq_none h]; rfl

theorem F18_nat (v : List Int) (k : Nat) : F18 v (k : Int) = some (r1 (gv v k)) := by
  unfold F18
  simp only [cif]
  rw [if_neg (by omega)]
  by_cases h : v.length ≤ k
  · rw [if_pos (by omega), gv_ge h]
  · rw [if_neg (by omega), if_pos (by omega), Int.toNat_natCast]
theorem F14_nat (v : List Int) (k : Nat) : F14 v (k : Int) = some (r1 (gv v k)) := F18_nat v k

/-- Has b all that a has, from k on? -/
def within (a b : List Int) : Bool := (List.range a.length).all fun k => decide (gv a k ≤ gv b k)
theorem within_iff (a b : List Int) : within a b = true ↔ ∀ k, k < a.length → gv a k ≤ gv b k := by simp [within]

theorem L19_run (a b : List Int) (hn : a.length < 2 ^ 62) : ∀ (d k : Nat), k + d = a.length → (∀ i, i < k → gv a i ≤ gv b i) → L19_2 b a (a.length : Nat) (k : Nat) = some (if within a b then .inr ((), (), ()) else .inl (r1 false)) := by
  intro d
  induction d with
  | zero =>
    intro k hk hle
    have hw : within a b = true := (within_iff a b).2 fun i hi => hle i (by omega)
    rw [L19_2_eq]
    simp only [T19_2, cif]
    rw [if_neg (by omega), hw]
    rfl
  | succ d ih =>
    intro k hk hle
    have hlt : k < a.length := by omega
    rw [L19_2_eq]
    simp only [T19_2, cif]
    rw [if_pos (by omega), if_pos (by omega), F18_nat]
    simp only [Option.bind_some, Int.toNat_natCast]
    by_cases h : gv a k ≤ gv b k
    · rw [if_neg (by show ¬ (gv a k > gv b k); omega)]
      simp only [Option.bind_some, Sum.elim_inl]
      have hw : IntKind.wrap .i64 ((k : Int) + 1) = ((k + 1 : Nat) : Int) := by rw [w64 (by omega) (by omega)]; omega
      rw [hw]
      exact ih (k + 1) (by omega) (fun i hi => by
        rcases Nat.lt_or_ge i k with q | q
        · exact hle i q
        · obtain rfl : i = k := by omega
          exact h)
    · rw [if_pos (by show gv a k > gv b k; omega)]
      have hw : within a b = false := by
        cases hq : within a b with
        | false => rfl
        | true => exact absurd ((within_iff a b).1 hq k hlt) h
      rw [hw]
      rfl
theorem F19_eq (a b : List Int) (hn : a.length < 2 ^ 62) : F19 a b = some (r1 (within a b)) := by
  unfold F19
  have := L19_run a b hn a.length 0 (by omega) (fun i hi => by omega)
  rw [show ((0 : Nat) : Int) = 0 from rfl] at this
  rw [this]
  cases within a b <;> rfl
theorem L20_run (a b : List Int) (hn : a.length < 2 ^ 62) : ∀ (d k : Nat), k + d = a.length → (∀ i, i < k → gv a i ≤ gv b i) → L20_2 a b (k : Nat) = some (if within a b then .inr ((), (), ()) else .inl (r1 false)) := by
  intro d
  induction d with
  | zero =>
    intro k hk hle
    have hw : within a b = true := (within_iff a b).2 fun i hi => hle i (by omega)
    rw [L20_2_eq]
    simp only [T20_2, cif]
    rw [if_neg (by omega), hw]
    rfl
  | succ d ih =>
    intro k hk hle
    have hlt : k < a.length := by omega
    rw [L20_2_eq]
    simp only [T20_2, cif]
    rw [if_pos (by omega), if_pos (by omega), F14_nat]
    simp only [Option.bind_some, Int.toNat_natCast]
    by_cases h : gv a k ≤ gv b k
    · rw [if_neg (by show ¬ (gv a k > gv b k); omega)]
      simp only [Option.bind_some, Sum.elim_inl]
      have hw : IntKind.wrap .i64 ((k : Int) + 1) = ((k + 1 : Nat) : Int) := by rw [w64 (by omega) (by omega)]; omega
      rw [hw]
      exact ih (k + 1) (by omega) (fun i hi => by
        rcases Nat.lt_or_ge i k with q | q
        · exact hle i q
        · obtain rfl : i = k := by omega
          exact h)
    · rw [if_pos (by show gv a k > gv b k; omega)]
      have hw : within a b = false := by
        cases hq : within a b with
        | false => rfl
        | true => exact absurd ((within_iff a b).1 hq k hlt) h
      rw [hw]
      rfl
theorem F20_eq (a b : List Int) (hn : a.length < 2 ^ 62) : F20 a b = some (r1 (within a b)) := by
  unfold F20
  have := L20_run a b hn a.length 0 (by omega) (fun i hi => by omega)
  rw [show ((0 : Nat) : Int) = 0 from rfl] at this
  rw [this]
  cases within a b <;> rfl
theorem F21_eq (a b : List Int) (ha : a.length < 2 ^ 62) (hb : b.length < 2 ^ 62) : F21 a b = some (r1 (within a b && within b a)) := by
  unfold F21
  rw [F19_eq a b ha]
  simp only [Option.bind_some]
  cases within a b
  · rfl
  · rw [F19_eq b a hb]; rfl
theorem F22_eq (a b : List Int) (ha : a.length < 2 ^ 62) (hb : b.length < 2 ^ 62) : F22 a b = some (r1 (!within a b && !within b a)) := by
  unfold F22
  rw [F19_eq a b ha]
  simp only [Option.bind_some]
  cases within a b
  · rw [F19_eq b a hb]; rfl
  · rfl

/-! ### Trim -/
theorem F70_eq (a : List Int) (h : a.length < 2 ^ 39) : F70 a = some (r1 a) := by
  unfold F70
  refine nilBr_of ?_ (fun h0 => ?_)
  · rw [cif, if_pos (by unfold lim; simp; omega)]; rfl
  · rw [List.eq_nil_of_length_eq_zero h0]
def trimN (a : List Int) : Nat → Nat
  | 0 => 0
  | n + 1 => if gv a n = 0 then trimN a n else n + 1
theorem trimN_le (a : List Int) : ∀ n, trimN a n ≤ n := by
  intro n
  induction n with
  | zero => exact Nat.le_refl _
  | succ n ih => simp only [trimN]; split <;> omega
theorem trimN_nz (a : List Int) : ∀ n, trimN a n = 0 ∨ gv a (trimN a n - 1) ≠ 0 := by
  intro n
  induction n with
  | zero => exact .inl rfl
  | succ n ih =>
    simp only [trimN]
    split
    · exact ih
    · rename_i h; exact .inr (by simpa using h)
theorem trimN_z (a : List Int) : ∀ n k, trimN a n ≤ k → k < n → gv a k = 0 := by
  intro n
  induction n with
  | zero => intro k _ h; omega
  | succ n ih =>
    intro k h1 h2
    simp only [trimN] at h1
    split at h1
    · rename_i h
      rcases Nat.lt_or_ge k n with q | q
      · exact ih k h1 q
      · obtain rfl : k = n := by omega
        exact h
    · omega
def trim (a : List Int) : List Int := a.take (trimN a a.length)
theorem L55_run (a : List Int) (hn : a.length < 2 ^ 39) : ∀ k, k ≤ a.length → L55_2 a (k : Nat) = some (r1 ((trimN a k : Nat) : Int)) := by
  intro k
  induction k with
  | zero =>
    intro _
    rw [L55_2_eq]
    simp only [T55_2, cif]
    rw [if_neg (by omega)]
    rfl
  | succ k ih =>
    intro hk
    rw [L55_2_eq]
    have hw : IntKind.wrap .i64 (((k + 1 : Nat) : Int) - 1) = (k : Int) := by rw [w64 (by omega) (by omega)]; omega
    simp only [T55_2, cif]
    rw [hw, if_pos (by omega), if_pos (by omega)]
    simp only [Int.toNat_natCast]
    by_cases h : gv a k = 0
    · have hb : (a.getD k 0 == 0) = true := by simpa using h
      rw [hb]
      simp only [cond_true, Option.bind_some, Sum.elim_inl]
      rw [ih (by omega)]
      simp only [trimN]
      rw [if_pos h]
    · have hb : (a.getD k 0 == 0) = false := by simpa using h
      rw [hb]
      simp only [cond_false, Option.bind_some, Sum.elim_inr, trimN]
      rw [if_neg h]
theorem F55_eq (a : List Int) (hn : a.length < 2 ^ 39) : F55 a = some (r1 (trim a)) := by
  unfold F55
  rw [L55_run a hn a.length (Nat.le_refl _)]
  have := trimN_le a a.length
  simp only [Option.bind_some, cif]
  rw [if_pos (by omega), Int.toNat_natCast, F70_eq _ (by rw [List.length_take]; omega)]
  rfl
theorem gv_trim (a : List Int) (k : Nat) : gv (trim a) k = gv a k := by
  unfold trim
  rcases Nat.lt_or_ge k (trimN a a.length) with h | h
  · unfold gv; rw [List.getD_eq_getElem?_getD, List.getD_eq_getElem?_getD, List.getElem?_take, if_pos h]
  · rw [gv_ge (by rw [List.length_take]; omega)]
    rcases Nat.lt_or_ge k a.length with h2 | h2
    · exact (trimN_z a a.length k h h2).symm
    · exact (gv_ge h2).symm
theorem trim_len (a : List Int) : (trim a).length = trimN a a.length := by
  unfold trim; rw [List.length_take]; have := trimN_le a a.length; omega

/-! ### Join, Meet -/
def pairL (f : Int → Int → Int) (a b : List Int) (n : Nat) : List Int := (List.range n).map fun k => f (gv a k) (gv b k)
theorem pairL_succ (f : Int → Int → Int) (a b : List Int) (n : Nat) : pairL f a b (n + 1) = pairL f a b n ++ [f (gv a n) (gv b n)] := by
  unfold pairL; rw [List.range_succ, List.map_append]; rfl
def mxI (x y : Int) : Int := if y > x then y else x
def mnI (x y : Int) : Int := if y < x then y else x
theorem L43j_run (a b : List Int) (n : Nat) (hn : n < 2 ^ 38) : ∀ (d k : Nat), k + d = n → L43j_3 a b (n : Nat) (k : Nat) (pairL mxI a b k) = some (((), ()), (), (pairL mxI a b n, ())) := by
  intro d
  induction d with
  | zero =>
    intro k hk
    obtain rfl : k = n := by omega
    rw [L43j_3_eq]
    simp only [T43j_3, cif]
    rw [if_neg (by omega)]
    rfl
  | succ d ih =>
    intro k hk
    rw [L43j_3_eq]
    have hw : IntKind.wrap .i64 ((k : Int) + 1) = ((k + 1 : Nat) : Int) := by rw [w64 (by omega) (by omega)]; omega
    simp only [T43j_3, cif]
    rw [if_pos (by omega), F18_nat, F18_nat, hw]
    simp only [Option.bind_some, F44]
    rw [if_pos (by unfold lim pairL; simp; omega)]
    simp only [Option.bind_some, Sum.elim_inl]
    have := ih (k + 1) (by omega)
    rw [pairL_succ] at this
    exact this
theorem L43m_run (a b : List Int) (n : Nat) (hn : n < 2 ^ 38) : ∀ (d k : Nat), k + d = n → L43m_3 a b (n : Nat) (k : Nat) (pairL mnI a b k) = some (((), ()), (), (pairL mnI a b n, ())) := by
  intro d
  induction d with
  | zero =>
    intro k hk
    obtain rfl : k = n := by omega
    rw [L43m_3_eq]
    simp only [T43m_3, cif]
    rw [if_neg (by omega)]
    rfl
  | succ d ih =>
    intro k hk
    rw [L43m_3_eq]
    have hw : IntKind.wrap .i64 ((k : Int) + 1) = ((k + 1 : Nat) : Int) := by rw [w64 (by omega) (by omega)]; omega
    simp only [T43m_3, cif]
    rw [if_pos (by omega), F18_nat, F18_nat, hw]
    simp only [Option.bind_some, F45]
    rw [if_pos (by unfold lim pairL; simp; omega)]
    simp only [Option.bind_some, Sum.elim_inl]
    have := ih (k + 1) (by omega)
    rw [pairL_succ] at this
    exact this
theorem ifmax (a b : Nat) : (if ((b : Int)) > (a : Int) then (b : Int) else (a : Int)) = ((max a b : Nat) : Int) := by split <;> omega
def join (a b : List Int) : List Int := trim (pairL mxI a b (max a.length b.length))
def meet (a b : List Int) : List Int := trim (pairL mnI a b (max a.length b.length))
theorem pairL_len (f : Int → Int → Int) (a b : List Int) (n : Nat) : (pairL f a b n).length = n := by simp [pairL]
theorem F16_eq (a b : List Int) (ha : a.length < 2 ^ 38) (hb : b.length < 2 ^ 38) : F16 a b = some (r1 (join a b)) := by
  unfold F16 F43j
  rw [ifmax]
  have := L43j_run a b (max a.length b.length) (by omega) (max a.length b.length) 0 (by omega)
  rw [show ((0 : Nat) : Int) = 0 from rfl] at this
  rw [show pairL mxI a b 0 = ([] : List Int) from rfl] at this
  rw [this]
  simp only [Option.bind_some]
  rw [F55_eq _ (by rw [pairL_len]; omega)]
  rfl
theorem F17_eq (a b : List Int) (ha : a.length < 2 ^ 38) (hb : b.length < 2 ^ 38) : F17 a b = some (r1 (meet a b)) := by
  unfold F17 F43m
  rw [ifmax]
  have := L43m_run a b (max a.length b.length) (by omega) (max a.length b.length) 0 (by omega)
  rw [show ((0 : Nat) : Int) = 0 from rfl] at this
  rw [show pairL mnI a b 0 = ([] : List Int) from rfl] at this
  rw [this]
  simp only [Option.bind_some]
  rw [F55_eq _ (by rw [pairL_len]; omega)]
  rfl
theorem gv_pairL (f : Int → Int → Int) (h0 : f 0 0 = 0) (a b : List Int) (k : Nat) : gv (pairL f a b (max a.length b.length)) k = f (gv a k) (gv b k) := by
  rcases Nat.lt_or_ge k (max a.length b.length) with h | h
  · unfold gv pairL
    rw [List.getD_eq_getElem?_getD, List.getElem?_map, List.getElem?_range h]; rfl
  · rw [gv_ge (by rw [pairL_len]; exact h), gv_ge (v := a) (by omega), gv_ge (v := b) (by omega), h0]
theorem gv_join (a b : List Int) (k : Nat) : gv (join a b) k = mxI (gv a k) (gv b k) := by unfold join; rw [gv_trim, gv_pairL _ rfl]
theorem gv_meet (a b : List Int) (k : Nat) : gv (meet a b) k = mnI (gv a k) (gv b k) := by unfold meet; rw [gv_trim, gv_pairL _ rfl]
theorem trim_last (a : List Int) : (trim a).length = 0 ∨ gv (trim a) ((trim a).length - 1) ≠ 0 := by
  rw [gv_trim, trim_len]
  exact trimN_nz a a.length
theorem join_len (a b : List Int) : (join a b).length ≤ max a.length b.length := by unfold join; rw [trim_len]; have := trimN_le (pairL mxI a b (max a.length b.length)) (pairL mxI a b (max a.length b.length)).length; rw [pairL_len] at this ⊢; exact this
theorem meet_len (a b : List Int) : (meet a b).length ≤ max a.length b.length := by unfold meet; rw [trim_len]; have := trimN_le (pairL mnI a b (max a.length b.length)) (pairL mnI a b (max a.length b.length)).length; rw [pairL_len] at this ⊢; exact this
end Go.IM.V

/- Vectors: the laws VectorLacks, VectorJoins, VectorOrders. -/
set_option linter.unusedVariables false
set_option linter.unusedSimpArgs false
set_option linter.constructorNameAsVariable false
namespace Go.IM.V
open Go Go.IM Go.Proofs

/-- How much a has that b hasn't, from k on: none, if that is too much. -/
def lk (a b : List Int) : Nat → Nat → Int → Option Int
  | 0, _, s => some s
  | d + 1, k, s => let e := if gv b k < gv a k then gv a k - gv b k else 0
    if s + e < 18446744073709551616 then lk a b d (k + 1) (s + e) else none

theorem L15_run (a b : List Int) (ha : Vok a) (hb : Vok b) (hn : a.length < 2 ^ 62) : ∀ (d k : Nat) (s : Int), k + d = a.length → 0 ≤ s → s < 18446744073709551616 →
    L15_3 b s a (a.length : Nat) (k : Nat) = some (match lk a b d k s with | some x => .inr (r1 x) | none => .inl (r1 18446744073709551615)) := by
  intro d
  induction d with
  | zero =>
    intro k s hk h0 h1
    rw [L15_3_eq]
    simp only [T15_3, cif]
    rw [if_neg (by omega)]
    rfl
  | succ d ih =>
    intro k s hk h0 h1
    have hlt : k < a.length := by omega
    obtain ⟨a0, a1⟩ := ha.gv k
    obtain ⟨b0, b1⟩ := hb.gv k
    rw [L15_3_eq]
    have hw : IntKind.wrap .i64 ((k : Int) + 1) = ((k + 1 : Nat) : Int) := by rw [w64 (by omega) (by omega)]; omega
    simp only [T15_3, cif]
    rw [if_pos (by omega), if_pos (by omega), F18_nat, hw]
    simp only [Option.bind_some, Int.toNat_natCast]
    have he : IntKind.wrap .u64 (a.getD k 0 - if gv b k < a.getD k 0 then gv b k else a.getD k 0) = (if gv b k < gv a k then gv a k - gv b k else 0) := by
      show IntKind.wrap .u64 (gv a k - if gv b k < gv a k then gv b k else gv a k) = _
      split
      · rw [wu64 (by omega) (by omega)]
      · rw [wu64 (by omega) (by omega)]; omega
    rw [he]
    have hr : 0 ≤ (if gv b k < gv a k then gv a k - gv b k else 0) ∧ (if gv b k < gv a k then gv a k - gv b k else 0) < 18446744073709551616 := by split <;> omega
    simp only [lk]
    generalize (if gv b k < gv a k then gv a k - gv b k else 0) = e at hr ⊢
    by_cases hov : s + e < 18446744073709551616
    · rw [wu64 (by omega) hov, if_neg (by omega), if_pos hov]
      simp only [Option.bind_some, Sum.elim_inl]
      exact ih (k + 1) (s + e) (by omega) (by omega) hov
    · rw [wu64_mod, if_pos (by omega), if_neg hov]
      rfl
def lack (a b : List Int) : Int := match lk a b a.length 0 0 with | some x => x | none => 18446744073709551615
theorem F15_eq (a b : List Int) (ha : Vok a) (hb : Vok b) (hn : a.length < 2 ^ 62) : F15 a b = some (r1 (lack a b)) := by
  unfold F15 lack
  have := L15_run a b ha hb hn a.length 0 0 (by omega) (by omega) (by omega)
  rw [show ((0 : Nat) : Int) = 0 from rfl] at this
  rw [this]
  cases lk a b a.length 0 0 <;> rfl

theorem L3_run (a b : List Int) (ha : Vok a) (hb : Vok b) (hn : a.length < 2 ^ 62) : ∀ (d k : Nat) (s : Int) (f : Bool), k + d = a.length → 0 ≤ s → s < 18446744073709551616 →
    ∃ s' f', L3_6 a b s f (k : Nat) = some ((s', f', ()), (), ()) ∧ (f = true → f' = true) ∧ (f = false → match lk a b d k s with | some x => s' = x ∧ f' = false | none => f' = true) := by
  intro d
  induction d with
  | zero =>
    intro k s f hk h0 h1
    refine ⟨s, f, ?_, id, fun h => ⟨rfl, h⟩⟩
    rw [L3_6_eq]
    simp only [T3_6, cif]
    rw [if_neg (by omega)]
    rfl
  | succ d ih =>
    intro k s f hk h0 h1
    have hlt : k < a.length := by omega
    obtain ⟨a0, a1⟩ := ha.gv k
    obtain ⟨b0, b1⟩ := hb.gv k
    have hw : IntKind.wrap .i64 ((k : Int) + 1) = ((k + 1 : Nat) : Int) := by rw [w64 (by omega) (by omega)]; omega
    have hgd : a.getD k 0 = gv a k := rfl
    rw [L3_6_eq]
    simp only [T3_6, cif]
    rw [if_pos (by omega), F14_nat, hw]
    simp only [Option.bind_some, Int.toNat_natCast, hgd]
    rw [if_pos (by omega)]
    simp only [lk]
    by_cases hg : gv b k < gv a k
    · rw [if_pos hg, if_pos hg, if_pos (by omega), wu64 (n := gv a k - gv b k) (by omega) (by omega)]
      have hs : 0 ≤ IntKind.wrap .u64 (s + (gv a k - gv b k)) ∧ IntKind.wrap .u64 (s + (gv a k - gv b k)) < 18446744073709551616 := by rw [wu64_mod]; omega
      cases f with
      | true =>
        obtain ⟨s', f', h2, h3, _⟩ := ih (k + 1) _ true (by omega) hs.1 hs.2
        refine ⟨s', f', ?_, h3, fun h => by cases h⟩
        simp only [cond_true, Option.bind_some, Sum.elim_inl]
        exact h2
      | false =>
        simp only [cond_false]
        rw [if_pos (by omega)]
        simp only [Option.bind_some, Sum.elim_inl]
        by_cases hov : s + (gv a k - gv b k) < 18446744073709551616
        · rw [wu64 (by omega) hov, decide_eq_false (by omega), if_pos hov]
          obtain ⟨s', f', h2, _, h4⟩ := ih (k + 1) (s + (gv a k - gv b k)) false (by omega) (by omega) hov
          exact ⟨s', f', h2, (fun h => by cases h), fun _ => h4 rfl⟩
        · rw [decide_eq_true (by rw [wu64_mod]; omega), if_neg hov]
          obtain ⟨s', f', h2, h3, _⟩ := ih (k + 1) _ true (by omega) hs.1 hs.2
          exact ⟨s', f', h2, (fun h => by cases h), fun _ => h3 rfl⟩
    · rw [if_neg hg, if_neg hg, Int.add_zero, if_pos h1]
      simp only [Option.bind_some, Sum.elim_inl]
      exact ih (k + 1) s f (by omega) h0 h1

theorem Vok_ok {v : List Int} (h : okE (.l (.i .u64)) v) : Vok v := fun x hx => ok_u64 (h.2 x hx)
theorem vok2 : Vok [1, 2] ∧ Vok [3] ∧ Vok [3, 2] ∧ Vok [1] := by
  refine ⟨?_, ?_, ?_, ?_⟩ <;> (intro x hx; simp at hx; omega)
theorem F13_eq : F13 = some (r1 true) := by
  unfold F13
  rw [F16_eq _ _ (by decide) (by decide)]
  have hj : join [1, 2] [3] = [3, 2] := by decide
  simp only [Option.bind_some, hj]
  rw [F21_eq _ _ (by decide) (by decide)]
  have hw : (within [3, 2] [3, 2] && within [3, 2] [3, 2]) = true := by decide
  simp only [Option.bind_some, hw, cond_true]
  rw [F15_eq _ _ vok2.2.2.1 vok2.2.2.2 (by decide)]
  have hl : lack [3, 2] [1] = 4 := by decide
  simp only [Option.bind_some, hl]
  rfl

theorem lacks_pure (a b : List Int) (ha : okE (.l (.i .u64)) a) (hb : okE (.l (.i .u64)) b) : F3 a b = some (r1 true) := by
  unfold F3
  rw [F13_eq]
  simp only [Option.bind_some, Bool.not_true, cond_false, cif]
  split
  · rfl
  · split
    · rfl
    · obtain ⟨s', f', h1, _, h3⟩ := L3_run a b (Vok_ok ha) (Vok_ok hb) (by omega) a.length 0 0 false (by omega) (by omega) (by omega)
      rw [show ((0 : Nat) : Int) = 0 from rfl] at h1
      rw [h1, F15_eq a b (Vok_ok ha) (Vok_ok hb) (by omega)]
      simp only [Option.bind_some]
      have h3 := h3 rfl
      unfold lack
      cases hl : lk a b a.length 0 0 with
      | none => rw [hl] at h3; dsimp only at h3; subst h3; rfl
      | some x =>
        rw [hl] at h3
        obtain ⟨rfl, rfl⟩ := h3
        simp

theorem mxmn (x y : Int) : mnI x y = (if x > y then y else x) ∧ mxI x y = (if x > y then x else y) := by
  unfold mnI mxI
  refine ⟨rfl, ?_⟩
  by_cases h : x > y
  · rw [if_neg (by omega), if_pos h]
  · rw [if_neg h]; split <;> omega
theorem L4_run (a b : List Int) : ∀ (d k : Nat), k + d = 66 → L4_6 a b (join a b) (meet a b) (k : Nat) = some (.inr ((), (), ())) := by
  intro d
  induction d with
  | zero =>
    intro k hk
    rw [L4_6_eq]
    simp only [T4_6, cif]
    rw [if_neg (by omega)]
    rfl
  | succ d ih =>
    intro k hk
    have hw : IntKind.wrap .i64 ((k : Int) + 1) = ((k + 1 : Nat) : Int) := by rw [w64 (by omega) (by omega)]; omega
    obtain ⟨h1, h2⟩ := mxmn (gv a k) (gv b k)
    rw [L4_6_eq]
    simp only [T4_6, cif]
    rw [if_pos (by omega), F14_nat, F14_nat, F18_nat, F18_nat, gv_join, gv_meet, hw, h1, h2]
    simp only [Option.bind_some]
    by_cases hg : gv a k > gv b k
    · simp only [if_pos hg, bne_self_eq_false, cond_false, Option.bind_some, Sum.elim_inl]
      exact ih (k + 1) (by omega)
    · simp only [if_neg hg, bne_self_eq_false, cond_false, Option.bind_some, Sum.elim_inl]
      exact ih (k + 1) (by omega)

theorem joins_pure (a b : List Int) : F4 a b = some (r1 true) := by
  unfold F4
  rw [F13_eq]
  simp only [Option.bind_some, Bool.not_true, cond_false, cif]
  split
  · rfl
  · split
    · rfl
    · rw [F16_eq a b (by omega) (by omega), F17_eq a b (by omega) (by omega)]
      simp only [Option.bind_some]
      have hl := L4_run a b 66 0 (by omega)
      rw [show ((0 : Nat) : Int) = 0 from rfl] at hl
      rw [hl]
      simp only [Option.bind_some, Sum.elim_inr]
      have key : ∀ v : List Int, v.length < 2 ^ 60 → v.length = 0 ∨ gv v (v.length - 1) ≠ 0 → ((((v.length : Nat) : Int) == 0) = true) ∨ ((((v.length : Nat) : Int) == 0) = false ∧ (0 ≤ IntKind.wrap .i64 (((v.length : Nat) : Int) - 1) ∧ IntKind.wrap .i64 (((v.length : Nat) : Int) - 1) < ((v.length : Nat) : Int)) ∧ (v.getD (IntKind.wrap .i64 (((v.length : Nat) : Int) - 1)).toNat 0 != 0) = true) := by
        intro v hv h
        rcases Nat.eq_zero_or_pos v.length with h0 | h0
        · exact .inl (by simp [h0])
        · refine .inr ⟨by simp; intro h1; rw [h1] at h0; simp at h0, ?_⟩
          rw [w64 (by omega) (by omega), show (((v.length : Nat) : Int) - 1).toNat = v.length - 1 by omega]
          refine ⟨by omega, ?_⟩
          rcases h with h | h
          · omega
          · simpa [gv] using h
      have j1 := join_len a b
      have m1 := meet_len a b
      rcases key (join a b) (by omega) (trim_last _) with j | ⟨j, j2, j3⟩ <;> rcases key (meet a b) (by omega) (trim_last _) with m | ⟨m, m2, m3⟩
      · simp only [j, m, cond_true]
      · simp only [j, m, cond_true, cond_false]
        rw [if_pos m2]
        simp only [m3]
      · simp only [j, m, cond_true, cond_false]
        rw [if_pos j2]
        simp only [j3, cond_true]
      · simp only [j, m, cond_false]
        rw [if_pos j2]
        simp only [j3, cond_true]
        rw [if_pos m2]
        simp only [m3]

theorem within_trans {a b c : List Int} (hb : Vok b) (hc : Vok c) (h : within a b = true) (k : within b c = true) : within a c = true := by
  rw [within_iff] at h k ⊢
  intro i hi
  have h1 := h i hi
  rcases Nat.lt_or_ge i b.length with q | q
  · exact Int.le_trans h1 (k i q)
  · rw [gv_ge q] at h1
    have := (hc.gv i).1
    omega
theorem within_join (a b : List Int) : within a (join a b) = true := by
  rw [within_iff]
  intro i _
  rw [gv_join]
  unfold mxI
  split <;> omega
theorem within_meet (a b : List Int) : within (meet a b) b = true := by
  rw [within_iff]
  intro i _
  rw [gv_meet]
  unfold mnI
  split <;> omega
theorem orders_pure (a b c : List Int) (hb : okE (.l (.i .u64)) b) (hc : okE (.l (.i .u64)) c) : F5 a b c = some (r1 true) := by
  unfold F5
  rw [F13_eq]
  simp only [Option.bind_some, Bool.not_true, cond_false, cif]
  split
  · rfl
  · split
    · rfl
    · split
      · rfl
      · have j1 := join_len a b
        have m1 := meet_len a b
        have ht := within_trans (a := a) (Vok_ok hb) (Vok_ok hc)
        rw [F19_eq a b (by omega), F19_eq b a (by omega), F20_eq a b (by omega), F21_eq a b (by omega) (by omega), F22_eq a b (by omega) (by omega), F16_eq a b (by omega) (by omega), F17_eq a b (by omega) (by omega), F19_eq b c (by omega), F19_eq a c (by omega)]
        simp only [Option.bind_some]
        rw [F19_eq a (join a b) (by omega), F19_eq (meet a b) b (by omega), within_join, within_meet]
        cases h1 : within a b <;> cases h2 : within b a <;> cases h3 : within b c <;> cases h4 : within a c <;> first | rfl | (have := ht h1 h3; rw [h4] at this; cases this)
end Go.IM.V
