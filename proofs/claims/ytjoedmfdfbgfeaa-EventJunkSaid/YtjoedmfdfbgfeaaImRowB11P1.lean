/- What the code of a law comes to, and what that tells: part 1. Lemmas alone; no conditions. -/
import Derived.Test.YtjoedmfdfbgfeaaProg
import Derived.KernelRfl
import Derived.Test.YtjoedmfdfbgfeaaImM4
/- Vectors: what the code comes to. -/
set_option linter.unusedVariables false
set_option linter.constructorNameAsVariable false
namespace Go.IM.V
open Go Go.IM Go.Proofs

noncomputable def b14 : Code := (.seq (.region 0 (regOf Try.f14 0) false) (.seq (.seq (.region 1 (regOf Try.f14 1) false) (.cond (.tmp 12) (.seq (.region 2 (regOf Try.f14 2) false) .ret) .skip)) (.seq (.region 3 (regOf Try.f14 3) false) .ret)))
theorem body14 : Try.f14.body = some b14 := by kernel_rfl
noncomputable def C14 : Tab := []
theorem C14_ok : TabOK Try.prog C14 := trivial
noncomputable def LO14 : Tab := []
noncomputable def i14 : Tm := { sl := [(0, .v (.l (.i .u64))), (1, .v (.i .i64))], bx := [], bf := [] }
noncomputable def o14 : OT := (.ret { sl := [(0, .v (.i .u64))], bx := [], bf := [] })
/-- anabranch/anabranchref06.Get -/
noncomputable def F14 (a0 : (List Int)) (a1 : Int) : Option ((Int × Unit) × Unit × Unit) :=
  (bif (decide ((a1 : Int) < 0)) then (some ((0, ()), (), ())) else (bif (decide ((a1 : Int) ≥ (((a0).length : Nat) : Int))) then (some ((0, ()), (), ())) else (bif (decide (0 ≤ (a1 : Int) ∧ (a1 : Int) < (((a0).length : Nat) : Int))) then (some ((((a0).getD (a1 : Int).toNat (0 : Int)), ()), (), ())) else none)))
noncomputable def c14 : Con := ⟨i14, o14, fun x => F14 x.1.1 x.1.2.1⟩
theorem e14 (x : i14.E) : vfn Try.prog C14 LO14 Try.f14 b14 i14 o14 x = F14 x.1.1 x.1.2.1 := by kernel_rfl
theorem c14_ok : Con.OK Try.prog 14 c14 := (fn_ok C14_ok Try.func14 body14 (loops_of (l := []) (by kernel_rfl) (show LoopsOK Try.prog Try.f14.ntmps [] LO14 from trivial)) i14 o14).congr fun x => (e14 x).symm
noncomputable def b18 : Code := (.seq (.region 0 (regOf Try.f18 0) false) (.seq (.seq (.region 1 (regOf Try.f18 1) false) (.cond (.tmp 12) (.seq (.region 2 (regOf Try.f18 2) false) .ret) .skip)) (.seq (.region 3 (regOf Try.f18 3) false) .ret)))
theorem body18 : Try.f18.body = some b18 := by kernel_rfl
noncomputable def C18 : Tab := []
theorem C18_ok : TabOK Try.prog C18 := trivial
noncomputable def LO18 : Tab := []
noncomputable def i18 : Tm := { sl := [(0, .v (.l (.i .u64))), (1, .v (.i .i64))], bx := [], bf := [] }
noncomputable def o18 : OT := (.ret { sl := [(0, .v (.i .u64))], bx := [], bf := [] })
/-- (anabranch/vector.Vector).Get -/
noncomputable def F18 (a0 : (List Int)) (a1 : Int) : Option ((Int × Unit) × Unit × Unit) :=
  (bif (decide ((a1 : Int) < 0)) then (some ((0, ()), (), ())) else (bif (decide ((a1 : Int) ≥ (((a0).length : Nat) : Int))) then (some ((0, ()), (), ())) else (bif (decide (0 ≤ (a1 : Int) ∧ (a1 : Int) < (((a0).length : Nat) : Int))) then (some ((((a0).getD (a1 : Int).toNat (0 : Int)), ()), (), ())) else none)))
noncomputable def c18 : Con := ⟨i18, o18, fun x => F18 x.1.1 x.1.2.1⟩
theorem e18 (x : i18.E) : vfn Try.prog C18 LO18 Try.f18 b18 i18 o18 x = F18 x.1.1 x.1.2.1 := by kernel_rfl
theorem c18_ok : Con.OK Try.prog 18 c18 := (fn_ok C18_ok Try.func18 body18 (loops_of (l := []) (by kernel_rfl) (show LoopsOK Try.prog Try.f18.ntmps [] LO18 from trivial)) i18 o18).congr fun x => (e18 x).symm
noncomputable def l19_2 : Code := (.seq (.region 2 (regOf Try.f19 2) false) (.seq (.cond (.tmp 10) .skip (.exit 0)) (.seq (.block 1 (.seq (.region 3 (regOf Try.f19 3) false) (.seq (.region 4 (regOf Try.f19 4) false) (.cond (.tmp 18) (.seq (.region 5 (regOf Try.f19 5) false) .ret) .skip)))) (.region 6 (regOf Try.f19 6) false))))
noncomputable def b19 : Code := (.seq (.region 0 (regOf Try.f19 0) false) (.seq (.seq (.region 1 (regOf Try.f19 1) false) (.block 0 (.loop l19_2))) (.seq (.region 7 (regOf Try.f19 7) false) .ret)))
theorem body19 : Try.f19.body = some b19 := by kernel_rfl
noncomputable def C19_2 : Tab := [(18, c18)]
theorem C19_2_ok : TabOK Try.prog C19_2 := ⟨c18_ok, trivial⟩
noncomputable def LO19_2 : Tab := []
noncomputable def i19_2 : Tm := { sl := [(1, .v (.l (.i .u64))), (7, .v (.l (.i .u64))), (8, .v (.i .i64)), (9, .v (.i .i64))], bx := [], bf := [] }
noncomputable def o19_2 : OT := (.two (.ret { sl := [(4, .v .b)], bx := [], bf := [] }) (.exit 0 { sl := [], bx := [], bf := [] }))
noncomputable def T19_2 (a1 : (List Int)) (a7 : (List Int)) (a8 : Int) (a9 : Int) : Option ((((List Int) × ((List Int) × (Int × (Int × Unit)))) × Unit × Unit) ⊕ (((Bool × Unit) × Unit × Unit) ⊕ (Unit × Unit × Unit))) :=
  (bif (decide ((a9 : Int) < a8)) then (bif (decide (0 ≤ (a9 : Int) ∧ (a9 : Int) < (((a7).length : Nat) : Int))) then ((F18 a1 a9).bind fun y2 => (bif (decide ((((a7).getD (a9 : Int).toNat (0 : Int)) : Int) > y2.1.1)) then (some (.inr (.inl ((false, ()), (), ())))) else (some (.inl ((a1, a7, a8, (IntKind.wrap .i64 (a9 + 1)), ()), (), ()))))) else none) else (some (.inr (.inr ((), (), ())))))
noncomputable def L19_2 (a1 : (List Int)) (a7 : (List Int)) (a8 : Int) (a9 : Int) : Option (((Bool × Unit) × Unit × Unit) ⊕ (Unit × Unit × Unit)) := loopF (fun x : (((List Int) × ((List Int) × (Int × (Int × Unit)))) × Unit × Unit) => T19_2 x.1.1 x.1.2.1 x.1.2.2.1 x.1.2.2.2.1) ((a1, a7, a8, a9, ()), (), ())
theorem L19_2_eq (a1 : (List Int)) (a7 : (List Int)) (a8 : Int) (a9 : Int) : L19_2 a1 a7 a8 a9 = (T19_2 a1 a7 a8 a9).bind (Sum.elim (fun x => L19_2 x.1.1 x.1.2.1 x.1.2.2.1 x.1.2.2.2.1) some) := loopF_eq _ _
noncomputable def k19_2 : Con := ⟨i19_2, o19_2, fun x => L19_2 x.1.1 x.1.2.1 x.1.2.2.1 x.1.2.2.2.1⟩
theorem e19_2 (x : i19_2.E) : vround Try.prog C19_2 LO19_2 Try.f19.ntmps l19_2 i19_2 o19_2 x = T19_2 x.1.1 x.1.2.1 x.1.2.2.1 x.1.2.2.2.1 := by kernel_rfl
theorem k19_2_ok : Con.LOK Try.prog Try.f19.ntmps l19_2 k19_2 := (loop_ok C19_2_ok (loops_of (l := []) (by kernel_rfl) (show LoopsOK Try.prog Try.f19.ntmps [] LO19_2 from trivial)) i19_2 o19_2).congr fun x => (congrArg (fun T => loopF T x) (funext e19_2)).symm
noncomputable def C19 : Tab := [(18, c18)]
theorem C19_ok : TabOK Try.prog C19 := ⟨c18_ok, trivial⟩
noncomputable def LO19 : Tab := [(2, k19_2)]
noncomputable def i19 : Tm := { sl := [(0, .v (.l (.i .u64))), (1, .v (.l (.i .u64)))], bx := [], bf := [] }
noncomputable def o19 : OT := (.ret { sl := [(0, .v .b)], bx := [], bf := [] })
/-- (anabranch/vector.Vector).Within -/
noncomputable def F19 (a0 : (List Int)) (a1 : (List Int)) : Option ((Bool × Unit) × Unit × Unit) :=
  ((L19_2 a1 a0 (((a0).length : Nat) : Int) 0).bind fun y3 => (Sum.elim (fun y4 => (some ((y4.1.1, ()), (), ()))) (fun y4 => (some ((true, ()), (), ()))) y3))
noncomputable def c19 : Con := ⟨i19, o19, fun x => F19 x.1.1 x.1.2.1⟩
theorem e19 (x : i19.E) : vfn Try.prog C19 LO19 Try.f19 b19 i19 o19 x = F19 x.1.1 x.1.2.1 := by kernel_rfl
theorem c19_ok : Con.OK Try.prog 19 c19 := (fn_ok C19_ok Try.func19 body19 (loops_of (l := [l19_2]) (by kernel_rfl) (show LoopsOK Try.prog Try.f19.ntmps [l19_2] LO19 from ⟨k19_2_ok, trivial⟩)) i19 o19).congr fun x => (e19 x).symm
noncomputable def l20_2 : Code := (.seq (.seq (.region 2 (regOf Try.f20 2) false) (.cond (.tmp 9) .skip (.exit 0))) (.seq (.block 1 (.seq (.region 4 (regOf Try.f20 4) true) (.cond (.tmp 19) (.seq (.region 5 (regOf Try.f20 5) false) .ret) .skip))) (.region 3 (regOf Try.f20 3) false)))
noncomputable def b20 : Code := (.seq (.region 0 (regOf Try.f20 0) false) (.seq (.seq (.region 1 (regOf Try.f20 1) false) (.block 0 (.loop l20_2))) (.seq (.region 6 (regOf Try.f20 6) false) .ret)))
theorem body20 : Try.f20.body = some b20 := by kernel_rfl
noncomputable def C20_2 : Tab := [(14, c14)]
theorem C20_2_ok : TabOK Try.prog C20_2 := ⟨c14_ok, trivial⟩
noncomputable def LO20_2 : Tab := []
noncomputable def i20_2 : Tm := { sl := [(0, .v (.l (.i .u64))), (1, .v (.l (.i .u64))), (5, .v (.i .i64))], bx := [], bf := [] }
noncomputable def o20_2 : OT := (.two (.ret { sl := [(4, .v .b)], bx := [], bf := [] }) (.exit 0 { sl := [], bx := [], bf := [] }))
noncomputable def T20_2 (a0 : (List Int)) (a1 : (List Int)) (a5 : Int) : Option ((((List Int) × ((List Int) × (Int × Unit))) × Unit × Unit) ⊕ (((Bool × Unit) × Unit × Unit) ⊕ (Unit × Unit × Unit))) :=
  (bif (decide ((a5 : Int) < (((a0).length : Nat) : Int))) then (bif (decide (0 ≤ (a5 : Int) ∧ (a5 : Int) < (((a0).length : Nat) : Int))) then ((F14 a1 a5).bind fun y6 => (bif (decide ((((a0).getD (a5 : Int).toNat (0 : Int)) : Int) > y6.1.1)) then (some (.inr (.inl ((false, ()), (), ())))) else (some (.inl ((a0, a1, (IntKind.wrap .i64 (a5 + 1)), ()), (), ()))))) else none) else (some (.inr (.inr ((), (), ())))))
noncomputable def L20_2 (a0 : (List Int)) (a1 : (List Int)) (a5 : Int) : Option (((Bool × Unit) × Unit × Unit) ⊕ (Unit × Unit × Unit)) := loopF (fun x : (((List Int) × ((List Int) × (Int × Unit))) × Unit × Unit) => T20_2 x.1.1 x.1.2.1 x.1.2.2.1) ((a0, a1, a5, ()), (), ())
theorem L20_2_eq (a0 : (List Int)) (a1 : (List Int)) (a5 : Int) : L20_2 a0 a1 a5 = (T20_2 a0 a1 a5).bind (Sum.elim (fun x => L20_2 x.1.1 x.1.2.1 x.1.2.2.1) some) := loopF_eq _ _
noncomputable def k20_2 : Con := ⟨i20_2, o20_2, fun x => L20_2 x.1.1 x.1.2.1 x.1.2.2.1⟩
theorem e20_2 (x : i20_2.E) : vround Try.prog C20_2 LO20_2 Try.f20.ntmps l20_2 i20_2 o20_2 x = T20_2 x.1.1 x.1.2.1 x.1.2.2.1 := by kernel_rfl
theorem k20_2_ok : Con.LOK Try.prog Try.f20.ntmps l20_2 k20_2 := (loop_ok C20_2_ok (loops_of (l := []) (by kernel_rfl) (show LoopsOK Try.prog Try.f20.ntmps [] LO20_2 from trivial)) i20_2 o20_2).congr fun x => (congrArg (fun T => loopF T x) (funext e20_2)).symm
noncomputable def C20 : Tab := [(14, c14)]
theorem C20_ok : TabOK Try.prog C20 := ⟨c14_ok, trivial⟩
noncomputable def LO20 : Tab := [(2, k20_2)]
noncomputable def i20 : Tm := { sl := [(0, .v (.l (.i .u64))), (1, .v (.l (.i .u64)))], bx := [], bf := [] }
noncomputable def o20 : OT := (.ret { sl := [(0, .v .b)], bx := [], bf := [] })
/-- anabranch/anabranchref06.Within -/
noncomputable def F20 (a0 : (List Int)) (a1 : (List Int)) : Option ((Bool × Unit) × Unit × Unit) :=
  ((L20_2 a0 a1 0).bind fun y7 => (Sum.elim (fun y8 => (some ((y8.1.1, ()), (), ()))) (fun y8 => (some ((true, ()), (), ()))) y7))
noncomputable def c20 : Con := ⟨i20, o20, fun x => F20 x.1.1 x.1.2.1⟩
theorem e20 (x : i20.E) : vfn Try.prog C20 LO20 Try.f20 b20 i20 o20 x = F20 x.1.1 x.1.2.1 := by kernel_rfl
theorem c20_ok : Con.OK Try.prog 20 c20 := (fn_ok C20_ok Try.func20 body20 (loops_of (l := [l20_2]) (by kernel_rfl) (show LoopsOK Try.prog Try.f20.ntmps [l20_2] LO20 from ⟨k20_2_ok, trivial⟩)) i20 o20).congr fun x => (e20 x).symm
noncomputable def b21 : Code := (.seq (.region 0 (regOf Try.f21 0) false) (.seq (.region 1 (regOf Try.f21 1) false) .ret))
theorem body21 : Try.f21.body = some b21 := by kernel_rfl
noncomputable def C21 : Tab := [(19, c19)]
theorem C21_ok : TabOK Try.prog C21 := ⟨c19_ok, trivial⟩
noncomputable def LO21 : Tab := []
noncomputable def i21 : Tm := { sl := [(0, .v (.l (.i .u64))), (1, .v (.l (.i .u64)))], bx := [], bf := [] }
noncomputable def o21 : OT := (.ret { sl := [(0, .v .b)], bx := [], bf := [] })
/-- anabranch/vector.Same -/
noncomputable def F21 (a0 : (List Int)) (a1 : (List Int)) : Option ((Bool × Unit) × Unit × Unit) :=
  ((F19 a0 a1).bind fun y9 => (bif y9.1.1 then ((F19 a1 a0).bind fun y10 => (some ((y10.1.1, ()), (), ()))) else (some ((false, ()), (), ()))))
noncomputable def c21 : Con := ⟨i21, o21, fun x => F21 x.1.1 x.1.2.1⟩
theorem e21 (x : i21.E) : vfn Try.prog C21 LO21 Try.f21 b21 i21 o21 x = F21 x.1.1 x.1.2.1 := by kernel_rfl
theorem c21_ok : Con.OK Try.prog 21 c21 := (fn_ok C21_ok Try.func21 body21 (loops_of (l := []) (by kernel_rfl) (show LoopsOK Try.prog Try.f21.ntmps [] LO21 from trivial)) i21 o21).congr fun x => (e21 x).symm
noncomputable def b22 : Code := (.seq (.region 0 (regOf Try.f22 0) false) (.seq (.region 1 (regOf Try.f22 1) false) .ret))
theorem body22 : Try.f22.body = some b22 := by kernel_rfl
noncomputable def C22 : Tab := [(19, c19)]
theorem C22_ok : TabOK Try.prog C22 := ⟨c19_ok, trivial⟩
noncomputable def LO22 : Tab := []
noncomputable def i22 : Tm := { sl := [(0, .v (.l (.i .u64))), (1, .v (.l (.i .u64)))], bx := [], bf := [] }
noncomputable def o22 : OT := (.ret { sl := [(0, .v .b)], bx := [], bf := [] })
/-- anabranch/vector.Apart -/
noncomputable def F22 (a0 : (List Int)) (a1 : (List Int)) : Option ((Bool × Unit) × Unit × Unit) :=
  ((F19 a0 a1).bind fun y11 => (bif (!y11.1.1) then ((F19 a1 a0).bind fun y12 => (some (((!y12.1.1), ()), (), ()))) else (some ((false, ()), (), ()))))
noncomputable def c22 : Con := ⟨i22, o22, fun x => F22 x.1.1 x.1.2.1⟩
theorem e22 (x : i22.E) : vfn Try.prog C22 LO22 Try.f22 b22 i22 o22 x = F22 x.1.1 x.1.2.1 := by kernel_rfl
theorem c22_ok : Con.OK Try.prog 22 c22 := (fn_ok C22_ok Try.func22 body22 (loops_of (l := []) (by kernel_rfl) (show LoopsOK Try.prog Try.f22.ntmps [] LO22 from trivial)) i22 o22).congr fun x => (e22 x).symm
noncomputable def l15_3 : Code := (.seq (.region 3 (regOf Try.f15 3) false) (.seq (.cond (.tmp 12) .skip (.exit 0)) (.seq (.block 1 (.seq (.region 4 (regOf Try.f15 4) false) (.seq (.region 5 (regOf Try.f15 5) false) (.seq (.seq (.region 6 (regOf Try.f15 6) false) (.cond (.tmp 27) (.seq (.region 7 (regOf Try.f15 7) false) .ret) .skip)) (.region 8 (regOf Try.f15 8) false))))) (.region 9 (regOf Try.f15 9) false))))
noncomputable def b15 : Code := (.seq (.region 0 (regOf Try.f15 0) false) (.seq (.region 1 (regOf Try.f15 1) false) (.seq (.seq (.region 2 (regOf Try.f15 2) false) (.block 0 (.loop l15_3))) (.seq (.region 10 (regOf Try.f15 10) false) .ret))))
theorem body15 : Try.f15.body = some b15 := by kernel_rfl
noncomputable def C15_3 : Tab := [(18, c18)]
theorem C15_3_ok : TabOK Try.prog C15_3 := ⟨c18_ok, trivial⟩
noncomputable def LO15_3 : Tab := []
noncomputable def i15_3 : Tm := { sl := [(1, .v (.l (.i .u64))), (5, .v (.i .u64)), (9, .v (.l (.i .u64))), (10, .v (.i .i64)), (11, .v (.i .i64))], bx := [], bf := [] }
noncomputable def o15_3 : OT := (.two (.ret { sl := [(4, .v (.i .u64))], bx := [], bf := [] }) (.exit 0 { sl := [(5, .v (.i .u64))], bx := [], bf := [] }))
noncomputable def T15_3 (a1 : (List Int)) (a5 : Int) (a9 : (List Int)) (a10 : Int) (a11 : Int) : Option ((((List Int) × (Int × ((List Int) × (Int × (Int × Unit))))) × Unit × Unit) ⊕ (((Int × Unit) × Unit × Unit) ⊕ ((Int × Unit) × Unit × Unit))) :=
  (bif (decide ((a11 : Int) < a10)) then (bif (decide (0 ≤ (a11 : Int) ∧ (a11 : Int) < (((a9).length : Nat) : Int))) then ((F18 a1 a11).bind fun y14 => (bif (decide (((IntKind.wrap .u64 (a5 + (IntKind.wrap .u64 (((a9).getD (a11 : Int).toNat (0 : Int)) - (if (y14.1.1 : Int) < ((a9).getD (a11 : Int).toNat (0 : Int)) then y14.1.1 else ((a9).getD (a11 : Int).toNat (0 : Int))))))) : Int) < a5)) then (some (.inr (.inl ((18446744073709551615, ()), (), ())))) else (some (.inl ((a1, (IntKind.wrap .u64 (a5 + (IntKind.wrap .u64 (((a9).getD (a11 : Int).toNat (0 : Int)) - (if (y14.1.1 : Int) < ((a9).getD (a11 : Int).toNat (0 : Int)) then y14.1.1 else ((a9).getD (a11 : Int).toNat (0 : Int))))))), a9, a10, (IntKind.wrap .i64 (a11 + 1)), ()), (), ()))))) else none) else (some (.inr (.inr ((a5, ()), (), ())))))
noncomputable def L15_3 (a1 : (List Int)) (a5 : Int) (a9 : (List Int)) (a10 : Int) (a11 : Int) : Option (((Int × Unit) × Unit × Unit) ⊕ ((Int × Unit) × Unit × Unit)) := loopF (fun x : (((List Int) × (Int × ((List Int) × (Int × (Int × Unit))))) × Unit × Unit) => T15_3 x.1.1 x.1.2.1 x.1.2.2.1 x.1.2.2.2.1 x.1.2.2.2.2.1) ((a1, a5, a9, a10, a11, ()), (), ())
theorem L15_3_eq (a1 : (List Int)) (a5 : Int) (a9 : (List Int)) (a10 : Int) (a11 : Int) : L15_3 a1 a5 a9 a10 a11 = (T15_3 a1 a5 a9 a10 a11).bind (Sum.elim (fun x => L15_3 x.1.1 x.1.2.1 x.1.2.2.1 x.1.2.2.2.1 x.1.2.2.2.2.1) some) := loopF_eq _ _
noncomputable def k15_3 : Con := ⟨i15_3, o15_3, fun x => L15_3 x.1.1 x.1.2.1 x.1.2.2.1 x.1.2.2.2.1 x.1.2.2.2.2.1⟩
theorem e15_3 (x : i15_3.E) : vround Try.prog C15_3 LO15_3 Try.f15.ntmps l15_3 i15_3 o15_3 x = T15_3 x.1.1 x.1.2.1 x.1.2.2.1 x.1.2.2.2.1 x.1.2.2.2.2.1 := by kernel_rfl
theorem k15_3_ok : Con.LOK Try.prog Try.f15.ntmps l15_3 k15_3 := (loop_ok C15_3_ok (loops_of (l := []) (by kernel_rfl) (show LoopsOK Try.prog Try.f15.ntmps [] LO15_3 from trivial)) i15_3 o15_3).congr fun x => (congrArg (fun T => loopF T x) (funext e15_3)).symm
noncomputable def C15 : Tab := [(18, c18)]
theorem C15_ok : TabOK Try.prog C15 := ⟨c18_ok, trivial⟩
noncomputable def LO15 : Tab := [(3, k15_3)]
noncomputable def i15 : Tm := { sl := [(0, .v (.l (.i .u64))), (1, .v (.l (.i .u64)))], bx := [], bf := [] }
noncomputable def o15 : OT := (.ret { sl := [(0, .v (.i .u64))], bx := [], bf := [] })
/-- (anabranch/vector.Vector).Lack -/
noncomputable def F15 (a0 : (List Int)) (a1 : (List Int)) : Option ((Int × Unit) × Unit × Unit) :=
  ((L15_3 a1 0 a0 (((a0).length : Nat) : Int) 0).bind fun y15 => (Sum.elim (fun y16 => (some ((y16.1.1, ()), (), ()))) (fun y16 => (some ((y16.1.1, ()), (), ()))) y15))
noncomputable def c15 : Con := ⟨i15, o15, fun x => F15 x.1.1 x.1.2.1⟩
theorem e15 (x : i15.E) : vfn Try.prog C15 LO15 Try.f15 b15 i15 o15 x = F15 x.1.1 x.1.2.1 := by kernel_rfl
theorem c15_ok : Con.OK Try.prog 15 c15 := (fn_ok C15_ok Try.func15 body15 (loops_of (l := [l15_3]) (by kernel_rfl) (show LoopsOK Try.prog Try.f15.ntmps [l15_3] LO15 from ⟨k15_3_ok, trivial⟩)) i15 o15).congr fun x => (e15 x).symm
noncomputable def b70 : Code := (.seq (.region 0 (regOf Try.f70 0) false) (.seq (.seq (.region 1 (regOf Try.f70 1) false) (.cond (.tmp 4) (.seq (.region 2 (regOf Try.f70 2) false) .ret) .skip)) (.seq (.region 3 (regOf Try.f70 3) false) .ret)))
theorem body70 : Try.f70.body = some b70 := by kernel_rfl
noncomputable def C70 : Tab := []
theorem C70_ok : TabOK Try.prog C70 := trivial
noncomputable def LO70 : Tab := []
noncomputable def i70 : Tm := { sl := [(0, .v (.l (.i .u64)))], bx := [], bf := [] }
noncomputable def o70 : OT := (.ret { sl := [(0, .v (.l (.i .u64)))], bx := [], bf := [] })
/-- slices.Clone[anabranch/vector.Vector,uint64] -/
noncomputable def F70 (a0 : (List Int)) : Option (((List Int) × Unit) × Unit × Unit) :=
  (nilBr (a0).length (some (([], ()), (), ())) (bif (decide ((([] : List Int)).length + (a0).length < lim)) then (some (((([] : List Int) ++ a0), ()), (), ())) else none))
noncomputable def c70 : Con := ⟨i70, o70, fun x => F70 x.1.1⟩
theorem e70 (x : i70.E) : vfn Try.prog C70 LO70 Try.f70 b70 i70 o70 x = F70 x.1.1 := by kernel_rfl
theorem c70_ok : Con.OK Try.prog 70 c70 := (fn_ok C70_ok Try.func70 body70 (loops_of (l := []) (by kernel_rfl) (show LoopsOK Try.prog Try.f70.ntmps [] LO70 from trivial)) i70 o70).congr fun x => (e70 x).symm
noncomputable def l55_2 : Code := (.seq (.seq (.region 2 (regOf Try.f55 2) false) (.cond (.tmp 15) .skip (.exit 0))) (.block 1 (.region 3 (regOf Try.f55 3) false)))
noncomputable def b55 : Code := (.seq (.region 0 (regOf Try.f55 0) false) (.seq (.region 1 (regOf Try.f55 1) false) (.seq (.block 0 (.loop l55_2)) (.seq (.region 4 (regOf Try.f55 4) false) .ret))))
theorem body55 : Try.f55.body = some b55 := by kernel_rfl
noncomputable def C55_2 : Tab := []
theorem C55_2_ok : TabOK Try.prog C55_2 := trivial
noncomputable def LO55_2 : Tab := []
noncomputable def i55_2 : Tm := { sl := [(0, .v (.l (.i .u64))), (3, .v (.i .i64))], bx := [], bf := [] }
noncomputable def o55_2 : OT := (.exit 0 { sl := [(3, .v (.i .i64))], bx := [], bf := [] })
noncomputable def T55_2 (a0 : (List Int)) (a3 : Int) : Option ((((List Int) × (Int × Unit)) × Unit × Unit) ⊕ ((Int × Unit) × Unit × Unit)) :=
  (bif (decide ((a3 : Int) > 0)) then (bif (decide (0 ≤ ((IntKind.wrap .i64 (a3 - 1)) : Int) ∧ ((IntKind.wrap .i64 (a3 - 1)) : Int) < (((a0).length : Nat) : Int))) then (bif ((((a0).getD ((IntKind.wrap .i64 (a3 - 1)) : Int).toNat (0 : Int)) : Int) == 0) then (some (.inl ((a0, (IntKind.wrap .i64 (a3 - 1)), ()), (), ()))) else (some (.inr ((a3, ()), (), ())))) else none) else (some (.inr ((a3, ()), (), ()))))
noncomputable def L55_2 (a0 : (List Int)) (a3 : Int) : Option ((Int × Unit) × Unit × Unit) := loopF (fun x : (((List Int) × (Int × Unit)) × Unit × Unit) => T55_2 x.1.1 x.1.2.1) ((a0, a3, ()), (), ())
theorem L55_2_eq (a0 : (List Int)) (a3 : Int) : L55_2 a0 a3 = (T55_2 a0 a3).bind (Sum.elim (fun x => L55_2 x.1.1 x.1.2.1) some) := loopF_eq _ _
noncomputable def k55_2 : Con := ⟨i55_2, o55_2, fun x => L55_2 x.1.1 x.1.2.1⟩
theorem e55_2 (x : i55_2.E) : vround Try.prog C55_2 LO55_2 Try.f55.ntmps l55_2 i55_2 o55_2 x = T55_2 x.1.1 x.1.2.1 := by kernel_rfl
theorem k55_2_ok : Con.LOK Try.prog Try.f55.ntmps l55_2 k55_2 := (loop_ok C55_2_ok (loops_of (l := []) (by kernel_rfl) (show LoopsOK Try.prog Try.f55.ntmps [] LO55_2 from trivial)) i55_2 o55_2).congr fun x => (congrArg (fun T => loopF T x) (funext e55_2)).symm
noncomputable def C55 : Tab := [(70, c70)]
theorem C55_ok : TabOK Try.prog C55 := ⟨c70_ok, trivial⟩
noncomputable def LO55 : Tab := [(2, k55_2)]
noncomputable def i55 : Tm := { sl := [(0, .v (.l (.i .u64)))], bx := [], bf := [] }
noncomputable def o55 : OT := (.ret { sl := [(0, .v (.l (.i .u64)))], bx := [], bf := [] })
/-- (anabranch/vector.Vector).Trim -/
noncomputable def F55 (a0 : (List Int)) : Option (((List Int) × Unit) × Unit × Unit) :=
  ((L55_2 a0 (((a0).length : Nat) : Int)).bind fun y17 => (bif (decide (0 ≤ (y17.1.1 : Int) ∧ (y17.1.1 : Int) ≤ (((a0).length : Nat) : Int))) then ((F70 ((a0).take (y17.1.1 : Int).toNat)).bind fun y18 => (some ((y18.1.1, ()), (), ()))) else none))
noncomputable def c55 : Con := ⟨i55, o55, fun x => F55 x.1.1⟩
theorem e55 (x : i55.E) : vfn Try.prog C55 LO55 Try.f55 b55 i55 o55 x = F55 x.1.1 := by kernel_rfl
theorem c55_ok : Con.OK Try.prog 55 c55 := (fn_ok C55_ok Try.func55 body55 (loops_of (l := [l55_2]) (by kernel_rfl) (show LoopsOK Try.prog Try.f55.ntmps [l55_2] LO55 from ⟨k55_2_ok, trivial⟩)) i55 o55).congr fun x => (e55 x).symm
noncomputable def b44 : Code := (.seq (.region 0 (regOf Try.f44 0) false) (.seq (.region 1 (regOf Try.f44 1) false) .ret))
theorem body44 : Try.f44.body = some b44 := by kernel_rfl
noncomputable def C44 : Tab := []
theorem C44_ok : TabOK Try.prog C44 := trivial
noncomputable def LO44 : Tab := []
noncomputable def i44 : Tm := { sl := [(0, .v (.i .u64)), (1, .v (.i .u64))], bx := [], bf := [] }
noncomputable def o44 : OT := (.ret { sl := [(0, .v (.i .u64))], bx := [], bf := [] })
/-- anabranch/vector.Join.1 -/
noncomputable def F44 (a0 : Int) (a1 : Int) : Option ((Int × Unit) × Unit × Unit) :=
  (some (((if (a1 : Int) > a0 then a1 else a0), ()), (), ()))
noncomputable def c44 : Con := ⟨i44, o44, fun x => F44 x.1.1 x.1.2.1⟩
theorem e44 (x : i44.E) : vfn Try.prog C44 LO44 Try.f44 b44 i44 o44 x = F44 x.1.1 x.1.2.1 := by kernel_rfl
theorem c44_ok : Con.OK Try.prog 44 c44 := (fn_ok C44_ok Try.func44 body44 (loops_of (l := []) (by kernel_rfl) (show LoopsOK Try.prog Try.f44.ntmps [] LO44 from trivial)) i44 o44).congr fun x => (e44 x).symm
noncomputable def b45 : Code := (.seq (.region 0 (regOf Try.f45 0) false) (.seq (.region 1 (regOf Try.f45 1) false) .ret))
theorem body45 : Try.f45.body = some b45 := by kernel_rfl
noncomputable def C45 : Tab := []
theorem C45_ok : TabOK Try.prog C45 := trivial
noncomputable def LO45 : Tab := []
noncomputable def i45 : Tm := { sl := [(0, .v (.i .u64)), (1, .v (.i .u64))], bx := [], bf := [] }
noncomputable def o45 : OT := (.ret { sl := [(0, .v (.i .u64))], bx := [], bf := [] })
/-- anabranch/vector.Meet.1 -/
noncomputable def F45 (a0 : Int) (a1 : Int) : Option ((Int × Unit) × Unit × Unit) :=
  (some (((if (a1 : Int) < a0 then a1 else a0), ()), (), ()))
noncomputable def c45 : Con := ⟨i45, o45, fun x => F45 x.1.1 x.1.2.1⟩
theorem e45 (x : i45.E) : vfn Try.prog C45 LO45 Try.f45 b45 i45 o45 x = F45 x.1.1 x.1.2.1 := by kernel_rfl
theorem c45_ok : Con.OK Try.prog 45 c45 := (fn_ok C45_ok Try.func45 body45 (loops_of (l := []) (by kernel_rfl) (show LoopsOK Try.prog Try.f45.ntmps [] LO45 from trivial)) i45 o45).congr fun x => (e45 x).symm
noncomputable def l43j_3 : Code := (.seq (.region 3 (regOf Try.f43 3) false) (.seq (.cond (.tmp 15) .skip (.exit 0)) (.seq (.block 1 (.seq (.region 4 (regOf Try.f43 4) false) (.region 5 (regOf Try.f43 5) false))) (.region 6 (regOf Try.f43 6) false))))
noncomputable def b43j : Code := (.seq (.region 0 (regOf Try.f43 0) false) (.seq (.region 1 (regOf Try.f43 1) false) (.seq (.seq (.region 2 (regOf Try.f43 2) false) (.block 0 (.loop l43j_3))) (.seq (.region 7 (regOf Try.f43 7) false) .ret))))
theorem body43j : Try.f43.body = some b43j := by kernel_rfl
noncomputable def C43j_3 : Tab := [(18, c18), (44, c44)]
theorem C43j_3_ok : TabOK Try.prog C43j_3 := ⟨c18_ok, c44_ok, trivial⟩
noncomputable def LO43j_3 : Tab := []
noncomputable def i43j_3 : Tm := { sl := [(0, .v (.l (.i .u64))), (1, .v (.l (.i .u64))), (2, .fn 44), (7, .o 0), (13, .v (.i .i64)), (14, .v (.i .i64))], bx := [], bf := [(.i .u64)] }
noncomputable def o43j_3 : OT := (.exit 0 { sl := [(7, .o 0)], bx := [], bf := [(.i .u64)] })
noncomputable def T43j_3 (a0 : (List Int)) (a1 : (List Int)) (a13 : Int) (a14 : Int) (q0 : (List Int)) : Option ((((List Int) × ((List Int) × (Unit × (Unit × (Int × (Int × Unit)))))) × Unit × ((List Int) × Unit)) ⊕ ((Unit × Unit) × Unit × ((List Int) × Unit))) :=
  (bif (decide ((a14 : Int) < a13)) then ((F18 a0 a14).bind fun y22 => ((F18 a1 a14).bind fun y23 => ((F44 y22.1.1 y23.1.1).bind fun y24 => (bif (decide ((q0).length + ([y24.1.1]).length < lim)) then (some (.inl ((a0, a1, (), (), a13, (IntKind.wrap .i64 (a14 + 1)), ()), (), ((q0 ++ [y24.1.1]), ())))) else none)))) else (some (.inr (((), ()), (), (q0, ())))))
noncomputable def L43j_3 (a0 : (List Int)) (a1 : (List Int)) (a13 : Int) (a14 : Int) (q0 : (List Int)) : Option ((Unit × Unit) × Unit × ((List Int) × Unit)) := loopF (fun x : (((List Int) × ((List Int) × (Unit × (Unit × (Int × (Int × Unit)))))) × Unit × ((List Int) × Unit)) => T43j_3 x.1.1 x.1.2.1 x.1.2.2.2.2.1 x.1.2.2.2.2.2.1 x.2.2.1) ((a0, a1, (), (), a13, a14, ()), (), (q0, ()))
theorem L43j_3_eq (a0 : (List Int)) (a1 : (List Int)) (a13 : Int) (a14 : Int) (q0 : (List Int)) : L43j_3 a0 a1 a13 a14 q0 = (T43j_3 a0 a1 a13 a14 q0).bind (Sum.elim (fun x => L43j_3 x.1.1 x.1.2.1 x.1.2.2.2.2.1 x.1.2.2.2.2.2.1 x.2.2.1) some) := loopF_eq _ _
noncomputable def k43j_3 : Con := ⟨i43j_3, o43j_3, fun x => L43j_3 x.1.1 x.1.2.1 x.1.2.2.2.2.1 x.1.2.2.2.2.2.1 x.2.2.1⟩
theorem e43j_3 (x : i43j_3.E) : vround Try.prog C43j_3 LO43j_3 Try.f43.ntmps l43j_3 i43j_3 o43j_3 x = T43j_3 x.1.1 x.1.2.1 x.1.2.2.2.2.1 x.1.2.2.2.2.2.1 x.2.2.1 := by kernel_rfl
theorem k43j_3_ok : Con.LOK Try.prog Try.f43.ntmps l43j_3 k43j_3 := (loop_ok C43j_3_ok (loops_of (l := []) (by kernel_rfl) (show LoopsOK Try.prog Try.f43.ntmps [] LO43j_3 from trivial)) i43j_3 o43j_3).congr fun x => (congrArg (fun T => loopF T x) (funext e43j_3)).symm
noncomputable def C43j : Tab := [(18, c18), (44, c44), (55, c55)]
theorem C43j_ok : TabOK Try.prog C43j := ⟨c18_ok, c44_ok, c55_ok, trivial⟩
noncomputable def LO43j : Tab := [(3, k43j_3)]
noncomputable def i43j : Tm := { sl := [(0, .v (.l (.i .u64))), (1, .v (.l (.i .u64))), (2, .fn 44)], bx := [], bf := [] }
noncomputable def o43j : OT := (.ret { sl := [(0, .v (.l (.i .u64)))], bx := [], bf := [] })
/-- anabranch/vector.pair -/
noncomputable def F43j (a0 : (List Int)) (a1 : (List Int)) : Option (((List Int) × Unit) × Unit × Unit) :=
  ((L43j_3 a0 a1 (if ((((a1).length : Nat) : Int) : Int) > (((a0).length : Nat) : Int) then (((a1).length : Nat) : Int) else (((a0).length : Nat) : Int)) 0 ([] : List Int)).bind fun y25 => ((F55 y25.2.2.1).bind fun y26 => (some ((y26.1.1, ()), (), ()))))
noncomputable def c43j : Con := ⟨i43j, o43j, fun x => F43j x.1.1 x.1.2.1⟩
theorem e43j (x : i43j.E) : vfn Try.prog C43j LO43j Try.f43 b43j i43j o43j x = F43j x.1.1 x.1.2.1 := by kernel_rfl
theorem c43j_ok : Con.OK Try.prog 43 c43j := (fn_ok C43j_ok Try.func43 body43j (loops_of (l := [l43j_3]) (by kernel_rfl) (show LoopsOK Try.prog Try.f43.ntmps [l43j_3] LO43j from ⟨k43j_3_ok, trivial⟩)) i43j o43j).congr fun x => (e43j x).symm
noncomputable def b16 : Code := (.seq (.region 0 (regOf Try.f16 0) false) (.seq (.region 1 (regOf Try.f16 1) false) .ret))
theorem body16 : Try.f16.body = some b16 := by kernel_rfl
noncomputable def C16 : Tab := [(43, c43j)]
theorem C16_ok : TabOK Try.prog C16 := ⟨c43j_ok, trivial⟩
noncomputable def LO16 : Tab := []
noncomputable def i16 : Tm := { sl := [(0, .v (.l (.i .u64))), (1, .v (.l (.i .u64)))], bx := [], bf := [] }
noncomputable def o16 : OT := (.ret { sl := [(0, .v (.l (.i .u64)))], bx := [], bf := [] })
/-- anabranch/vector.Join -/
noncomputable def F16 (a0 : (List Int)) (a1 : (List Int)) : Option (((List Int) × Unit) × Unit × Unit) :=
  ((F43j a0 a1).bind fun y27 => (some ((y27.1.1, ()), (), ())))
noncomputable def c16 : Con := ⟨i16, o16, fun x => F16 x.1.1 x.1.2.1⟩
theorem e16 (x : i16.E) : vfn Try.prog C16 LO16 Try.f16 b16 i16 o16 x = F16 x.1.1 x.1.2.1 := by kernel_rfl
theorem c16_ok : Con.OK Try.prog 16 c16 := (fn_ok C16_ok Try.func16 body16 (loops_of (l := []) (by kernel_rfl) (show LoopsOK Try.prog Try.f16.ntmps [] LO16 from trivial)) i16 o16).congr fun x => (e16 x).symm
noncomputable def l43m_3 : Code := (.seq (.region 3 (regOf Try.f43 3) false) (.seq (.cond (.tmp 15) .skip (.exit 0)) (.seq (.block 1 (.seq (.region 4 (regOf Try.f43 4) false) (.region 5 (regOf Try.f43 5) false))) (.region 6 (regOf Try.f43 6) false))))
noncomputable def b43m : Code := (.seq (.region 0 (regOf Try.f43 0) false) (.seq (.region 1 (regOf Try.f43 1) false) (.seq (.seq (.region 2 (regOf Try.f43 2) false) (.block 0 (.loop l43m_3))) (.seq (.region 7 (regOf Try.f43 7) false) .ret))))
theorem body43m : Try.f43.body = some b43m := by kernel_rfl
noncomputable def C43m_3 : Tab := [(18, c18), (45, c45)]
theorem C43m_3_ok : TabOK Try.prog C43m_3 := ⟨c18_ok, c45_ok, trivial⟩
noncomputable def LO43m_3 : Tab := []
noncomputable def i43m_3 : Tm := { sl := [(0, .v (.l (.i .u64))), (1, .v (.l (.i .u64))), (2, .fn 45), (7, .o 0), (13, .v (.i .i64)), (14, .v (.i .i64))], bx := [], bf := [(.i .u64)] }
noncomputable def o43m_3 : OT := (.exit 0 { sl := [(7, .o 0)], bx := [], bf := [(.i .u64)] })
noncomputable def T43m_3 (a0 : (List Int)) (a1 : (List Int)) (a13 : Int) (a14 : Int) (q0 : (List Int)) : Option ((((List Int) × ((List Int) × (Unit × (Unit × (Int × (Int × Unit)))))) × Unit × ((List Int) × Unit)) ⊕ ((Unit × Unit) × Unit × ((List Int) × Unit))) :=
  (bif (decide ((a14 : Int) < a13)) then ((F18 a0 a14).bind fun y31 => ((F18 a1 a14).bind fun y32 => ((F45 y31.1.1 y32.1.1).bind fun y33 => (bif (decide ((q0).length + ([y33.1.1]).length < lim)) then (some (.inl ((a0, a1, (), (), a13, (IntKind.wrap .i64 (a14 + 1)), ()), (), ((q0 ++ [y33.1.1]), ())))) else none)))) else (some (.inr (((), ()), (), (q0, ())))))
noncomputable def L43m_3 (a0 : (List Int)) (a1 : (List Int)) (a13 : Int) (a14 : Int) (q0 : (List Int)) : Option ((Unit × Unit) × Unit × ((List Int) × Unit)) := loopF (fun x : (((List Int) × ((List Int) × (Unit × (Unit × (Int × (Int × Unit)))))) × Unit × ((List Int) × Unit)) => T43m_3 x.1.1 x.1.2.1 x.1.2.2.2.2.1 x.1.2.2.2.2.2.1 x.2.2.1) ((a0, a1, (), (), a13, a14, ()), (), (q0, ()))
theorem L43m_3_eq (a0 : (List Int)) (a1 : (List Int)) (a13 : Int) (a14 : Int) (q0 : (List Int)) : L43m_3 a0 a1 a13 a14 q0 = (T43m_3 a0 a1 a13 a14 q0).bind (Sum.elim (fun x => L43m_3 x.1.1 x.1.2.1 x.1.2.2.2.2.1 x.1.2.2.2.2.2.1 x.2.2.1) some) := loopF_eq _ _
noncomputable def k43m_3 : Con := ⟨i43m_3, o43m_3, fun x => L43m_3 x.1.1 x.1.2.1 x.1.2.2.2.2.1 x.1.2.2.2.2.2.1 x.2.2.1⟩
theorem e43m_3 (x : i43m_3.E) : vround Try.prog C43m_3 LO43m_3 Try.f43.ntmps l43m_3 i43m_3 o43m_3 x = T43m_3 x.1.1 x.1.2.1 x.1.2.2.2.2.1 x.1.2.2.2.2.2.1 x.2.2.1 := by kernel_rfl
theorem k43m_3_ok : Con.LOK Try.prog Try.f43.ntmps l43m_3 k43m_3 := (loop_ok C43m_3_ok (loops_of (l := []) (by kernel_rfl) (show LoopsOK Try.prog Try.f43.ntmps [] LO43m_3 from trivial)) i43m_3 o43m_3).congr fun x => (congrArg (fun T => loopF T x) (funext e43m_3)).symm
noncomputable def C43m : Tab := [(18, c18), (45, c45), (55, c55)]
theorem C43m_ok : TabOK Try.prog C43m := ⟨c18_ok, c45_ok, c55_ok, trivial⟩
noncomputable def LO43m : Tab := [(3, k43m_3)]
noncomputable def i43m : Tm := { sl := [(0, .v (.l (.i .u64))), (1, .v (.l (.i .u64))), (2, .fn 45)], bx := [], bf := [] }
noncomputable def o43m : OT := (.ret { sl := [(0, .v (.l (.i .u64)))], bx := [], bf := [] })
/-- anabranch/vector.pair -/
noncomputable def F43m (a0 : (List Int)) (a1 : (List Int)) : Option (((List Int) × Unit) × Unit × Unit) :=
  ((L43m_3 a0 a1 (if ((((a1).length : Nat) : Int) : Int) > (((a0).length : Nat) : Int) then (((a1).length : Nat) : Int) else (((a0).length : Nat) : Int)) 0 ([] : List Int)).bind fun y34 => ((F55 y34.2.2.1).bind fun y35 => (some ((y35.1.1, ()), (), ()))))
noncomputable def c43m : Con := ⟨i43m, o43m, fun x => F43m x.1.1 x.1.2.1⟩
theorem e43m (x : i43m.E) : vfn Try.prog C43m LO43m Try.f43 b43m i43m o43m x = F43m x.1.1 x.1.2.1 := by kernel_rfl
theorem c43m_ok : Con.OK Try.prog 43 c43m := (fn_ok C43m_ok Try.func43 body43m (loops_of (l := [l43m_3]) (by kernel_rfl) (show LoopsOK Try.prog Try.f43.ntmps [l43m_3] LO43m from ⟨k43m_3_ok, trivial⟩)) i43m o43m).congr fun x => (e43m x).symm
noncomputable def b17 : Code := (.seq (.region 0 (regOf Try.f17 0) false) (.seq (.region 1 (regOf Try.f17 1) false) .ret))
theorem body17 : Try.f17.body = some b17 := by kernel_rfl
noncomputable def C17 : Tab := [(43, c43m)]
theorem C17_ok : TabOK Try.prog C17 := ⟨c43m_ok, trivial⟩
noncomputable def LO17 : Tab := []
noncomputable def i17 : Tm := { sl := [(0, .v (.l (.i .u64))), (1, .v (.l (.i .u64)))], bx := [], bf := [] }
noncomputable def o17 : OT := (.ret { sl := [(0, .v (.l (.i .u64)))], bx := [], bf := [] })
/-- anabranch/vector.Meet -/
noncomputable def F17 (a0 : (List Int)) (a1 : (List Int)) : Option (((List Int) × Unit) × Unit × Unit) :=
  ((F43m a0 a1).bind fun y36 => (some ((y36.1.1, ()), (), ())))
noncomputable def c17 : Con := ⟨i17, o17, fun x => F17 x.1.1 x.1.2.1⟩
theorem e17 (x : i17.E) : vfn Try.prog C17 LO17 Try.f17 b17 i17 o17 x = F17 x.1.1 x.1.2.1 := by kernel_rfl
theorem c17_ok : Con.OK Try.prog 17 c17 := (fn_ok C17_ok Try.func17 body17 (loops_of (l := []) (by kernel_rfl) (show LoopsOK Try.prog Try.f17.ntmps [] LO17 from trivial)) i17 o17).congr fun x => (e17 x).symm
noncomputable def b13 : Code := (.seq (.region 0 (regOf Try.f13 0) false) (.seq (.region 1 (regOf Try.f13 1) false) .ret))
theorem body13 : Try.f13.body = some b13 := by kernel_rfl
noncomputable def C13 : Tab := [(15, c15), (16, c16), (21, c21)]
theorem C13_ok : TabOK Try.prog C13 := ⟨c15_ok, c16_ok, c21_ok, trivial⟩
noncomputable def LO13 : Tab := []
noncomputable def i13 : Tm := { sl := [], bx := [], bf := [] }
noncomputable def o13 : OT := (.ret { sl := [(0, .v .b)], bx := [], bf := [] })
/-- anabranch/anabranchlaw07.awake -/
noncomputable def F13 : Option ((Bool × Unit) × Unit × Unit) :=
  ((F16 [1, 2] [3]).bind fun y37 => ((F21 y37.1.1 [3, 2]).bind fun y38 => (bif y38.1.1 then ((F15 [3, 2] [1]).bind fun y39 => (some ((((y39.1.1 : Int) == 4), ()), (), ()))) else (some ((false, ()), (), ())))))
noncomputable def c13 : Con := ⟨i13, o13, fun x => F13⟩
theorem e13 (x : i13.E) : vfn Try.prog C13 LO13 Try.f13 b13 i13 o13 x = F13 := by kernel_rfl
theorem c13_ok : Con.OK Try.prog 13 c13 := (fn_ok C13_ok Try.func13 body13 (loops_of (l := []) (by kernel_rfl) (show LoopsOK Try.prog Try.f13.ntmps [] LO13 from trivial)) i13 o13).congr fun x => (e13 x).symm
noncomputable def l3_6 : Code := (.seq (.seq (.region 6 (regOf Try.f3 6) false) (.cond (.tmp 25) .skip (.exit 0))) (.seq (.block 1 (.seq (.region 8 (regOf Try.f3 8) false) (.seq (.region 9 (regOf Try.f3 9) false) (.cond (.tmp 36) (.seq (.region 10 (regOf Try.f3 10) false) (.region 11 (regOf Try.f3 11) false)) .skip)))) (.region 7 (regOf Try.f3 7) false)))
noncomputable def b3 : Code := (.seq (.region 0 (regOf Try.f3 0) false) (.seq (.seq (.region 1 (regOf Try.f3 1) false) (.cond (.tmp 20) (.seq (.region 2 (regOf Try.f3 2) false) .ret) .skip)) (.seq (.region 3 (regOf Try.f3 3) false) (.seq (.region 4 (regOf Try.f3 4) false) (.seq (.seq (.region 5 (regOf Try.f3 5) false) (.block 0 (.loop l3_6))) (.seq (.seq (.region 12 (regOf Try.f3 12) false) (.cond (.tmp 56) (.region 13 (regOf Try.f3 13) false) .skip)) (.seq (.region 14 (regOf Try.f3 14) false) .ret)))))))
theorem body3 : Try.f3.body = some b3 := by kernel_rfl
noncomputable def C3_6 : Tab := [(14, c14)]
theorem C3_6_ok : TabOK Try.prog C3_6 := ⟨c14_ok, trivial⟩
noncomputable def LO3_6 : Tab := []
noncomputable def i3_6 : Tm := { sl := [(0, .v (.l (.i .u64))), (1, .v (.l (.i .u64))), (5, .v (.i .u64)), (6, .v .b), (7, .v (.i .i64))], bx := [], bf := [] }
noncomputable def o3_6 : OT := (.exit 0 { sl := [(5, .v (.i .u64)), (6, .v .b)], bx := [], bf := [] })
noncomputable def T3_6 (a0 : (List Int)) (a1 : (List Int)) (a5 : Int) (a6 : Bool) (a7 : Int) : Option ((((List Int) × ((List Int) × (Int × (Bool × (Int × Unit))))) × Unit × Unit) ⊕ ((Int × (Bool × Unit)) × Unit × Unit)) :=
  (bif (decide ((a7 : Int) < (((a0).length : Nat) : Int))) then ((F14 a1 a7).bind fun y45 => (bif (decide (0 ≤ (a7 : Int) ∧ (a7 : Int) < (((a0).length : Nat) : Int))) then (bif (decide ((((a0).getD (a7 : Int).toNat (0 : Int)) : Int) > y45.1.1)) then (bif (decide (0 ≤ (a7 : Int) ∧ (a7 : Int) < (((a0).length : Nat) : Int))) then (bif a6 then (some (.inl ((a0, a1, (IntKind.wrap .u64 (a5 + (IntKind.wrap .u64 (((a0).getD (a7 : Int).toNat (0 : Int)) - y45.1.1)))), true, (IntKind.wrap .i64 (a7 + 1)), ()), (), ()))) else (bif (decide (0 ≤ (a7 : Int) ∧ (a7 : Int) < (((a0).length : Nat) : Int))) then (some (.inl ((a0, a1, (IntKind.wrap .u64 (a5 + (IntKind.wrap .u64 (((a0).getD (a7 : Int).toNat (0 : Int)) - y45.1.1)))), (decide (((IntKind.wrap .u64 (a5 + (IntKind.wrap .u64 (((a0).getD (a7 : Int).toNat (0 : Int)) - y45.1.1)))) : Int) < (IntKind.wrap .u64 (((a0).getD (a7 : Int).toNat (0 : Int)) - y45.1.1)))), (IntKind.wrap .i64 (a7 + 1)), ()), (), ()))) else none)) else none) else (some (.inl ((a0, a1, a5, a6, (IntKind.wrap .i64 (a7 + 1)), ()), (), ())))) else none)) else (some (.inr ((a5, a6, ()), (), ()))))
noncomputable def L3_6 (a0 : (List Int)) (a1 : (List Int)) (a5 : Int) (a6 : Bool) (a7 : Int) : Option ((Int × (Bool × Unit)) × Unit × Unit) := loopF (fun x : (((List Int) × ((List Int) × (Int × (Bool × (Int × Unit))))) × Unit × Unit) => T3_6 x.1.1 x.1.2.1 x.1.2.2.1 x.1.2.2.2.1 x.1.2.2.2.2.1) ((a0, a1, a5, a6, a7, ()), (), ())
theorem L3_6_eq (a0 : (List Int)) (a1 : (List Int)) (a5 : Int) (a6 : Bool) (a7 : Int) : L3_6 a0 a1 a5 a6 a7 = (T3_6 a0 a1 a5 a6 a7).bind (Sum.elim (fun x => L3_6 x.1.1 x.1.2.1 x.1.2.2.1 x.1.2.2.2.1 x.1.2.2.2.2.1) some) := loopF_eq _ _
noncomputable def k3_6 : Con := ⟨i3_6, o3_6, fun x => L3_6 x.1.1 x.1.2.1 x.1.2.2.1 x.1.2.2.2.1 x.1.2.2.2.2.1⟩
theorem e3_6 (x : i3_6.E) : vround Try.prog C3_6 LO3_6 Try.f3.ntmps l3_6 i3_6 o3_6 x = T3_6 x.1.1 x.1.2.1 x.1.2.2.1 x.1.2.2.2.1 x.1.2.2.2.2.1 := by kernel_rfl
theorem k3_6_ok : Con.LOK Try.prog Try.f3.ntmps l3_6 k3_6 := (loop_ok C3_6_ok (loops_of (l := []) (by kernel_rfl) (show LoopsOK Try.prog Try.f3.ntmps [] LO3_6 from trivial)) i3_6 o3_6).congr fun x => (congrArg (fun T => loopF T x) (funext e3_6)).symm
noncomputable def C3 : Tab := [(13, c13), (14, c14), (15, c15)]
theorem C3_ok : TabOK Try.prog C3 := ⟨c13_ok, c14_ok, c15_ok, trivial⟩
noncomputable def LO3 : Tab := [(6, k3_6)]
noncomputable def i3 : Tm := { sl := [(0, .v (.l (.i .u64))), (1, .v (.l (.i .u64)))], bx := [], bf := [] }
noncomputable def o3 : OT := (.ret { sl := [(0, .v .b)], bx := [], bf := [] })
/-- anabranch/anabranchlaw07.VectorLacks -/
noncomputable def F3 (a0 : (List Int)) (a1 : (List Int)) : Option ((Bool × Unit) × Unit × Unit) :=
  ((F13).bind fun y40 => (bif (!y40.1.1) then ((F13).bind fun y41 => (some ((y41.1.1, ()), (), ()))) else (bif (decide (((((a0).length : Nat) : Int) : Int) > 64)) then ((F13).bind fun y42 => (some ((y42.1.1, ()), (), ()))) else (bif (decide (((((a1).length : Nat) : Int) : Int) > 64)) then ((F13).bind fun y43 => (some ((y43.1.1, ()), (), ()))) else ((L3_6 a0 a1 0 false 0).bind fun y46 => (bif y46.1.2.1 then ((F15 a0 a1).bind fun y47 => (some ((((y47.1.1 : Int) == 18446744073709551615), ()), (), ()))) else ((F15 a0 a1).bind fun y48 => (some ((((y48.1.1 : Int) == y46.1.1), ()), (), ())))))))))
noncomputable def c3 : Con := ⟨i3, o3, fun x => F3 x.1.1 x.1.2.1⟩
theorem e3 (x : i3.E) : vfn Try.prog C3 LO3 Try.f3 b3 i3 o3 x = F3 x.1.1 x.1.2.1 := by kernel_rfl
theorem c3_ok : Con.OK Try.prog 3 c3 := (fn_ok C3_ok Try.func3 body3 (loops_of (l := [l3_6]) (by kernel_rfl) (show LoopsOK Try.prog Try.f3.ntmps [l3_6] LO3 from ⟨k3_6_ok, trivial⟩)) i3 o3).congr fun x => (e3 x).symm
noncomputable def l4_6 : Code := (.seq (.seq (.region 6 (regOf Try.f4 6) false) (.cond (.tmp 30) .skip (.exit 0))) (.seq (.block 1 (.seq (.region 8 (regOf Try.f4 8) false) (.seq (.region 9 (regOf Try.f4 9) false) (.seq (.seq (.region 10 (regOf Try.f4 10) false) (.cond (.tmp 41) (.region 11 (regOf Try.f4 11) false) .skip)) (.seq (.region 12 (regOf Try.f4 12) false) (.cond (.tmp 55) (.seq (.region 13 (regOf Try.f4 13) false) .ret) .skip)))))) (.region 7 (regOf Try.f4 7) false)))
noncomputable def b4 : Code := (.seq (.region 0 (regOf Try.f4 0) false) (.seq (.seq (.region 1 (regOf Try.f4 1) false) (.cond (.tmp 21) (.seq (.region 2 (regOf Try.f4 2) false) .ret) .skip)) (.seq (.region 3 (regOf Try.f4 3) false) (.seq (.region 4 (regOf Try.f4 4) false) (.seq (.seq (.region 5 (regOf Try.f4 5) false) (.block 0 (.loop l4_6))) (.seq (.region 14 (regOf Try.f4 14) false) .ret))))))
theorem body4 : Try.f4.body = some b4 := by kernel_rfl
noncomputable def C4_6 : Tab := [(14, c14), (18, c18)]
theorem C4_6_ok : TabOK Try.prog C4_6 := ⟨c14_ok, c18_ok, trivial⟩
noncomputable def LO4_6 : Tab := []
noncomputable def i4_6 : Tm := { sl := [(0, .v (.l (.i .u64))), (1, .v (.l (.i .u64))), (5, .v (.l (.i .u64))), (6, .v (.l (.i .u64))), (7, .v (.i .i64))], bx := [], bf := [] }
noncomputable def o4_6 : OT := (.two (.ret { sl := [(4, .v .b)], bx := [], bf := [] }) (.exit 0 { sl := [], bx := [], bf := [] }))
noncomputable def T4_6 (a0 : (List Int)) (a1 : (List Int)) (a5 : (List Int)) (a6 : (List Int)) (a7 : Int) : Option ((((List Int) × ((List Int) × ((List Int) × ((List Int) × (Int × Unit))))) × Unit × Unit) ⊕ (((Bool × Unit) × Unit × Unit) ⊕ (Unit × Unit × Unit))) :=
  (bif (decide ((a7 : Int) < 66)) then ((F14 a0 a7).bind fun y61 => ((F14 a1 a7).bind fun y62 => (bif (decide ((y61.1.1 : Int) > y62.1.1)) then ((F18 a6 a7).bind fun y63 => (bif ((y63.1.1 : Int) != y62.1.1) then (some (.inr (.inl ((false, ()), (), ())))) else ((F18 a5 a7).bind fun y64 => (bif ((y64.1.1 : Int) != y61.1.1) then (some (.inr (.inl ((false, ()), (), ())))) else (some (.inl ((a0, a1, a5, a6, (IntKind.wrap .i64 (a7 + 1)), ()), (), ()))))))) else ((F18 a6 a7).bind fun y65 => (bif ((y65.1.1 : Int) != y61.1.1) then (some (.inr (.inl ((false, ()), (), ())))) else ((F18 a5 a7).bind fun y66 => (bif ((y66.1.1 : Int) != y62.1.1) then (some (.inr (.inl ((false, ()), (), ())))) else (some (.inl ((a0, a1, a5, a6, (IntKind.wrap .i64 (a7 + 1)), ()), (), ())))))))))) else (some (.inr (.inr ((), (), ())))))
noncomputable def L4_6 (a0 : (List Int)) (a1 : (List Int)) (a5 : (List Int)) (a6 : (List Int)) (a7 : Int) : Option (((Bool × Unit) × Unit × Unit) ⊕ (Unit × Unit × Unit)) := loopF (fun x : (((List Int) × ((List Int) × ((List Int) × ((List Int) × (Int × Unit))))) × Unit × Unit) => T4_6 x.1.1 x.1.2.1 x.1.2.2.1 x.1.2.2.2.1 x.1.2.2.2.2.1) ((a0, a1, a5, a6, a7, ()), (), ())
theorem L4_6_eq (a0 : (List Int)) (a1 : (List Int)) (a5 : (List Int)) (a6 : (List Int)) (a7 : Int) : L4_6 a0 a1 a5 a6 a7 = (T4_6 a0 a1 a5 a6 a7).bind (Sum.elim (fun x => L4_6 x.1.1 x.1.2.1 x.1.2.2.1 x.1.2.2.2.1 x.1.2.2.2.2.1) some) := loopF_eq _ _
noncomputable def k4_6 : Con := ⟨i4_6, o4_6, fun x => L4_6 x.1.1 x.1.2.1 x.1.2.2.1 x.1.2.2.2.1 x.1.2.2.2.2.1⟩
theorem e4_6 (x : i4_6.E) : vround Try.prog C4_6 LO4_6 Try.f4.ntmps l4_6 i4_6 o4_6 x = T4_6 x.1.1 x.1.2.1 x.1.2.2.1 x.1.2.2.2.1 x.1.2.2.2.2.1 := by kernel_rfl
theorem k4_6_ok : Con.LOK Try.prog Try.f4.ntmps l4_6 k4_6 := (loop_ok C4_6_ok (loops_of (l := []) (by kernel_rfl) (show LoopsOK Try.prog Try.f4.ntmps [] LO4_6 from trivial)) i4_6 o4_6).congr fun x => (congrArg (fun T => loopF T x) (funext e4_6)).symm
noncomputable def C4 : Tab := [(13, c13), (14, c14), (16, c16), (17, c17), (18, c18)]
theorem C4_ok : TabOK Try.prog C4 := ⟨c13_ok, c14_ok, c16_ok, c17_ok, c18_ok, trivial⟩
noncomputable def LO4 : Tab := [(6, k4_6)]
noncomputable def i4 : Tm := { sl := [(0, .v (.l (.i .u64))), (1, .v (.l (.i .u64)))], bx := [], bf := [] }
noncomputable def o4 : OT := (.ret { sl := [(0, .v .b)], bx := [], bf := [] })
/-- anabranch/anabranchlaw07.VectorJoins -/
noncomputable def F4 (a0 : (List Int)) (a1 : (List Int)) : Option ((Bool × Unit) × Unit × Unit) :=
  ((F13).bind fun y49 => (bif (!y49.1.1) then ((F13).bind fun y50 => (some ((y50.1.1, ()), (), ()))) else (bif (decide (((((a0).length : Nat) : Int) : Int) > 64)) then ((F13).bind fun y51 => (some ((y51.1.1, ()), (), ()))) else (bif (decide (((((a1).length : Nat) : Int) : Int) > 64)) then ((F13).bind fun y52 => (some ((y52.1.1, ()), (), ()))) else ((F16 a0 a1).bind fun y53 => ((F17 a0 a1).bind fun y54 => ((L4_6 a0 a1 y53.1.1 y54.1.1 0).bind fun y67 => (Sum.elim (fun y68 => (some ((y68.1.1, ()), (), ()))) (fun y68 => (bif (((((y53.1.1).length : Nat) : Int) : Int) == 0) then (bif (((((y54.1.1).length : Nat) : Int) : Int) == 0) then (some ((true, ()), (), ())) else (bif (decide (0 ≤ ((IntKind.wrap .i64 ((((y54.1.1).length : Nat) : Int) - 1)) : Int) ∧ ((IntKind.wrap .i64 ((((y54.1.1).length : Nat) : Int) - 1)) : Int) < (((y54.1.1).length : Nat) : Int))) then (some ((((((y54.1.1).getD ((IntKind.wrap .i64 ((((y54.1.1).length : Nat) : Int) - 1)) : Int).toNat (0 : Int)) : Int) != 0), ()), (), ())) else none)) else (bif (decide (0 ≤ ((IntKind.wrap .i64 ((((y53.1.1).length : Nat) : Int) - 1)) : Int) ∧ ((IntKind.wrap .i64 ((((y53.1.1).length : Nat) : Int) - 1)) : Int) < (((y53.1.1).length : Nat) : Int))) then (bif ((((y53.1.1).getD ((IntKind.wrap .i64 ((((y53.1.1).length : Nat) : Int) - 1)) : Int).toNat (0 : Int)) : Int) != 0) then (bif (((((y54.1.1).length : Nat) : Int) : Int) == 0) then (some ((true, ()), (), ())) else (bif (decide (0 ≤ ((IntKind.wrap .i64 ((((y54.1.1).length : Nat) : Int) - 1)) : Int) ∧ ((IntKind.wrap .i64 ((((y54.1.1).length : Nat) : Int) - 1)) : Int) < (((y54.1.1).length : Nat) : Int))) then (some ((((((y54.1.1).getD ((IntKind.wrap .i64 ((((y54.1.1).length : Nat) : Int) - 1)) : Int).toNat (0 : Int)) : Int) != 0), ()), (), ())) else none)) else (some ((false, ()), (), ()))) else none))) y67))))))))
noncomputable def c4 : Con := ⟨i4, o4, fun x => F4 x.1.1 x.1.2.1⟩
theorem e4 (x : i4.E) : vfn Try.prog C4 LO4 Try.f4 b4 i4 o4 x = F4 x.1.1 x.1.2.1 := by kernel_rfl
theorem c4_ok : Con.OK Try.prog 4 c4 := (fn_ok C4_ok Try.func4 body4 (loops_of (l := [l4_6]) (by kernel_rfl) (show LoopsOK Try.prog Try.f4.ntmps [l4_6] LO4 from ⟨k4_6_ok, trivial⟩)) i4 o4).congr fun x => (e4 x).symm
noncomputable def b5 : Code := (.seq (.region 0 (regOf Try.f5 0) false) (.seq (.seq (.region 1 (regOf Try.f5 1) false) (.cond (.tmp 27) (.seq (.region 2 (regOf Try.f5 2) false) .ret) .skip)) (.seq (.region 3 (regOf Try.f5 3) false) (.seq (.region 4 (regOf Try.f5 4) false) (.seq (.region 5 (regOf Try.f5 5) false) (.seq (.region 6 (regOf Try.f5 6) false) (.seq (.region 7 (regOf Try.f5 7) false) .ret)))))))
theorem body5 : Try.f5.body = some b5 := by kernel_rfl
noncomputable def C5 : Tab := [(13, c13), (16, c16), (17, c17), (19, c19), (20, c20), (21, c21), (22, c22)]
theorem C5_ok : TabOK Try.prog C5 := ⟨c13_ok, c16_ok, c17_ok, c19_ok, c20_ok, c21_ok, c22_ok, trivial⟩
noncomputable def LO5 : Tab := []
noncomputable def i5 : Tm := { sl := [(0, .v (.l (.i .u64))), (1, .v (.l (.i .u64))), (2, .v (.l (.i .u64)))], bx := [], bf := [] }
noncomputable def o5 : OT := (.ret { sl := [(0, .v .b)], bx := [], bf := [] })
/-- anabranch/anabranchlaw07.VectorOrders -/
noncomputable def F5 (a0 : (List Int)) (a1 : (List Int)) (a2 : (List Int)) : Option ((Bool × Unit) × Unit × Unit) :=
  ((F13).bind fun y69 => (bif (!y69.1.1) then ((F13).bind fun y70 => (some ((y70.1.1, ()), (), ()))) else (bif (decide (((((a0).length : Nat) : Int) : Int) > 64)) then ((F13).bind fun y71 => (some ((y71.1.1, ()), (), ()))) else (bif (decide (((((a1).length : Nat) : Int) : Int) > 64)) then ((F13).bind fun y72 => (some ((y72.1.1, ()), (), ()))) else (bif (decide (((((a2).length : Nat) : Int) : Int) > 64)) then ((F13).bind fun y73 => (some ((y73.1.1, ()), (), ()))) else ((F19 a0 a1).bind fun y74 => ((F19 a1 a0).bind fun y75 => ((F20 a0 a1).bind fun y76 => (bif (y74.1.1 == y76.1.1) then ((F21 a0 a1).bind fun y77 => (bif y74.1.1 then (bif (y77.1.1 == y75.1.1) then ((F22 a0 a1).bind fun y78 => (bif (!y74.1.1) then (bif (y78.1.1 == (!y75.1.1)) then (bif (!y74.1.1) then ((F16 a0 a1).bind fun y79 => ((F19 a0 y79.1.1).bind fun y80 => (bif y80.1.1 then ((F17 a0 a1).bind fun y81 => ((F19 y81.1.1 a1).bind fun y82 => (some ((y82.1.1, ()), (), ())))) else (some ((false, ()), (), ()))))) else ((F19 a1 a2).bind fun y83 => (bif (!y83.1.1) then ((F16 a0 a1).bind fun y84 => ((F19 a0 y84.1.1).bind fun y85 => (bif y85.1.1 then ((F17 a0 a1).bind fun y86 => ((F19 y86.1.1 a1).bind fun y87 => (some ((y87.1.1, ()), (), ())))) else (some ((false, ()), (), ()))))) else ((F19 a0 a2).bind fun y88 => (bif y88.1.1 then ((F16 a0 a1).bind fun y89 => ((F19 a0 y89.1.1).bind fun y90 => (bif y90.1.1 then ((F17 a0 a1).bind fun y91 => ((F19 y91.1.1 a1).bind fun y92 => (some ((y92.1.1, ()), (), ())))) else (some ((false, ()), (), ()))))) else (some ((false, ()), (), ()))))))) else (some ((false, ()), (), ()))) else (bif (y78.1.1 == false) then (bif (!y74.1.1) then ((F16 a0 a1).bind fun y93 => ((F19 a0 y93.1.1).bind fun y94 => (bif y94.1.1 then ((F17 a0 a1).bind fun y95 => ((F19 y95.1.1 a1).bind fun y96 => (some ((y96.1.1, ()), (), ())))) else (some ((false, ()), (), ()))))) else ((F19 a1 a2).bind fun y97 => (bif (!y97.1.1) then ((F16 a0 a1).bind fun y98 => ((F19 a0 y98.1.1).bind fun y99 => (bif y99.1.1 then ((F17 a0 a1).bind fun y100 => ((F19 y100.1.1 a1).bind fun y101 => (some ((y101.1.1, ()), (), ())))) else (some ((false, ()), (), ()))))) else ((F19 a0 a2).bind fun y102 => (bif y102.1.1 then ((F16 a0 a1).bind fun y103 => ((F19 a0 y103.1.1).bind fun y104 => (bif y104.1.1 then ((F17 a0 a1).bind fun y105 => ((F19 y105.1.1 a1).bind fun y106 => (some ((y106.1.1, ()), (), ())))) else (some ((false, ()), (), ()))))) else (some ((false, ()), (), ()))))))) else (some ((false, ()), (), ()))))) else (some ((false, ()), (), ()))) else (bif (y77.1.1 == false) then ((F22 a0 a1).bind fun y107 => (bif (!y74.1.1) then (bif (y107.1.1 == (!y75.1.1)) then (bif (!y74.1.1) then ((F16 a0 a1).bind fun y108 => ((F19 a0 y108.1.1).bind fun y109 => (bif y109.1.1 then ((F17 a0 a1).bind fun y110 => ((F19 y110.1.1 a1).bind fun y111 => (some ((y111.1.1, ()), (), ())))) else (some ((false, ()), (), ()))))) else ((F19 a1 a2).bind fun y112 => (bif (!y112.1.1) then ((F16 a0 a1).bind fun y113 => ((F19 a0 y113.1.1).bind fun y114 => (bif y114.1.1 then ((F17 a0 a1).bind fun y115 => ((F19 y115.1.1 a1).bind fun y116 => (some ((y116.1.1, ()), (), ())))) else (some ((false, ()), (), ()))))) else ((F19 a0 a2).bind fun y117 => (bif y117.1.1 then ((F16 a0 a1).bind fun y118 => ((F19 a0 y118.1.1).bind fun y119 => (bif y119.1.1 then ((F17 a0 a1).bind fun y120 => ((F19 y120.1.1 a1).bind fun y121 => (some ((y121.1.1, ()), (), ())))) else (some ((false, ()), (), ()))))) else (some ((false, ()), (), ()))))))) else (some ((false, ()), (), ()))) else (bif (y107.1.1 == false) then (bif (!y74.1.1) then ((F16 a0 a1).bind fun y122 => ((F19 a0 y122.1.1).bind fun y123 => (bif y123.1.1 then ((F17 a0 a1).bind fun y124 => ((F19 y124.1.1 a1).bind fun y125 => (some ((y125.1.1, ()), (), ())))) else (some ((false, ()), (), ()))))) else ((F19 a1 a2).bind fun y126 => (bif (!y126.1.1) then ((F16 a0 a1).bind fun y127 => ((F19 a0 y127.1.1).bind fun y128 => (bif y128.1.1 then ((F17 a0 a1).bind fun y129 => ((F19 y129.1.1 a1).bind fun y130 => (some ((y130.1.1, ()), (), ())))) else (some ((false, ()), (), ()))))) else ((F19 a0 a2).bind fun y131 => (bif y131.1.1 then ((F16 a0 a1).bind fun y132 => ((F19 a0 y132.1.1).bind fun y133 => (bif y133.1.1 then ((F17 a0 a1).bind fun y134 => ((F19 y134.1.1 a1).bind fun y135 => (some ((y135.1.1, ()), (), ())))) else (some ((false, ()), (), ()))))) else (some ((false, ()), (), ()))))))) else (some ((false, ()), (), ()))))) else (some ((false, ()), (), ()))))) else (some ((false, ()), (), ())))))))))))
noncomputable def c5 : Con := ⟨i5, o5, fun x => F5 x.1.1 x.1.2.1 x.1.2.2.1⟩
theorem e5 (x : i5.E) : vfn Try.prog C5 LO5 Try.f5 b5 i5 o5 x = F5 x.1.1 x.1.2.1 x.1.2.2.1 := by kernel_rfl
theorem c5_ok : Con.OK Try.prog 5 c5 := (fn_ok C5_ok Try.func5 body5 (loops_of (l := []) (by kernel_rfl) (show LoopsOK Try.prog Try.f5.ntmps [] LO5 from trivial)) i5 o5).congr fun x => (e5 x).symm
end Go.IM.V

/- Events: what the code comes to. -/
set_option linter.unusedVariables false
set_option linter.constructorNameAsVariable false
namespace Go.IM.V
open Go Go.IM Go.Proofs

noncomputable def b66 : Code := (.seq (.region 0 (regOf Try.f66 0) false) (.seq (.region 1 (regOf Try.f66 1) false) .ret))
theorem body66 : Try.f66.body = some b66 := by kernel_rfl
noncomputable def C66 : Tab := []
theorem C66_ok : TabOK Try.prog C66 := trivial
noncomputable def LO66 : Tab := []
noncomputable def i66 : Tm := { sl := [(0, .v (.i .u64))], bx := [], bf := [] }
noncomputable def o66 : OT := (.ret { sl := [(0, .v .b)], bx := [], bf := [] })
/-- cmp.isNaN[uint64] -/
noncomputable def F66 (a0 : Int) : Option ((Bool × Unit) × Unit × Unit) :=
  (some ((((a0 : Int) != a0), ()), (), ()))
noncomputable def c66 : Con := ⟨i66, o66, fun x => F66 x.1.1⟩
theorem e66 (x : i66.E) : vfn Try.prog C66 LO66 Try.f66 b66 i66 o66 x = F66 x.1.1 := by kernel_rfl
theorem c66_ok : Con.OK Try.prog 66 c66 := (fn_ok C66_ok Try.func66 body66 (loops_of (l := []) (by kernel_rfl) (show LoopsOK Try.prog Try.f66.ntmps [] LO66 from trivial)) i66 o66).congr fun x => (e66 x).symm
noncomputable def b67 : Code := (.seq (.region 0 (regOf Try.f67 0) false) (.seq (.region 1 (regOf Try.f67 1) false) .ret))
theorem body67 : Try.f67.body = some b67 := by kernel_rfl
noncomputable def C67 : Tab := []
theorem C67_ok : TabOK Try.prog C67 := trivial
noncomputable def LO67 : Tab := []
noncomputable def i67 : Tm := { sl := [(0, .v (.i .i64))], bx := [], bf := [] }
noncomputable def o67 : OT := (.ret { sl := [(0, .v .b)], bx := [], bf := [] })
/-- cmp.isNaN[int] -/
noncomputable def F67 (a0 : Int) : Option ((Bool × Unit) × Unit × Unit) :=
  (some ((((a0 : Int) != a0), ()), (), ()))
noncomputable def c67 : Con := ⟨i67, o67, fun x => F67 x.1.1⟩
theorem e67 (x : i67.E) : vfn Try.prog C67 LO67 Try.f67 b67 i67 o67 x = F67 x.1.1 := by kernel_rfl
theorem c67_ok : Con.OK Try.prog 67 c67 := (fn_ok C67_ok Try.func67 body67 (loops_of (l := []) (by kernel_rfl) (show LoopsOK Try.prog Try.f67.ntmps [] LO67 from trivial)) i67 o67).congr fun x => (e67 x).symm
noncomputable def b49 : Code := (.seq (.region 0 (regOf Try.f49 0) false) (.seq (.region 1 (regOf Try.f49 1) false) (.seq (.region 2 (regOf Try.f49 2) false) (.seq (.seq (.region 3 (regOf Try.f49 3) false) (.cond (.tmp 11) (.seq (.seq (.region 4 (regOf Try.f49 4) false) (.cond (.tmp 12) (.seq (.region 5 (regOf Try.f49 5) false) .ret) .skip)) (.seq (.region 6 (regOf Try.f49 6) false) .ret)) .skip)) (.seq (.seq (.region 7 (regOf Try.f49 7) false) (.cond (.tmp 13) (.seq (.region 8 (regOf Try.f49 8) false) .ret) .skip)) (.seq (.seq (.region 9 (regOf Try.f49 9) false) (.cond (.tmp 16) (.seq (.region 10 (regOf Try.f49 10) false) .ret) .skip)) (.seq (.seq (.region 11 (regOf Try.f49 11) false) (.cond (.tmp 19) (.seq (.region 12 (regOf Try.f49 12) false) .ret) .skip)) (.seq (.region 13 (regOf Try.f49 13) false) .ret))))))))
theorem body49 : Try.f49.body = some b49 := by kernel_rfl
noncomputable def C49 : Tab := [(66, c66)]
theorem C49_ok : TabOK Try.prog C49 := ⟨c66_ok, trivial⟩
noncomputable def LO49 : Tab := []
noncomputable def i49 : Tm := { sl := [(0, .v (.i .u64)), (1, .v (.i .u64))], bx := [], bf := [] }
noncomputable def o49 : OT := (.ret { sl := [(0, .v (.i .i64))], bx := [], bf := [] })
/-- cmp.Compare[uint64] -/
noncomputable def F49 (a0 : Int) (a1 : Int) : Option ((Int × Unit) × Unit × Unit) :=
  ((F66 a0).bind fun y1 => ((F66 a1).bind fun y2 => (bif y1.1.1 then (bif y2.1.1 then (some ((0, ()), (), ())) else (some (((-1), ()), (), ()))) else (bif y2.1.1 then (some ((1, ()), (), ())) else (bif (decide ((a0 : Int) < a1)) then (some (((-1), ()), (), ())) else (bif (decide ((a0 : Int) > a1)) then (some ((1, ()), (), ())) else (some ((0, ()), (), ()))))))))
noncomputable def c49 : Con := ⟨i49, o49, fun x => F49 x.1.1 x.1.2.1⟩
theorem e49 (x : i49.E) : vfn Try.prog C49 LO49 Try.f49 b49 i49 o49 x = F49 x.1.1 x.1.2.1 := by kernel_rfl
theorem c49_ok : Con.OK Try.prog 49 c49 := (fn_ok C49_ok Try.func49 body49 (loops_of (l := []) (by kernel_rfl) (show LoopsOK Try.prog Try.f49.ntmps [] LO49 from trivial)) i49 o49).congr fun x => (e49 x).symm
noncomputable def b50 : Code := (.seq (.region 0 (regOf Try.f50 0) false) (.seq (.region 1 (regOf Try.f50 1) false) (.seq (.region 2 (regOf Try.f50 2) false) (.seq (.seq (.region 3 (regOf Try.f50 3) false) (.cond (.tmp 11) (.seq (.seq (.region 4 (regOf Try.f50 4) false) (.cond (.tmp 12) (.seq (.region 5 (regOf Try.f50 5) false) .ret) .skip)) (.seq (.region 6 (regOf Try.f50 6) false) .ret)) .skip)) (.seq (.seq (.region 7 (regOf Try.f50 7) false) (.cond (.tmp 13) (.seq (.region 8 (regOf Try.f50 8) false) .ret) .skip)) (.seq (.seq (.region 9 (regOf Try.f50 9) false) (.cond (.tmp 16) (.seq (.region 10 (regOf Try.f50 10) false) .ret) .skip)) (.seq (.seq (.region 11 (regOf Try.f50 11) false) (.cond (.tmp 19) (.seq (.region 12 (regOf Try.f50 12) false) .ret) .skip)) (.seq (.region 13 (regOf Try.f50 13) false) .ret))))))))
theorem body50 : Try.f50.body = some b50 := by kernel_rfl
noncomputable def C50 : Tab := [(67, c67)]
theorem C50_ok : TabOK Try.prog C50 := ⟨c67_ok, trivial⟩
noncomputable def LO50 : Tab := []
noncomputable def i50 : Tm := { sl := [(0, .v (.i .i64)), (1, .v (.i .i64))], bx := [], bf := [] }
noncomputable def o50 : OT := (.ret { sl := [(0, .v (.i .i64))], bx := [], bf := [] })
/-- cmp.Compare[int] -/
noncomputable def F50 (a0 : Int) (a1 : Int) : Option ((Int × Unit) × Unit × Unit) :=
  ((F67 a0).bind fun y3 => ((F67 a1).bind fun y4 => (bif y3.1.1 then (bif y4.1.1 then (some ((0, ()), (), ())) else (some (((-1), ()), (), ()))) else (bif y4.1.1 then (some ((1, ()), (), ())) else (bif (decide ((a0 : Int) < a1)) then (some (((-1), ()), (), ())) else (bif (decide ((a0 : Int) > a1)) then (some ((1, ()), (), ())) else (some ((0, ()), (), ()))))))))
noncomputable def c50 : Con := ⟨i50, o50, fun x => F50 x.1.1 x.1.2.1⟩
theorem e50 (x : i50.E) : vfn Try.prog C50 LO50 Try.f50 b50 i50 o50 x = F50 x.1.1 x.1.2.1 := by kernel_rfl
theorem c50_ok : Con.OK Try.prog 50 c50 := (fn_ok C50_ok Try.func50 body50 (loops_of (l := []) (by kernel_rfl) (show LoopsOK Try.prog Try.f50.ntmps [] LO50 from trivial)) i50 o50).congr fun x => (e50 x).symm
noncomputable def l48_3 : Code := (.seq (.region 3 (regOf Try.f48 3) false) (.seq (.cond (.tmp 9) .skip (.exit 0)) (.seq (.block 1 (.seq (.region 4 (regOf Try.f48 4) false) (.seq (.region 5 (regOf Try.f48 5) false) (.cond (.tmp 14) (.seq (.region 6 (regOf Try.f48 6) false) .ret) .skip)))) (.region 7 (regOf Try.f48 7) false))))
noncomputable def b48 : Code := (.seq (.region 0 (regOf Try.f48 0) false) (.seq (.region 1 (regOf Try.f48 1) false) (.seq (.seq (.region 2 (regOf Try.f48 2) false) (.block 0 (.loop l48_3))) (.seq (.region 8 (regOf Try.f48 8) false) .ret))))
theorem body48 : Try.f48.body = some b48 := by kernel_rfl
noncomputable def C48_3 : Tab := []
theorem C48_3_ok : TabOK Try.prog C48_3 := trivial
noncomputable def LO48_3 : Tab := []
noncomputable def i48_3 : Tm := { sl := [(3, .v (.i .i64)), (6, .v (.l (.i .i64))), (7, .v (.i .i64)), (8, .v (.i .i64))], bx := [], bf := [] }
noncomputable def o48_3 : OT := (.two (.ret { sl := [(2, .v (.i .i64))], bx := [], bf := [] }) (.exit 0 { sl := [], bx := [], bf := [] }))
noncomputable def T48_3 (a3 : Int) (a6 : (List Int)) (a7 : Int) (a8 : Int) : Option (((Int × ((List Int) × (Int × (Int × Unit)))) × Unit × Unit) ⊕ (((Int × Unit) × Unit × Unit) ⊕ (Unit × Unit × Unit))) :=
  (bif (decide ((a8 : Int) < a7)) then (bif (decide (0 ≤ (a8 : Int) ∧ (a8 : Int) < (((a6).length : Nat) : Int))) then (bif ((((a6).getD (a8 : Int).toNat (0 : Int)) : Int) != a3) then (some (.inr (.inl ((((a6).getD (a8 : Int).toNat (0 : Int)), ()), (), ())))) else (some (.inl ((a3, a6, a7, (IntKind.wrap .i64 (a8 + 1)), ()), (), ())))) else none) else (some (.inr (.inr ((), (), ())))))
noncomputable def L48_3 (a3 : Int) (a6 : (List Int)) (a7 : Int) (a8 : Int) : Option (((Int × Unit) × Unit × Unit) ⊕ (Unit × Unit × Unit)) := loopF (fun x : ((Int × ((List Int) × (Int × (Int × Unit)))) × Unit × Unit) => T48_3 x.1.1 x.1.2.1 x.1.2.2.1 x.1.2.2.2.1) ((a3, a6, a7, a8, ()), (), ())
theorem L48_3_eq (a3 : Int) (a6 : (List Int)) (a7 : Int) (a8 : Int) : L48_3 a3 a6 a7 a8 = (T48_3 a3 a6 a7 a8).bind (Sum.elim (fun x => L48_3 x.1.1 x.1.2.1 x.1.2.2.1 x.1.2.2.2.1) some) := loopF_eq _ _
noncomputable def k48_3 : Con := ⟨i48_3, o48_3, fun x => L48_3 x.1.1 x.1.2.1 x.1.2.2.1 x.1.2.2.2.1⟩
theorem e48_3 (x : i48_3.E) : vround Try.prog C48_3 LO48_3 Try.f48.ntmps l48_3 i48_3 o48_3 x = T48_3 x.1.1 x.1.2.1 x.1.2.2.1 x.1.2.2.2.1 := by kernel_rfl
theorem k48_3_ok : Con.LOK Try.prog Try.f48.ntmps l48_3 k48_3 := (loop_ok C48_3_ok (loops_of (l := []) (by kernel_rfl) (show LoopsOK Try.prog Try.f48.ntmps [] LO48_3 from trivial)) i48_3 o48_3).congr fun x => (congrArg (fun T => loopF T x) (funext e48_3)).symm
noncomputable def C48 : Tab := []
theorem C48_ok : TabOK Try.prog C48 := trivial
noncomputable def LO48 : Tab := [(3, k48_3)]
noncomputable def i48 : Tm := { sl := [(0, .v (.l (.i .i64)))], bx := [], bf := [] }
noncomputable def o48 : OT := (.ret { sl := [(0, .v (.i .i64))], bx := [], bf := [] })
/-- cmp.Or[int] -/
noncomputable def F48 (a0 : (List Int)) : Option ((Int × Unit) × Unit × Unit) :=
  ((L48_3 0 a0 (((a0).length : Nat) : Int) 0).bind fun y5 => (Sum.elim (fun y6 => (some ((y6.1.1, ()), (), ()))) (fun y6 => (some ((0, ()), (), ()))) y5))
noncomputable def c48 : Con := ⟨i48, o48, fun x => F48 x.1.1⟩
theorem e48 (x : i48.E) : vfn Try.prog C48 LO48 Try.f48 b48 i48 o48 x = F48 x.1.1 := by kernel_rfl
theorem c48_ok : Con.OK Try.prog 48 c48 := (fn_ok C48_ok Try.func48 body48 (loops_of (l := [l48_3]) (by kernel_rfl) (show LoopsOK Try.prog Try.f48.ntmps [l48_3] LO48 from ⟨k48_3_ok, trivial⟩)) i48 o48).congr fun x => (e48 x).symm
noncomputable def b30 : Code := (.seq (.region 0 (regOf Try.f30 0) false) (.seq (.region 1 (regOf Try.f30 1) true) .ret))
theorem body30 : Try.f30.body = some b30 := by kernel_rfl
noncomputable def C30 : Tab := [(48, c48), (49, c49), (50, c50)]
theorem C30_ok : TabOK Try.prog C30 := ⟨c48_ok, c49_ok, c50_ok, trivial⟩
noncomputable def LO30 : Tab := []
noncomputable def i30 : Tm := { sl := [(0, .v (.p (.i .u64) (.p (.i .i64) .u))), (1, .v (.p (.i .u64) (.p (.i .i64) .u)))], bx := [], bf := [] }
noncomputable def o30 : OT := (.ret { sl := [(0, .v (.i .i64))], bx := [], bf := [] })
/-- anabranch/event.Compare -/
noncomputable def F30 (a0 : (Int × (Int × Unit))) (a1 : (Int × (Int × Unit))) : Option ((Int × Unit) × Unit × Unit) :=
  ((F49 a0.1 a1.1).bind fun y7 => ((F50 a0.2.1 a1.2.1).bind fun y8 => ((F48 [y7.1.1, y8.1.1]).bind fun y9 => (some ((y9.1.1, ()), (), ())))))
noncomputable def c30 : Con := ⟨i30, o30, fun x => F30 x.1.1 x.1.2.1⟩
theorem e30 (x : i30.E) : vfn Try.prog C30 LO30 Try.f30 b30 i30 o30 x = F30 x.1.1 x.1.2.1 := by kernel_rfl
theorem c30_ok : Con.OK Try.prog 30 c30 := (fn_ok C30_ok Try.func30 body30 (loops_of (l := []) (by kernel_rfl) (show LoopsOK Try.prog Try.f30.ntmps [] LO30 from trivial)) i30 o30).congr fun x => (e30 x).symm
noncomputable def b31 : Code := (.seq (.region 0 (regOf Try.f31 0) false) (.seq (.region 1 (regOf Try.f31 1) false) .ret))
theorem body31 : Try.f31.body = some b31 := by kernel_rfl
noncomputable def C31 : Tab := []
theorem C31_ok : TabOK Try.prog C31 := trivial
noncomputable def LO31 : Tab := []
noncomputable def i31 : Tm := { sl := [(0, .v (.p (.i .u64) (.p (.i .i64) .u))), (1, .v (.p (.i .u64) (.p (.i .i64) .u)))], bx := [], bf := [] }
noncomputable def o31 : OT := (.ret { sl := [(0, .v .b)], bx := [], bf := [] })
/-- anabranch/anabranchref06.Ahead -/
noncomputable def F31 (a0 : (Int × (Int × Unit))) (a1 : (Int × (Int × Unit))) : Option ((Bool × Unit) × Unit × Unit) :=
  (bif (decide ((a0.1 : Int) < a1.1)) then (some ((true, ()), (), ())) else (bif ((a0.1 : Int) == a1.1) then (some (((decide ((a0.2.1 : Int) < a1.2.1)), ()), (), ())) else (some ((false, ()), (), ()))))
noncomputable def c31 : Con := ⟨i31, o31, fun x => F31 x.1.1 x.1.2.1⟩
theorem e31 (x : i31.E) : vfn Try.prog C31 LO31 Try.f31 b31 i31 o31 x = F31 x.1.1 x.1.2.1 := by kernel_rfl
theorem c31_ok : Con.OK Try.prog 31 c31 := (fn_ok C31_ok Try.func31 body31 (loops_of (l := []) (by kernel_rfl) (show LoopsOK Try.prog Try.f31.ntmps [] LO31 from trivial)) i31 o31).congr fun x => (e31 x).symm
noncomputable def b41 : Code := (.seq (.region 0 (regOf Try.f41 0) false) (.seq (.region 1 (regOf Try.f41 1) false) .ret))
theorem body41 : Try.f41.body = some b41 := by kernel_rfl
noncomputable def C41 : Tab := []
theorem C41_ok : TabOK Try.prog C41 := trivial
noncomputable def LO41 : Tab := []
noncomputable def i41 : Tm := { sl := [(0, .v (.p (.i .i64) (.p (.i .u64) (.p (.i .u64) (.p (.i .u8) (.p .s (.p (.l (.i .u8)) (.p (.f .f64) (.p (.i .i64) .u)))))))))], bx := [], bf := [] }
noncomputable def o41 : OT := (.ret { sl := [(0, .v (.p (.i .u64) (.p (.i .i64) .u)))], bx := [], bf := [] })
/-- anabranch/event.At -/
noncomputable def F41 (a0 : (Int × (Int × (Int × (Int × (ByteArray × ((List Int) × (Nat × (Int × Unit))))))))) : Option (((Int × (Int × Unit)) × Unit) × Unit × Unit) :=
  (some (((a0.2.2.1, (a0.1, ())), ()), (), ()))
noncomputable def c41 : Con := ⟨i41, o41, fun x => F41 x.1.1⟩
theorem e41 (x : i41.E) : vfn Try.prog C41 LO41 Try.f41 b41 i41 o41 x = F41 x.1.1 := by kernel_rfl
theorem c41_ok : Con.OK Try.prog 41 c41 := (fn_ok C41_ok Try.func41 body41 (loops_of (l := []) (by kernel_rfl) (show LoopsOK Try.prog Try.f41.ntmps [] LO41 from trivial)) i41 o41).congr fun x => (e41 x).symm
noncomputable def b42 : Code := (.seq (.region 0 (regOf Try.f42 0) false) (.seq (.region 1 (regOf Try.f42 1) false) .ret))
theorem body42 : Try.f42.body = some b42 := by kernel_rfl
noncomputable def C42 : Tab := []
theorem C42_ok : TabOK Try.prog C42 := trivial
noncomputable def LO42 : Tab := []
noncomputable def i42 : Tm := { sl := [(0, .v (.p (.i .i64) (.p (.i .u64) (.p (.i .u64) (.p (.i .u8) (.p .s (.p (.l (.i .u8)) (.p (.f .f64) (.p (.i .i64) .u)))))))))], bx := [], bf := [] }
noncomputable def o42 : OT := (.ret { sl := [(0, .v (.p (.i .u64) (.p (.i .i64) .u)))], bx := [], bf := [] })
/-- anabranch/anabranchref06.At -/
noncomputable def F42 (a0 : (Int × (Int × (Int × (Int × (ByteArray × ((List Int) × (Nat × (Int × Unit))))))))) : Option (((Int × (Int × Unit)) × Unit) × Unit × Unit) :=
  (some (((a0.2.2.1, (a0.1, ())), ()), (), ()))
noncomputable def c42 : Con := ⟨i42, o42, fun x => F42 x.1.1⟩
theorem e42 (x : i42.E) : vfn Try.prog C42 LO42 Try.f42 b42 i42 o42 x = F42 x.1.1 := by kernel_rfl
theorem c42_ok : Con.OK Try.prog 42 c42 := (fn_ok C42_ok Try.func42 body42 (loops_of (l := []) (by kernel_rfl) (show LoopsOK Try.prog Try.f42.ntmps [] LO42 from trivial)) i42 o42).congr fun x => (e42 x).symm
noncomputable def b46 : Code := (.seq (.region 0 (regOf Try.f46 0) false) (.seq (.region 1 (regOf Try.f46 1) false) .ret))
theorem body46 : Try.f46.body = some b46 := by kernel_rfl
noncomputable def C46 : Tab := []
theorem C46_ok : TabOK Try.prog C46 := trivial
noncomputable def LO46 : Tab := []
noncomputable def i46 : Tm := { sl := [(0, .v (.i .i64))], bx := [], bf := [] }
noncomputable def o46 : OT := (.ret { sl := [(0, .v .b)], bx := [], bf := [] })
/-- anabranch/event.node -/
noncomputable def F46 (a0 : Int) : Option ((Bool × Unit) × Unit × Unit) :=
  (bif (decide ((a0 : Int) ≥ 0)) then (some (((decide ((a0 : Int) < 64)), ()), (), ())) else (some ((false, ()), (), ())))
noncomputable def c46 : Con := ⟨i46, o46, fun x => F46 x.1.1⟩
theorem e46 (x : i46.E) : vfn Try.prog C46 LO46 Try.f46 b46 i46 o46 x = F46 x.1.1 := by kernel_rfl
theorem c46_ok : Con.OK Try.prog 46 c46 := (fn_ok C46_ok Try.func46 body46 (loops_of (l := []) (by kernel_rfl) (show LoopsOK Try.prog Try.f46.ntmps [] LO46 from trivial)) i46 o46).congr fun x => (e46 x).symm
noncomputable def l56_1 : Code := (.seq (.seq (.region 1 (regOf Try.f56 1) false) (.cond (.tmp 6) .skip (.exit 0))) (.seq (.block 1 (.region 3 (regOf Try.f56 3) false)) (.region 2 (regOf Try.f56 2) false)))
noncomputable def b56 : Code := (.seq (.region 0 (regOf Try.f56 0) false) (.seq (.block 0 (.loop l56_1)) (.seq (.region 4 (regOf Try.f56 4) false) .ret)))
theorem body56 : Try.f56.body = some b56 := by kernel_rfl
noncomputable def C56_1 : Tab := []
theorem C56_1_ok : TabOK Try.prog C56_1 := trivial
noncomputable def LO56_1 : Tab := []
noncomputable def i56_1 : Tm := { sl := [(0, .o 0), (1, .v (.i .u64))], bx := [], bf := [(.i .u8)] }
noncomputable def o56_1 : OT := (.exit 0 { sl := [(0, .o 0), (1, .v (.i .u64))], bx := [], bf := [(.i .u8)] })
noncomputable def T56_1 (a1 : Int) (q0 : (List Int)) : Option (((Unit × (Int × Unit)) × Unit × ((List Int) × Unit)) ⊕ ((Unit × (Int × Unit)) × Unit × ((List Int) × Unit))) :=
  (bif (decide ((a1 : Int) ≥ 128)) then (bif (decide ((q0).length + ([(iOr .u8 (IntKind.wrap .u8 a1) 128)]).length < lim)) then (some (.inl (((), (iShr .u64 a1 7), ()), (), ((q0 ++ [(iOr .u8 (IntKind.wrap .u8 a1) 128)]), ())))) else none) else (some (.inr (((), a1, ()), (), (q0, ())))))
noncomputable def L56_1 (a1 : Int) (q0 : (List Int)) : Option ((Unit × (Int × Unit)) × Unit × ((List Int) × Unit)) := loopF (fun x : ((Unit × (Int × Unit)) × Unit × ((List Int) × Unit)) => T56_1 x.1.2.1 x.2.2.1) (((), a1, ()), (), (q0, ()))
theorem L56_1_eq (a1 : Int) (q0 : (List Int)) : L56_1 a1 q0 = (T56_1 a1 q0).bind (Sum.elim (fun x => L56_1 x.1.2.1 x.2.2.1) some) := loopF_eq _ _
noncomputable def k56_1 : Con := ⟨i56_1, o56_1, fun x => L56_1 x.1.2.1 x.2.2.1⟩
theorem e56_1 (x : i56_1.E) : vround Try.prog C56_1 LO56_1 Try.f56.ntmps l56_1 i56_1 o56_1 x = T56_1 x.1.2.1 x.2.2.1 := by kernel_rfl
theorem k56_1_ok : Con.LOK Try.prog Try.f56.ntmps l56_1 k56_1 := (loop_ok C56_1_ok (loops_of (l := []) (by kernel_rfl) (show LoopsOK Try.prog Try.f56.ntmps [] LO56_1 from trivial)) i56_1 o56_1).congr fun x => (congrArg (fun T => loopF T x) (funext e56_1)).symm
noncomputable def C56 : Tab := []
theorem C56_ok : TabOK Try.prog C56 := trivial
noncomputable def LO56 : Tab := [(1, k56_1)]
noncomputable def i56 : Tm := { sl := [(0, .o 0), (1, .v (.i .u64))], bx := [], bf := [(.i .u8)] }
noncomputable def o56 : OT := (.ret { sl := [(0, .o 0)], bx := [], bf := [(.i .u8)] })
/-- anabranch/digits.Lay -/
noncomputable def F56 (a1 : Int) (q0 : (List Int)) : Option ((Unit × Unit) × Unit × ((List Int) × Unit)) :=
  ((L56_1 a1 q0).bind fun y10 => (bif (decide ((y10.2.2.1).length + ([(IntKind.wrap .u8 y10.1.2.1)]).length < lim)) then (some (((), ()), (), ((y10.2.2.1 ++ [(IntKind.wrap .u8 y10.1.2.1)]), ()))) else none))
noncomputable def c56 : Con := ⟨i56, o56, fun x => F56 x.1.2.1 x.2.2.1⟩
theorem e56 (x : i56.E) : vfn Try.prog C56 LO56 Try.f56 b56 i56 o56 x = F56 x.1.2.1 x.2.2.1 := by kernel_rfl
theorem c56_ok : Con.OK Try.prog 56 c56 := (fn_ok C56_ok Try.func56 body56 (loops_of (l := [l56_1]) (by kernel_rfl) (show LoopsOK Try.prog Try.f56.ntmps [l56_1] LO56 from ⟨k56_1_ok, trivial⟩)) i56 o56).congr fun x => (e56 x).symm
noncomputable def l57_3 : Code := (.seq (.seq (.region 3 (regOf Try.f57 3) false) (.cond (.tmp 10) .skip (.exit 0))) (.block 1 (.seq (.region 4 (regOf Try.f57 4) false) (.region 5 (regOf Try.f57 5) false))))
noncomputable def b57 : Code := (.seq (.region 0 (regOf Try.f57 0) false) (.seq (.region 1 (regOf Try.f57 1) false) (.seq (.region 2 (regOf Try.f57 2) false) (.seq (.block 0 (.loop l57_3)) (.seq (.region 6 (regOf Try.f57 6) false) .ret)))))
theorem body57 : Try.f57.body = some b57 := by kernel_rfl
noncomputable def C57_3 : Tab := []
theorem C57_3_ok : TabOK Try.prog C57_3 := trivial
noncomputable def LO57_3 : Tab := []
noncomputable def i57_3 : Tm := { sl := [(1, .v (.i .u64)), (5, .o 0)], bx := [], bf := [(.i .u8)] }
noncomputable def o57_3 : OT := (.exit 0 { sl := [(1, .v (.i .u64)), (5, .o 0)], bx := [], bf := [(.i .u8)] })
noncomputable def T57_3 (a1 : Int) (q0 : (List Int)) : Option (((Int × (Unit × Unit)) × Unit × ((List Int) × Unit)) ⊕ ((Int × (Unit × Unit)) × Unit × ((List Int) × Unit))) :=
  (bif (decide ((a1 : Int) > 127)) then (bif (decide ((q0).length + ([(IntKind.wrap .u8 (IntKind.wrap .u64 (128 + ((a1 : Int).tmod 128))))]).length < lim)) then (some (.inl (((IntKind.wrap .u64 ((a1 : Int).tdiv 128)), (), ()), (), ((q0 ++ [(IntKind.wrap .u8 (IntKind.wrap .u64 (128 + ((a1 : Int).tmod 128))))]), ())))) else none) else (some (.inr ((a1, (), ()), (), (q0, ())))))
noncomputable def L57_3 (a1 : Int) (q0 : (List Int)) : Option ((Int × (Unit × Unit)) × Unit × ((List Int) × Unit)) := loopF (fun x : ((Int × (Unit × Unit)) × Unit × ((List Int) × Unit)) => T57_3 x.1.1 x.2.2.1) ((a1, (), ()), (), (q0, ()))
theorem L57_3_eq (a1 : Int) (q0 : (List Int)) : L57_3 a1 q0 = (T57_3 a1 q0).bind (Sum.elim (fun x => L57_3 x.1.1 x.2.2.1) some) := loopF_eq _ _
noncomputable def k57_3 : Con := ⟨i57_3, o57_3, fun x => L57_3 x.1.1 x.2.2.1⟩
theorem e57_3 (x : i57_3.E) : vround Try.prog C57_3 LO57_3 Try.f57.ntmps l57_3 i57_3 o57_3 x = T57_3 x.1.1 x.2.2.1 := by kernel_rfl
theorem k57_3_ok : Con.LOK Try.prog Try.f57.ntmps l57_3 k57_3 := (loop_ok C57_3_ok (loops_of (l := []) (by kernel_rfl) (show LoopsOK Try.prog Try.f57.ntmps [] LO57_3 from trivial)) i57_3 o57_3).congr fun x => (congrArg (fun T => loopF T x) (funext e57_3)).symm
noncomputable def C57 : Tab := []
theorem C57_ok : TabOK Try.prog C57 := trivial
noncomputable def LO57 : Tab := [(3, k57_3)]
noncomputable def i57 : Tm := { sl := [(0, .v (.l (.i .u8))), (1, .v (.i .u64))], bx := [], bf := [] }
noncomputable def o57 : OT := (.ret { sl := [(0, .o 0)], bx := [], bf := [(.i .u8)] })
/-- anabranch/anabranchref01.Lay -/
noncomputable def F57 (a0 : (List Int)) (a1 : Int) : Option ((Unit × Unit) × Unit × ((List Int) × Unit)) :=
  (bif (decide ((a0).length < lim)) then ((L57_3 a1 a0).bind fun y11 => (bif (decide ((y11.2.2.1).length + ([(IntKind.wrap .u8 y11.1.1)]).length < lim)) then (some (((), ()), (), ((y11.2.2.1 ++ [(IntKind.wrap .u8 y11.1.1)]), ()))) else none)) else none)
noncomputable def c57 : Con := ⟨i57, o57, fun x => F57 x.1.1 x.1.2.1⟩
theorem e57 (x : i57.E) : vfn Try.prog C57 LO57 Try.f57 b57 i57 o57 x = F57 x.1.1 x.1.2.1 := by kernel_rfl
theorem c57_ok : Con.OK Try.prog 57 c57 := (fn_ok C57_ok Try.func57 body57 (loops_of (l := [l57_3]) (by kernel_rfl) (show LoopsOK Try.prog Try.f57.ntmps [l57_3] LO57 from ⟨k57_3_ok, trivial⟩)) i57 o57).congr fun x => (e57 x).symm
noncomputable def b62 : Code := (.seq (.region 0 (regOf Try.f62 0) false) (.seq (.region 1 (regOf Try.f62 1) false) .ret))
theorem body62 : Try.f62.body = some b62 := by kernel_rfl
noncomputable def C62 : Tab := [(56, c56)]
theorem C62_ok : TabOK Try.prog C62 := ⟨c56_ok, trivial⟩
noncomputable def LO62 : Tab := []
noncomputable def i62 : Tm := { sl := [(0, .o 0), (1, .v (.l (.i .u8)))], bx := [], bf := [(.i .u8)] }
noncomputable def o62 : OT := (.ret { sl := [(0, .o 0)], bx := [], bf := [(.i .u8)] })
/-- anabranch/digits.LayText -/
noncomputable def F62 (a1 : (List Int)) (q0 : (List Int)) : Option ((Unit × Unit) × Unit × ((List Int) × Unit)) :=
  ((F56 (IntKind.wrap .u64 (((a1).length : Nat) : Int)) q0).bind fun y12 => (bif (decide ((y12.2.2.1).length + (a1).length < lim)) then (some (((), ()), (), ((y12.2.2.1 ++ a1), ()))) else none))
noncomputable def c62 : Con := ⟨i62, o62, fun x => F62 x.1.2.1 x.2.2.1⟩
theorem e62 (x : i62.E) : vfn Try.prog C62 LO62 Try.f62 b62 i62 o62 x = F62 x.1.2.1 x.2.2.1 := by kernel_rfl
theorem c62_ok : Con.OK Try.prog 62 c62 := (fn_ok C62_ok Try.func62 body62 (loops_of (l := []) (by kernel_rfl) (show LoopsOK Try.prog Try.f62.ntmps [] LO62 from trivial)) i62 o62).congr fun x => (e62 x).symm
noncomputable def l63_2 : Code := (.seq (.seq (.region 2 (regOf Try.f63 2) false) (.cond (.tmp 7) .skip (.exit 0))) (.seq (.block 1 (.region 4 (regOf Try.f63 4) false)) (.region 3 (regOf Try.f63 3) false)))
noncomputable def b63 : Code := (.seq (.region 0 (regOf Try.f63 0) false) (.seq (.seq (.region 1 (regOf Try.f63 1) false) (.block 0 (.loop l63_2))) (.seq (.region 5 (regOf Try.f63 5) false) .ret)))
theorem body63 : Try.f63.body = some b63 := by kernel_rfl
noncomputable def C63_2 : Tab := []
theorem C63_2_ok : TabOK Try.prog C63_2 := trivial
noncomputable def LO63_2 : Tab := []
noncomputable def i63_2 : Tm := { sl := [(0, .o 0), (1, .v (.i .u64)), (5, .v (.i .i64))], bx := [], bf := [(.i .u8)] }
noncomputable def o63_2 : OT := (.exit 0 { sl := [(0, .o 0)], bx := [], bf := [(.i .u8)] })
noncomputable def T63_2 (a1 : Int) (a5 : Int) (q0 : (List Int)) : Option (((Unit × (Int × (Int × Unit))) × Unit × ((List Int) × Unit)) ⊕ ((Unit × Unit) × Unit × ((List Int) × Unit))) :=
  (bif (decide ((a5 : Int) ≥ 0)) then (bif (decide ((0 : Int) ≤ (IntKind.wrap .i64 (8 * a5)))) then (bif (decide ((q0).length + ([(IntKind.wrap .u8 (iShr .u64 a1 (IntKind.wrap .i64 (8 * a5))))]).length < lim)) then (some (.inl (((), a1, (IntKind.wrap .i64 (a5 - 1)), ()), (), ((q0 ++ [(IntKind.wrap .u8 (iShr .u64 a1 (IntKind.wrap .i64 (8 * a5))))]), ())))) else none) else none) else (some (.inr (((), ()), (), (q0, ())))))
noncomputable def L63_2 (a1 : Int) (a5 : Int) (q0 : (List Int)) : Option ((Unit × Unit) × Unit × ((List Int) × Unit)) := loopF (fun x : ((Unit × (Int × (Int × Unit))) × Unit × ((List Int) × Unit)) => T63_2 x.1.2.1 x.1.2.2.1 x.2.2.1) (((), a1, a5, ()), (), (q0, ()))
theorem L63_2_eq (a1 : Int) (a5 : Int) (q0 : (List Int)) : L63_2 a1 a5 q0 = (T63_2 a1 a5 q0).bind (Sum.elim (fun x => L63_2 x.1.2.1 x.1.2.2.1 x.2.2.1) some) := loopF_eq _ _
noncomputable def k63_2 : Con := ⟨i63_2, o63_2, fun x => L63_2 x.1.2.1 x.1.2.2.1 x.2.2.1⟩
theorem e63_2 (x : i63_2.E) : vround Try.prog C63_2 LO63_2 Try.f63.ntmps l63_2 i63_2 o63_2 x = T63_2 x.1.2.1 x.1.2.2.1 x.2.2.1 := by kernel_rfl
theorem k63_2_ok : Con.LOK Try.prog Try.f63.ntmps l63_2 k63_2 := (loop_ok C63_2_ok (loops_of (l := []) (by kernel_rfl) (show LoopsOK Try.prog Try.f63.ntmps [] LO63_2 from trivial)) i63_2 o63_2).congr fun x => (congrArg (fun T => loopF T x) (funext e63_2)).symm
noncomputable def C63 : Tab := []
theorem C63_ok : TabOK Try.prog C63 := trivial
noncomputable def LO63 : Tab := [(2, k63_2)]
noncomputable def i63 : Tm := { sl := [(0, .o 0), (1, .v (.i .u64))], bx := [], bf := [(.i .u8)] }
noncomputable def o63 : OT := (.ret { sl := [(0, .o 0)], bx := [], bf := [(.i .u8)] })
/-- anabranch/digits.LayFixed -/
noncomputable def F63 (a1 : Int) (q0 : (List Int)) : Option ((Unit × Unit) × Unit × ((List Int) × Unit)) :=
  ((L63_2 a1 7 q0).bind fun y13 => (some (((), ()), (), (y13.2.2.1, ()))))
noncomputable def c63 : Con := ⟨i63, o63, fun x => F63 x.1.2.1 x.2.2.1⟩
theorem e63 (x : i63.E) : vfn Try.prog C63 LO63 Try.f63 b63 i63 o63 x = F63 x.1.2.1 x.2.2.1 := by kernel_rfl
theorem c63_ok : Con.OK Try.prog 63 c63 := (fn_ok C63_ok Try.func63 body63 (loops_of (l := [l63_2]) (by kernel_rfl) (show LoopsOK Try.prog Try.f63.ntmps [l63_2] LO63 from ⟨k63_2_ok, trivial⟩)) i63 o63).congr fun x => (e63 x).symm
noncomputable def b58 : Code := (.seq (.region 0 (regOf Try.f58 0) false) (.seq (.region 1 (regOf Try.f58 1) false) .ret))
theorem body58 : Try.f58.body = some b58 := by kernel_rfl
noncomputable def C58 : Tab := [(57, c57)]
theorem C58_ok : TabOK Try.prog C58 := ⟨c57_ok, trivial⟩
noncomputable def LO58 : Tab := []
noncomputable def i58 : Tm := { sl := [(0, .v (.l (.i .u8))), (1, .v (.l (.i .u8)))], bx := [], bf := [] }
noncomputable def o58 : OT := (.ret { sl := [(0, .o 0)], bx := [], bf := [(.i .u8)] })
/-- anabranch/anabranchref01.Text -/
noncomputable def F58 (a0 : (List Int)) (a1 : (List Int)) : Option ((Unit × Unit) × Unit × ((List Int) × Unit)) :=
  ((F57 a0 (IntKind.wrap .u64 (((a1).length : Nat) : Int))).bind fun y14 => (bif (decide ((y14.2.2.1).length + (a1).length < lim)) then (some (((), ()), (), ((y14.2.2.1 ++ a1), ()))) else none))
noncomputable def c58 : Con := ⟨i58, o58, fun x => F58 x.1.1 x.1.2.1⟩
theorem e58 (x : i58.E) : vfn Try.prog C58 LO58 Try.f58 b58 i58 o58 x = F58 x.1.1 x.1.2.1 := by kernel_rfl
theorem c58_ok : Con.OK Try.prog 58 c58 := (fn_ok C58_ok Try.func58 body58 (loops_of (l := []) (by kernel_rfl) (show LoopsOK Try.prog Try.f58.ntmps [] LO58 from trivial)) i58 o58).congr fun x => (e58 x).symm
noncomputable def l59_4 : Code := (.seq (.seq (.region 4 (regOf Try.f59 4) false) (.cond (.tmp 11) .skip (.exit 0))) (.seq (.block 1 (.region 6 (regOf Try.f59 6) false)) (.region 5 (regOf Try.f59 5) false)))
noncomputable def b59 : Code := (.seq (.region 0 (regOf Try.f59 0) false) (.seq (.region 1 (regOf Try.f59 1) false) (.seq (.region 2 (regOf Try.f59 2) false) (.seq (.seq (.region 3 (regOf Try.f59 3) false) (.block 0 (.loop l59_4))) (.seq (.region 7 (regOf Try.f59 7) false) .ret)))))
theorem body59 : Try.f59.body = some b59 := by kernel_rfl
noncomputable def C59_4 : Tab := []
theorem C59_4_ok : TabOK Try.prog C59_4 := trivial
noncomputable def LO59_4 : Tab := []
noncomputable def i59_4 : Tm := { sl := [(1, .v (.i .u64)), (5, .o 0), (6, .v (.i .i64))], bx := [], bf := [(.i .u8)] }
noncomputable def o59_4 : OT := (.exit 0 { sl := [(5, .o 0)], bx := [], bf := [(.i .u8)] })
noncomputable def T59_4 (a1 : Int) (a6 : Int) (q0 : (List Int)) : Option (((Int × (Unit × (Int × Unit))) × Unit × ((List Int) × Unit)) ⊕ ((Unit × Unit) × Unit × ((List Int) × Unit))) :=
  (bif (decide ((a6 : Int) < 8)) then (bif (decide ((0 : Int) ≤ (IntKind.wrap .i64 (56 - (IntKind.wrap .i64 (8 * a6)))))) then (bif (decide ((q0).length + ([(IntKind.wrap .u8 (iShr .u64 a1 (IntKind.wrap .i64 (56 - (IntKind.wrap .i64 (8 * a6))))))]).length < lim)) then (some (.inl ((a1, (), (IntKind.wrap .i64 (a6 + 1)), ()), (), ((q0 ++ [(IntKind.wrap .u8 (iShr .u64 a1 (IntKind.wrap .i64 (56 - (IntKind.wrap .i64 (8 * a6))))))]), ())))) else none) else none) else (some (.inr (((), ()), (), (q0, ())))))
noncomputable def L59_4 (a1 : Int) (a6 : Int) (q0 : (List Int)) : Option ((Unit × Unit) × Unit × ((List Int) × Unit)) := loopF (fun x : ((Int × (Unit × (Int × Unit))) × Unit × ((List Int) × Unit)) => T59_4 x.1.1 x.1.2.2.1 x.2.2.1) ((a1, (), a6, ()), (), (q0, ()))
theorem L59_4_eq (a1 : Int) (a6 : Int) (q0 : (List Int)) : L59_4 a1 a6 q0 = (T59_4 a1 a6 q0).bind (Sum.elim (fun x => L59_4 x.1.1 x.1.2.2.1 x.2.2.1) some) := loopF_eq _ _
noncomputable def k59_4 : Con := ⟨i59_4, o59_4, fun x => L59_4 x.1.1 x.1.2.2.1 x.2.2.1⟩
theorem e59_4 (x : i59_4.E) : vround Try.prog C59_4 LO59_4 Try.f59.ntmps l59_4 i59_4 o59_4 x = T59_4 x.1.1 x.1.2.2.1 x.2.2.1 := by kernel_rfl
theorem k59_4_ok : Con.LOK Try.prog Try.f59.ntmps l59_4 k59_4 := (loop_ok C59_4_ok (loops_of (l := []) (by kernel_rfl) (show LoopsOK Try.prog Try.f59.ntmps [] LO59_4 from trivial)) i59_4 o59_4).congr fun x => (congrArg (fun T => loopF T x) (funext e59_4)).symm
noncomputable def C59 : Tab := []
theorem C59_ok : TabOK Try.prog C59 := trivial
noncomputable def LO59 : Tab := [(4, k59_4)]
noncomputable def i59 : Tm := { sl := [(0, .v (.l (.i .u8))), (1, .v (.i .u64))], bx := [], bf := [] }
noncomputable def o59 : OT := (.ret { sl := [(0, .o 0)], bx := [], bf := [(.i .u8)] })
/-- anabranch/anabranchref01.Fixed -/
noncomputable def F59 (a0 : (List Int)) (a1 : Int) : Option ((Unit × Unit) × Unit × ((List Int) × Unit)) :=
  (bif (decide ((a0).length < lim)) then ((L59_4 a1 0 a0).bind fun y15 => (some (((), ()), (), (y15.2.2.1, ())))) else none)
noncomputable def c59 : Con := ⟨i59, o59, fun x => F59 x.1.1 x.1.2.1⟩
theorem e59 (x : i59.E) : vfn Try.prog C59 LO59 Try.f59 b59 i59 o59 x = F59 x.1.1 x.1.2.1 := by kernel_rfl
theorem c59_ok : Con.OK Try.prog 59 c59 := (fn_ok C59_ok Try.func59 body59 (loops_of (l := [l59_4]) (by kernel_rfl) (show LoopsOK Try.prog Try.f59.ntmps [l59_4] LO59 from ⟨k59_4_ok, trivial⟩)) i59 o59).congr fun x => (e59 x).symm
noncomputable def b71 : Code := (.seq (.region 0 (regOf Try.f71 0) false) (.seq (.region 1 (regOf Try.f71 1) false) .ret))
theorem body71 : Try.f71.body = some b71 := by kernel_rfl
noncomputable def C71 : Tab := []
theorem C71_ok : TabOK Try.prog C71 := trivial
noncomputable def LO71 : Tab := []
noncomputable def i71 : Tm := { sl := [(0, .v (.f .f64))], bx := [], bf := [] }
noncomputable def o71 : OT := (.ret { sl := [(0, .v .b)], bx := [], bf := [] })
/-- anabranch/anabranchref01.Void -/
noncomputable def F71 (a0 : Nat) : Option ((Bool × Unit) × Unit × Unit) :=
  (some ((((FloatKind.f64).format.order (a0) (a0) != some Ordering.eq), ()), (), ()))
noncomputable def c71 : Con := ⟨i71, o71, fun x => F71 x.1.1⟩
theorem e71 (x : i71.E) : vfn Try.prog C71 LO71 Try.f71 b71 i71 o71 x = F71 x.1.1 := by kernel_rfl
theorem c71_ok : Con.OK Try.prog 71 c71 := (fn_ok C71_ok Try.func71 body71 (loops_of (l := []) (by kernel_rfl) (show LoopsOK Try.prog Try.f71.ntmps [] LO71 from trivial)) i71 o71).congr fun x => (e71 x).symm
noncomputable def b77 : Code := (.seq (.region 0 (regOf Try.f77 0) false) (.seq (.region 1 (regOf Try.f77 1) false) .ret))
theorem body77 : Try.f77.body = some b77 := by kernel_rfl
noncomputable def C77 : Tab := []
theorem C77_ok : TabOK Try.prog C77 := trivial
noncomputable def LO77 : Tab := []
noncomputable def i77 : Tm := { sl := [(0, .v (.f .f64))], bx := [], bf := [] }
noncomputable def o77 : OT := (.ret { sl := [(0, .v .b)], bx := [], bf := [] })
/-- math.IsNaN -/
noncomputable def F77 (a0 : Nat) : Option ((Bool × Unit) × Unit × Unit) :=
  (some ((((FloatKind.f64).format.order (a0) (a0) != some Ordering.eq), ()), (), ()))
noncomputable def c77 : Con := ⟨i77, o77, fun x => F77 x.1.1⟩
theorem e77 (x : i77.E) : vfn Try.prog C77 LO77 Try.f77 b77 i77 o77 x = F77 x.1.1 := by kernel_rfl
theorem c77_ok : Con.OK Try.prog 77 c77 := (fn_ok C77_ok Try.func77 body77 (loops_of (l := []) (by kernel_rfl) (show LoopsOK Try.prog Try.f77.ntmps [] LO77 from trivial)) i77 o77).congr fun x => (e77 x).symm
noncomputable def b60 : Code := (.seq (.region 0 (regOf Try.f60 0) false) (.seq (.seq (.region 1 (regOf Try.f60 1) false) (.cond (.tmp 4) (.seq (.region 2 (regOf Try.f60 2) false) .ret) .skip)) (.seq (.region 3 (regOf Try.f60 3) false) .ret)))
theorem body60 : Try.f60.body = some b60 := by kernel_rfl
noncomputable def C60 : Tab := [(71, c71)]
theorem C60_ok : TabOK Try.prog C60 := ⟨c71_ok, trivial⟩
noncomputable def LO60 : Tab := []
noncomputable def i60 : Tm := { sl := [(0, .v (.f .f64))], bx := [], bf := [] }
noncomputable def o60 : OT := (.ret { sl := [(0, .v (.i .u64))], bx := [], bf := [] })
/-- anabranch/anabranchref01.Bits -/
noncomputable def F60 (a0 : Nat) : Option ((Int × Unit) × Unit × Unit) :=
  ((F71 a0).bind fun y16 => (bif y16.1.1 then (some ((9221120237041090561, ()), (), ())) else (some (((((a0) : Nat) : Int), ()), (), ()))))
noncomputable def c60 : Con := ⟨i60, o60, fun x => F60 x.1.1⟩
theorem e60 (x : i60.E) : vfn Try.prog C60 LO60 Try.f60 b60 i60 o60 x = F60 x.1.1 := by kernel_rfl
theorem c60_ok : Con.OK Try.prog 60 c60 := (fn_ok C60_ok Try.func60 body60 (loops_of (l := []) (by kernel_rfl) (show LoopsOK Try.prog Try.f60.ntmps [] LO60 from trivial)) i60 o60).congr fun x => (e60 x).symm
noncomputable def b64 : Code := (.seq (.region 0 (regOf Try.f64 0) false) (.seq (.seq (.region 1 (regOf Try.f64 1) false) (.cond (.tmp 4) (.seq (.region 2 (regOf Try.f64 2) false) .ret) .skip)) (.seq (.region 3 (regOf Try.f64 3) false) .ret)))
theorem body64 : Try.f64.body = some b64 := by kernel_rfl
noncomputable def C64 : Tab := [(77, c77)]
theorem C64_ok : TabOK Try.prog C64 := ⟨c77_ok, trivial⟩
noncomputable def LO64 : Tab := []
noncomputable def i64 : Tm := { sl := [(0, .v (.f .f64))], bx := [], bf := [] }
noncomputable def o64 : OT := (.ret { sl := [(0, .v (.i .u64))], bx := [], bf := [] })
/-- anabranch/quantity.Bits -/
noncomputable def F64 (a0 : Nat) : Option ((Int × Unit) × Unit × Unit) :=
  ((F77 a0).bind fun y17 => (bif y17.1.1 then (some ((9221120237041090561, ()), (), ())) else (some (((((a0) : Nat) : Int), ()), (), ()))))
noncomputable def c64 : Con := ⟨i64, o64, fun x => F64 x.1.1⟩
theorem e64 (x : i64.E) : vfn Try.prog C64 LO64 Try.f64 b64 i64 o64 x = F64 x.1.1 := by kernel_rfl
theorem c64_ok : Con.OK Try.prog 64 c64 := (fn_ok C64_ok Try.func64 body64 (loops_of (l := []) (by kernel_rfl) (show LoopsOK Try.prog Try.f64.ntmps [] LO64 from trivial)) i64 o64).congr fun x => (e64 x).symm
noncomputable def b47 : Code := (.seq (.region 0 (regOf Try.f47 0) false) (.seq (.region 1 (regOf Try.f47 1) false) .ret))
theorem body47 : Try.f47.body = some b47 := by kernel_rfl
noncomputable def C47 : Tab := [(64, c64)]
theorem C47_ok : TabOK Try.prog C47 := ⟨c64_ok, trivial⟩
noncomputable def LO47 : Tab := []
noncomputable def i47 : Tm := { sl := [(0, .v (.f .f64))], bx := [], bf := [] }
noncomputable def o47 : OT := (.ret { sl := [(0, .v (.f .f64))], bx := [], bf := [] })
/-- anabranch/quantity.Plain -/
noncomputable def F47 (a0 : Nat) : Option ((Nat × Unit) × Unit × Unit) :=
  ((F64 a0).bind fun y18 => (some (((y18.1.1 : Int).toNat, ()), (), ())))
noncomputable def c47 : Con := ⟨i47, o47, fun x => F47 x.1.1⟩
theorem e47 (x : i47.E) : vfn Try.prog C47 LO47 Try.f47 b47 i47 o47 x = F47 x.1.1 := by kernel_rfl
theorem c47_ok : Con.OK Try.prog 47 c47 := (fn_ok C47_ok Try.func47 body47 (loops_of (l := []) (by kernel_rfl) (show LoopsOK Try.prog Try.f47.ntmps [] LO47 from trivial)) i47 o47).congr fun x => (e47 x).symm
noncomputable def b25 : Code := (.seq (.region 0 (regOf Try.f25 0) false) (.seq (.region 1 (regOf Try.f25 1) false) (.seq (.block 0 (.seq (.region 2 (regOf Try.f25 2) false) (.cond (.tmp 12) (.seq (.region 3 (regOf Try.f25 3) false) .ret) (.seq (.region 4 (regOf Try.f25 4) false) (.cond (.tmp 48) (.seq (.region 5 (regOf Try.f25 5) false) .ret) (.seq (.region 6 (regOf Try.f25 6) false) (.cond (.tmp 73) (.seq (.region 7 (regOf Try.f25 7) false) .ret) .skip))))))) (.seq (.region 8 (regOf Try.f25 8) false) .ret))))
theorem body25 : Try.f25.body = some b25 := by kernel_rfl
noncomputable def C25 : Tab := [(46, c46)]
theorem C25_ok : TabOK Try.prog C25 := ⟨c46_ok, trivial⟩
noncomputable def LO25 : Tab := []
noncomputable def i25 : Tm := { sl := [(0, .v (.p (.i .i64) (.p (.i .u64) (.p (.i .u64) (.p (.i .u8) (.p .s (.p (.l (.i .u8)) (.p (.f .f64) (.p (.i .i64) .u)))))))))], bx := [], bf := [] }
noncomputable def o25 : OT := (.ret { sl := [(0, .v (.i .i64))], bx := [], bf := [] })
/-- anabranch/event.Right -/
noncomputable def F25 (a0 : (Int × (Int × (Int × (Int × (ByteArray × ((List Int) × (Nat × (Int × Unit))))))))) : Option ((Int × Unit) × Unit × Unit) :=
  (bif (decide ((a0.2.2.2.1 : Int) ≥ 1)) then ((F46 a0.1).bind fun y19 => (bif (!y19.1.1) then (some ((1, ()), (), ())) else (bif ((a0.2.1 : Int) == 0) then (some ((1, ()), (), ())) else (bif ((a0.2.2.1 : Int) == 0) then (some ((1, ()), (), ())) else (bif (decide ((a0.2.2.2.1 : Int) < 1)) then (some ((1, ()), (), ())) else (bif (decide ((a0.2.2.2.1 : Int) > 6)) then (some ((1, ()), (), ())) else (bif ((a0.2.2.2.1 : Int) == 5) then ((F46 a0.2.2.2.2.2.2.2.1).bind fun y20 => (bif (!y20.1.1) then (some ((1, ()), (), ())) else (bif (decide ((a0.2.2.2.1 : Int) ≤ 4)) then (bif ((((a0.2.2.2.2.1.size : Nat) : Int) : Int) == 0) then (some ((6, ()), (), ())) else (bif (decide ((((a0.2.2.2.2.1.size : Nat) : Int) : Int) > 64)) then (some ((6, ()), (), ())) else (bif ((a0.2.2.2.1 : Int) == 1) then (bif (decide (((((a0.2.2.2.2.2.1).length : Nat) : Int) : Int) > 1048576)) then (some ((6, ()), (), ())) else (bif (decide ((a0.2.1 : Int) > 9223372036854775807)) then (some ((8, ()), (), ())) else (bif (decide ((a0.2.2.1 : Int) > 9223372036854775807)) then (some ((8, ()), (), ())) else (some ((0, ()), (), ()))))) else (bif (decide ((a0.2.1 : Int) > 9223372036854775807)) then (some ((8, ()), (), ())) else (bif (decide ((a0.2.2.1 : Int) > 9223372036854775807)) then (some ((8, ()), (), ())) else (some ((0, ()), (), ()))))))) else (bif ((a0.2.2.2.1 : Int) == 1) then (bif (decide (((((a0.2.2.2.2.2.1).length : Nat) : Int) : Int) > 1048576)) then (some ((6, ()), (), ())) else (bif (decide ((a0.2.1 : Int) > 9223372036854775807)) then (some ((8, ()), (), ())) else (bif (decide ((a0.2.2.1 : Int) > 9223372036854775807)) then (some ((8, ()), (), ())) else (some ((0, ()), (), ()))))) else (bif (decide ((a0.2.1 : Int) > 9223372036854775807)) then (some ((8, ()), (), ())) else (bif (decide ((a0.2.2.1 : Int) > 9223372036854775807)) then (some ((8, ()), (), ())) else (some ((0, ()), (), ())))))))) else (bif (decide ((a0.2.2.2.1 : Int) ≤ 4)) then (bif ((((a0.2.2.2.2.1.size : Nat) : Int) : Int) == 0) then (some ((6, ()), (), ())) else (bif (decide ((((a0.2.2.2.2.1.size : Nat) : Int) : Int) > 64)) then (some ((6, ()), (), ())) else (bif ((a0.2.2.2.1 : Int) == 1) then (bif (decide (((((a0.2.2.2.2.2.1).length : Nat) : Int) : Int) > 1048576)) then (some ((6, ()), (), ())) else (bif (decide ((a0.2.1 : Int) > 9223372036854775807)) then (some ((8, ()), (), ())) else (bif (decide ((a0.2.2.1 : Int) > 9223372036854775807)) then (some ((8, ()), (), ())) else (some ((0, ()), (), ()))))) else (bif (decide ((a0.2.1 : Int) > 9223372036854775807)) then (some ((8, ()), (), ())) else (bif (decide ((a0.2.2.1 : Int) > 9223372036854775807)) then (some ((8, ()), (), ())) else (some ((0, ()), (), ()))))))) else (bif ((a0.2.2.2.1 : Int) == 1) then (bif (decide (((((a0.2.2.2.2.2.1).length : Nat) : Int) : Int) > 1048576)) then (some ((6, ()), (), ())) else (bif (decide ((a0.2.1 : Int) > 9223372036854775807)) then (some ((8, ()), (), ())) else (bif (decide ((a0.2.2.1 : Int) > 9223372036854775807)) then (some ((8, ()), (), ())) else (some ((0, ()), (), ()))))) else (bif (decide ((a0.2.1 : Int) > 9223372036854775807)) then (some ((8, ()), (), ())) else (bif (decide ((a0.2.2.1 : Int) > 9223372036854775807)) then (some ((8, ()), (), ())) else (some ((0, ()), (), ()))))))))))))) else ((F46 a0.1).bind fun y21 => (bif (!y21.1.1) then (some ((1, ()), (), ())) else (bif ((a0.2.1 : Int) == 0) then (some ((1, ()), (), ())) else (bif ((a0.2.2.1 : Int) == 0) then (some ((1, ()), (), ())) else (bif (decide ((a0.2.2.2.1 : Int) < 1)) then (some ((1, ()), (), ())) else (bif (decide ((a0.2.2.2.1 : Int) > 6)) then (some ((1, ()), (), ())) else (bif ((a0.2.2.2.1 : Int) == 5) then ((F46 a0.2.2.2.2.2.2.2.1).bind fun y22 => (bif (!y22.1.1) then (some ((1, ()), (), ())) else (bif ((a0.2.2.2.1 : Int) == 1) then (bif (decide (((((a0.2.2.2.2.2.1).length : Nat) : Int) : Int) > 1048576)) then (some ((6, ()), (), ())) else (bif (decide ((a0.2.1 : Int) > 9223372036854775807)) then (some ((8, ()), (), ())) else (bif (decide ((a0.2.2.1 : Int) > 9223372036854775807)) then (some ((8, ()), (), ())) else (some ((0, ()), (), ()))))) else (bif (decide ((a0.2.1 : Int) > 9223372036854775807)) then (some ((8, ()), (), ())) else (bif (decide ((a0.2.2.1 : Int) > 9223372036854775807)) then (some ((8, ()), (), ())) else (some ((0, ()), (), ()))))))) else (bif ((a0.2.2.2.1 : Int) == 1) then (bif (decide (((((a0.2.2.2.2.2.1).length : Nat) : Int) : Int) > 1048576)) then (some ((6, ()), (), ())) else (bif (decide ((a0.2.1 : Int) > 9223372036854775807)) then (some ((8, ()), (), ())) else (bif (decide ((a0.2.2.1 : Int) > 9223372036854775807)) then (some ((8, ()), (), ())) else (some ((0, ()), (), ()))))) else (bif (decide ((a0.2.1 : Int) > 9223372036854775807)) then (some ((8, ()), (), ())) else (bif (decide ((a0.2.2.1 : Int) > 9223372036854775807)) then (some ((8, ()), (), ())) else (some ((0, ()), (), ())))))))))))))
noncomputable def c25 : Con := ⟨i25, o25, fun x => F25 x.1.1⟩
theorem e25 (x : i25.E) : vfn Try.prog C25 LO25 Try.f25 b25 i25 o25 x = F25 x.1.1 := by kernel_rfl
theorem c25_ok : Con.OK Try.prog 25 c25 := (fn_ok C25_ok Try.func25 body25 (loops_of (l := []) (by kernel_rfl) (show LoopsOK Try.prog Try.f25.ntmps [] LO25 from trivial)) i25 o25).congr fun x => (e25 x).symm
noncomputable def b26 : Code := (.seq (.region 0 (regOf Try.f26 0) false) (.seq (.seq (.region 1 (regOf Try.f26 1) false) (.cond (.tmp 30) (.seq (.region 2 (regOf Try.f26 2) false) .ret) .skip)) (.seq (.seq (.region 3 (regOf Try.f26 3) false) (.cond (.tmp 43) (.seq (.region 4 (regOf Try.f26 4) false) .ret) .skip)) (.seq (.seq (.region 5 (regOf Try.f26 5) false) (.cond (.tmp 58) (.seq (.region 6 (regOf Try.f26 6) false) .ret) .skip)) (.seq (.seq (.region 7 (regOf Try.f26 7) false) (.cond (.tmp 67) (.seq (.region 8 (regOf Try.f26 8) false) .ret) .skip)) (.seq (.seq (.region 9 (regOf Try.f26 9) false) (.cond (.tmp 75) (.seq (.region 10 (regOf Try.f26 10) false) .ret) .skip)) (.seq (.region 11 (regOf Try.f26 11) false) .ret)))))))
theorem body26 : Try.f26.body = some b26 := by kernel_rfl
noncomputable def C26 : Tab := []
theorem C26_ok : TabOK Try.prog C26 := trivial
noncomputable def LO26 : Tab := []
noncomputable def i26 : Tm := { sl := [(0, .v (.p (.i .i64) (.p (.i .u64) (.p (.i .u64) (.p (.i .u8) (.p .s (.p (.l (.i .u8)) (.p (.f .f64) (.p (.i .i64) .u)))))))))], bx := [], bf := [] }
noncomputable def o26 : OT := (.ret { sl := [(0, .v (.i .i64))], bx := [], bf := [] })
/-- anabranch/anabranchref06.Right -/
noncomputable def F26 (a0 : (Int × (Int × (Int × (Int × (ByteArray × ((List Int) × (Nat × (Int × Unit))))))))) : Option ((Int × Unit) × Unit × Unit) :=
  (bif (decide ((a0.1 : Int) < 0)) then (some ((1, ()), (), ())) else (bif (decide ((a0.1 : Int) > 63)) then (some ((1, ()), (), ())) else (bif ((a0.2.1 : Int) == 0) then (some ((1, ()), (), ())) else (bif ((a0.2.2.1 : Int) == 0) then (some ((1, ()), (), ())) else (bif (decide ((a0.2.2.2.1 : Int) < 1)) then (some ((1, ()), (), ())) else (bif (decide ((a0.2.2.2.1 : Int) > 6)) then (some ((1, ()), (), ())) else (bif ((a0.2.2.2.1 : Int) == 5) then (bif (decide ((a0.2.2.2.2.2.2.2.1 : Int) < 0)) then (some ((1, ()), (), ())) else (bif (decide ((a0.2.2.2.2.2.2.2.1 : Int) > 63)) then (some ((1, ()), (), ())) else (bif (decide ((a0.2.2.2.1 : Int) ≤ 4)) then (bif ((((a0.2.2.2.2.1.size : Nat) : Int) : Int) == 0) then (some ((6, ()), (), ())) else (bif (decide ((((a0.2.2.2.2.1.size : Nat) : Int) : Int) > 64)) then (some ((6, ()), (), ())) else (bif ((a0.2.2.2.1 : Int) == 1) then (bif (decide (((((a0.2.2.2.2.2.1).length : Nat) : Int) : Int) > 1048576)) then (some ((6, ()), (), ())) else (bif (decide ((a0.2.1 : Int) ≥ 9223372036854775808)) then (some ((8, ()), (), ())) else (bif (decide ((a0.2.2.1 : Int) ≥ 9223372036854775808)) then (some ((8, ()), (), ())) else (some ((0, ()), (), ()))))) else (bif (decide ((a0.2.1 : Int) ≥ 9223372036854775808)) then (some ((8, ()), (), ())) else (bif (decide ((a0.2.2.1 : Int) ≥ 9223372036854775808)) then (some ((8, ()), (), ())) else (some ((0, ()), (), ()))))))) else (bif ((a0.2.2.2.1 : Int) == 1) then (bif (decide (((((a0.2.2.2.2.2.1).length : Nat) : Int) : Int) > 1048576)) then (some ((6, ()), (), ())) else (bif (decide ((a0.2.1 : Int) ≥ 9223372036854775808)) then (some ((8, ()), (), ())) else (bif (decide ((a0.2.2.1 : Int) ≥ 9223372036854775808)) then (some ((8, ()), (), ())) else (some ((0, ()), (), ()))))) else (bif (decide ((a0.2.1 : Int) ≥ 9223372036854775808)) then (some ((8, ()), (), ())) else (bif (decide ((a0.2.2.1 : Int) ≥ 9223372036854775808)) then (some ((8, ()), (), ())) else (some ((0, ()), (), ())))))))) else (bif (decide ((a0.2.2.2.1 : Int) ≤ 4)) then (bif ((((a0.2.2.2.2.1.size : Nat) : Int) : Int) == 0) then (some ((6, ()), (), ())) else (bif (decide ((((a0.2.2.2.2.1.size : Nat) : Int) : Int) > 64)) then (some ((6, ()), (), ())) else (bif ((a0.2.2.2.1 : Int) == 1) then (bif (decide (((((a0.2.2.2.2.2.1).length : Nat) : Int) : Int) > 1048576)) then (some ((6, ()), (), ())) else (bif (decide ((a0.2.1 : Int) ≥ 9223372036854775808)) then (some ((8, ()), (), ())) else (bif (decide ((a0.2.2.1 : Int) ≥ 9223372036854775808)) then (some ((8, ()), (), ())) else (some ((0, ()), (), ()))))) else (bif (decide ((a0.2.1 : Int) ≥ 9223372036854775808)) then (some ((8, ()), (), ())) else (bif (decide ((a0.2.2.1 : Int) ≥ 9223372036854775808)) then (some ((8, ()), (), ())) else (some ((0, ()), (), ()))))))) else (bif ((a0.2.2.2.1 : Int) == 1) then (bif (decide (((((a0.2.2.2.2.2.1).length : Nat) : Int) : Int) > 1048576)) then (some ((6, ()), (), ())) else (bif (decide ((a0.2.1 : Int) ≥ 9223372036854775808)) then (some ((8, ()), (), ())) else (bif (decide ((a0.2.2.1 : Int) ≥ 9223372036854775808)) then (some ((8, ()), (), ())) else (some ((0, ()), (), ()))))) else (bif (decide ((a0.2.1 : Int) ≥ 9223372036854775808)) then (some ((8, ()), (), ())) else (bif (decide ((a0.2.2.1 : Int) ≥ 9223372036854775808)) then (some ((8, ()), (), ())) else (some ((0, ()), (), ())))))))))))))
noncomputable def c26 : Con := ⟨i26, o26, fun x => F26 x.1.1⟩
theorem e26 (x : i26.E) : vfn Try.prog C26 LO26 Try.f26 b26 i26 o26 x = F26 x.1.1 := by kernel_rfl
theorem c26_ok : Con.OK Try.prog 26 c26 := (fn_ok C26_ok Try.func26 body26 (loops_of (l := []) (by kernel_rfl) (show LoopsOK Try.prog Try.f26.ntmps [] LO26 from trivial)) i26 o26).congr fun x => (e26 x).symm
noncomputable def b40 : Code := (.seq (.region 0 (regOf Try.f40 0) false) (.seq (.region 1 (regOf Try.f40 1) false) (.seq (.region 2 (regOf Try.f40 2) true) (.seq (.seq (.region 3 (regOf Try.f40 3) false) (.cond (.tmp 26) (.region 4 (regOf Try.f40 4) false) .skip)) (.seq (.seq (.region 5 (regOf Try.f40 5) false) (.block 0 (.seq (.region 6 (regOf Try.f40 6) false) (.cond (.tmp 34) (.region 7 (regOf Try.f40 7) false) (.seq (.seq (.region 8 (regOf Try.f40 8) false) (.cond (.tmp 40) .skip (.region 9 (regOf Try.f40 9) false))) (.cond (.tmp 40) (.region 10 (regOf Try.f40 10) false) (.seq (.region 11 (regOf Try.f40 11) false) (.cond (.tmp 48) (.region 12 (regOf Try.f40 12) false) .skip)))))))) (.seq (.region 13 (regOf Try.f40 13) false) .ret))))))
theorem body40 : Try.f40.body = some b40 := by kernel_rfl
noncomputable def C40 : Tab := [(56, c56), (62, c62), (63, c63), (64, c64)]
theorem C40_ok : TabOK Try.prog C40 := ⟨c56_ok, c62_ok, c63_ok, c64_ok, trivial⟩
noncomputable def LO40 : Tab := []
noncomputable def i40 : Tm := { sl := [(0, .v (.p (.i .i64) (.p (.i .u64) (.p (.i .u64) (.p (.i .u8) (.p .s (.p (.l (.i .u8)) (.p (.f .f64) (.p (.i .i64) .u)))))))))], bx := [], bf := [] }
noncomputable def o40 : OT := (.ret { sl := [(0, .o 0)], bx := [], bf := [(.i .u8)] })
/-- anabranch/event.Encode -/
noncomputable def F40 (a0 : (Int × (Int × (Int × (Int × (ByteArray × ((List Int) × (Nat × (Int × Unit))))))))) : Option ((Unit × Unit) × Unit × ((List Int) × Unit)) :=
  ((F56 (IntKind.wrap .u64 a0.1) ([] : List Int)).bind fun y23 => ((F56 a0.2.1 y23.2.2.1).bind fun y24 => ((F56 a0.2.2.1 y24.2.2.1).bind fun y25 => (bif (decide ((y25.2.2.1).length + ([a0.2.2.2.1]).length < lim)) then (bif (decide ((a0.2.2.2.1 : Int) ≥ 1)) then (bif (decide ((a0.2.2.2.1 : Int) ≤ 4)) then ((F62 (bytesL a0.2.2.2.2.1) (y25.2.2.1 ++ [a0.2.2.2.1])).bind fun y26 => (bif ((a0.2.2.2.1 : Int) == 1) then ((F62 a0.2.2.2.2.2.1 y26.2.2.1).bind fun y27 => (some (((), ()), (), (y27.2.2.1, ())))) else (bif ((a0.2.2.2.1 : Int) == 2) then ((F64 a0.2.2.2.2.2.2.1).bind fun y28 => ((F63 y28.1.1 y26.2.2.1).bind fun y29 => (some (((), ()), (), (y29.2.2.1, ()))))) else (bif ((a0.2.2.2.1 : Int) == 3) then ((F64 a0.2.2.2.2.2.2.1).bind fun y30 => ((F63 y30.1.1 y26.2.2.1).bind fun y31 => (some (((), ()), (), (y31.2.2.1, ()))))) else (bif ((a0.2.2.2.1 : Int) == 5) then ((F56 (IntKind.wrap .u64 a0.2.2.2.2.2.2.2.1) y26.2.2.1).bind fun y32 => (some (((), ()), (), (y32.2.2.1, ())))) else (some (((), ()), (), (y26.2.2.1, ())))))))) else (bif ((a0.2.2.2.1 : Int) == 1) then ((F62 a0.2.2.2.2.2.1 (y25.2.2.1 ++ [a0.2.2.2.1])).bind fun y33 => (some (((), ()), (), (y33.2.2.1, ())))) else (bif ((a0.2.2.2.1 : Int) == 2) then ((F64 a0.2.2.2.2.2.2.1).bind fun y34 => ((F63 y34.1.1 (y25.2.2.1 ++ [a0.2.2.2.1])).bind fun y35 => (some (((), ()), (), (y35.2.2.1, ()))))) else (bif ((a0.2.2.2.1 : Int) == 3) then ((F64 a0.2.2.2.2.2.2.1).bind fun y36 => ((F63 y36.1.1 (y25.2.2.1 ++ [a0.2.2.2.1])).bind fun y37 => (some (((), ()), (), (y37.2.2.1, ()))))) else (bif ((a0.2.2.2.1 : Int) == 5) then ((F56 (IntKind.wrap .u64 a0.2.2.2.2.2.2.2.1) (y25.2.2.1 ++ [a0.2.2.2.1])).bind fun y38 => (some (((), ()), (), (y38.2.2.1, ())))) else (some (((), ()), (), ((y25.2.2.1 ++ [a0.2.2.2.1]), ())))))))) else (bif ((a0.2.2.2.1 : Int) == 1) then ((F62 a0.2.2.2.2.2.1 (y25.2.2.1 ++ [a0.2.2.2.1])).bind fun y39 => (some (((), ()), (), (y39.2.2.1, ())))) else (bif ((a0.2.2.2.1 : Int) == 2) then ((F64 a0.2.2.2.2.2.2.1).bind fun y40 => ((F63 y40.1.1 (y25.2.2.1 ++ [a0.2.2.2.1])).bind fun y41 => (some (((), ()), (), (y41.2.2.1, ()))))) else (bif ((a0.2.2.2.1 : Int) == 3) then ((F64 a0.2.2.2.2.2.2.1).bind fun y42 => ((F63 y42.1.1 (y25.2.2.1 ++ [a0.2.2.2.1])).bind fun y43 => (some (((), ()), (), (y43.2.2.1, ()))))) else (bif ((a0.2.2.2.1 : Int) == 5) then ((F56 (IntKind.wrap .u64 a0.2.2.2.2.2.2.2.1) (y25.2.2.1 ++ [a0.2.2.2.1])).bind fun y44 => (some (((), ()), (), (y44.2.2.1, ())))) else (some (((), ()), (), ((y25.2.2.1 ++ [a0.2.2.2.1]), ())))))))) else none))))
noncomputable def c40 : Con := ⟨i40, o40, fun x => F40 x.1.1⟩
theorem e40 (x : i40.E) : vfn Try.prog C40 LO40 Try.f40 b40 i40 o40 x = F40 x.1.1 := by kernel_rfl
theorem c40_ok : Con.OK Try.prog 40 c40 := (fn_ok C40_ok Try.func40 body40 (loops_of (l := []) (by kernel_rfl) (show LoopsOK Try.prog Try.f40.ntmps [] LO40 from trivial)) i40 o40).congr fun x => (e40 x).symm
noncomputable def b38 : Code := (.seq (.region 0 (regOf Try.f38 0) false) (.seq (.region 1 (regOf Try.f38 1) true) (.seq (.region 2 (regOf Try.f38 2) false) (.seq (.seq (.region 3 (regOf Try.f38 3) false) (.cond (.tmp 21) (.region 4 (regOf Try.f38 4) false) .skip)) (.seq (.seq (.region 5 (regOf Try.f38 5) false) (.cond (.tmp 29) (.region 6 (regOf Try.f38 6) false) .skip)) (.seq (.seq (.region 7 (regOf Try.f38 7) false) (.cond (.tmp 41) (.region 8 (regOf Try.f38 8) false) .skip)) (.seq (.seq (.region 9 (regOf Try.f38 9) false) (.cond (.tmp 49) (.region 10 (regOf Try.f38 10) false) .skip)) (.seq (.region 11 (regOf Try.f38 11) false) .ret))))))))
theorem body38 : Try.f38.body = some b38 := by kernel_rfl
noncomputable def C38 : Tab := [(57, c57), (58, c58), (59, c59), (60, c60)]
theorem C38_ok : TabOK Try.prog C38 := ⟨c57_ok, c58_ok, c59_ok, c60_ok, trivial⟩
noncomputable def LO38 : Tab := []
noncomputable def i38 : Tm := { sl := [(0, .v (.p (.i .i64) (.p (.i .u64) (.p (.i .u64) (.p (.i .u8) (.p .s (.p (.l (.i .u8)) (.p (.f .f64) (.p (.i .i64) .u)))))))))], bx := [], bf := [] }
noncomputable def o38 : OT := (.ret { sl := [(0, .o 0)], bx := [], bf := [(.i .u8)] })
/-- anabranch/anabranchref06.Encode -/
noncomputable def F38 (a0 : (Int × (Int × (Int × (Int × (ByteArray × ((List Int) × (Nat × (Int × Unit))))))))) : Option ((Unit × Unit) × Unit × ((List Int) × Unit)) :=
  ((F57 [] (IntKind.wrap .u64 a0.1)).bind fun y45 => ((F57 y45.2.2.1 a0.2.1).bind fun y46 => ((F57 y46.2.2.1 a0.2.2.1).bind fun y47 => (bif (decide ((y47.2.2.1).length + ([a0.2.2.2.1]).length < lim)) then (bif (decide ((a0.2.2.2.1 : Int) ≤ 4)) then ((F58 (y47.2.2.1 ++ [a0.2.2.2.1]) (bytesL a0.2.2.2.2.1)).bind fun y48 => (bif ((a0.2.2.2.1 : Int) == 1) then ((F58 y48.2.2.1 a0.2.2.2.2.2.1).bind fun y49 => (bif ((a0.2.2.2.1 : Int) == 2) then ((F60 a0.2.2.2.2.2.2.1).bind fun y50 => ((F59 y49.2.2.1 y50.1.1).bind fun y51 => (bif ((a0.2.2.2.1 : Int) == 5) then ((F57 y51.2.2.1 (IntKind.wrap .u64 a0.2.2.2.2.2.2.2.1)).bind fun y52 => (some (((), ()), (), (y52.2.2.1, ())))) else (some (((), ()), (), (y51.2.2.1, ())))))) else (bif ((a0.2.2.2.1 : Int) == 3) then ((F60 a0.2.2.2.2.2.2.1).bind fun y53 => ((F59 y49.2.2.1 y53.1.1).bind fun y54 => (bif ((a0.2.2.2.1 : Int) == 5) then ((F57 y54.2.2.1 (IntKind.wrap .u64 a0.2.2.2.2.2.2.2.1)).bind fun y55 => (some (((), ()), (), (y55.2.2.1, ())))) else (some (((), ()), (), (y54.2.2.1, ())))))) else (bif ((a0.2.2.2.1 : Int) == 5) then ((F57 y49.2.2.1 (IntKind.wrap .u64 a0.2.2.2.2.2.2.2.1)).bind fun y56 => (some (((), ()), (), (y56.2.2.1, ())))) else (some (((), ()), (), (y49.2.2.1, ()))))))) else (bif ((a0.2.2.2.1 : Int) == 2) then ((F60 a0.2.2.2.2.2.2.1).bind fun y57 => ((F59 y48.2.2.1 y57.1.1).bind fun y58 => (bif ((a0.2.2.2.1 : Int) == 5) then ((F57 y58.2.2.1 (IntKind.wrap .u64 a0.2.2.2.2.2.2.2.1)).bind fun y59 => (some (((), ()), (), (y59.2.2.1, ())))) else (some (((), ()), (), (y58.2.2.1, ())))))) else (bif ((a0.2.2.2.1 : Int) == 3) then ((F60 a0.2.2.2.2.2.2.1).bind fun y60 => ((F59 y48.2.2.1 y60.1.1).bind fun y61 => (bif ((a0.2.2.2.1 : Int) == 5) then ((F57 y61.2.2.1 (IntKind.wrap .u64 a0.2.2.2.2.2.2.2.1)).bind fun y62 => (some (((), ()), (), (y62.2.2.1, ())))) else (some (((), ()), (), (y61.2.2.1, ())))))) else (bif ((a0.2.2.2.1 : Int) == 5) then ((F57 y48.2.2.1 (IntKind.wrap .u64 a0.2.2.2.2.2.2.2.1)).bind fun y63 => (some (((), ()), (), (y63.2.2.1, ())))) else (some (((), ()), (), (y48.2.2.1, ())))))))) else (bif ((a0.2.2.2.1 : Int) == 1) then ((F58 (y47.2.2.1 ++ [a0.2.2.2.1]) a0.2.2.2.2.2.1).bind fun y64 => (bif ((a0.2.2.2.1 : Int) == 2) then ((F60 a0.2.2.2.2.2.2.1).bind fun y65 => ((F59 y64.2.2.1 y65.1.1).bind fun y66 => (bif ((a0.2.2.2.1 : Int) == 5) then ((F57 y66.2.2.1 (IntKind.wrap .u64 a0.2.2.2.2.2.2.2.1)).bind fun y67 => (some (((), ()), (), (y67.2.2.1, ())))) else (some (((), ()), (), (y66.2.2.1, ())))))) else (bif ((a0.2.2.2.1 : Int) == 3) then ((F60 a0.2.2.2.2.2.2.1).bind fun y68 => ((F59 y64.2.2.1 y68.1.1).bind fun y69 => (bif ((a0.2.2.2.1 : Int) == 5) then ((F57 y69.2.2.1 (IntKind.wrap .u64 a0.2.2.2.2.2.2.2.1)).bind fun y70 => (some (((), ()), (), (y70.2.2.1, ())))) else (some (((), ()), (), (y69.2.2.1, ())))))) else (bif ((a0.2.2.2.1 : Int) == 5) then ((F57 y64.2.2.1 (IntKind.wrap .u64 a0.2.2.2.2.2.2.2.1)).bind fun y71 => (some (((), ()), (), (y71.2.2.1, ())))) else (some (((), ()), (), (y64.2.2.1, ()))))))) else (bif ((a0.2.2.2.1 : Int) == 2) then ((F60 a0.2.2.2.2.2.2.1).bind fun y72 => ((F59 (y47.2.2.1 ++ [a0.2.2.2.1]) y72.1.1).bind fun y73 => (bif ((a0.2.2.2.1 : Int) == 5) then ((F57 y73.2.2.1 (IntKind.wrap .u64 a0.2.2.2.2.2.2.2.1)).bind fun y74 => (some (((), ()), (), (y74.2.2.1, ())))) else (some (((), ()), (), (y73.2.2.1, ())))))) else (bif ((a0.2.2.2.1 : Int) == 3) then ((F60 a0.2.2.2.2.2.2.1).bind fun y75 => ((F59 (y47.2.2.1 ++ [a0.2.2.2.1]) y75.1.1).bind fun y76 => (bif ((a0.2.2.2.1 : Int) == 5) then ((F57 y76.2.2.1 (IntKind.wrap .u64 a0.2.2.2.2.2.2.2.1)).bind fun y77 => (some (((), ()), (), (y77.2.2.1, ())))) else (some (((), ()), (), (y76.2.2.1, ())))))) else (bif ((a0.2.2.2.1 : Int) == 5) then ((F57 (y47.2.2.1 ++ [a0.2.2.2.1]) (IntKind.wrap .u64 a0.2.2.2.2.2.2.2.1)).bind fun y78 => (some (((), ()), (), (y78.2.2.1, ())))) else (some (((), ()), (), ((y47.2.2.1 ++ [a0.2.2.2.1]), ())))))))) else none))))
noncomputable def c38 : Con := ⟨i38, o38, fun x => F38 x.1.1⟩
theorem e38 (x : i38.E) : vfn Try.prog C38 LO38 Try.f38 b38 i38 o38 x = F38 x.1.1 := by kernel_rfl
theorem c38_ok : Con.OK Try.prog 38 c38 := (fn_ok C38_ok Try.func38 body38 (loops_of (l := []) (by kernel_rfl) (show LoopsOK Try.prog Try.f38.ntmps [] LO38 from trivial)) i38 o38).congr fun x => (e38 x).symm
noncomputable def b27 : Code := (.seq (.region 0 (regOf Try.f27 0) false) (.seq (.region 1 (regOf Try.f27 1) true) .ret))
theorem body27 : Try.f27.body = some b27 := by kernel_rfl
noncomputable def C27 : Tab := [(40, c40)]
theorem C27_ok : TabOK Try.prog C27 := ⟨c40_ok, trivial⟩
noncomputable def LO27 : Tab := []
noncomputable def i27 : Tm := { sl := [(0, .v (.p (.i .i64) (.p (.i .u64) (.p (.i .u64) (.p (.i .u8) (.p .s (.p (.l (.i .u8)) (.p (.f .f64) (.p (.i .i64) .u))))))))), (1, .v (.p (.i .i64) (.p (.i .u64) (.p (.i .u64) (.p (.i .u8) (.p .s (.p (.l (.i .u8)) (.p (.f .f64) (.p (.i .i64) .u)))))))))], bx := [], bf := [] }
noncomputable def o27 : OT := (.ret { sl := [(0, .v .b)], bx := [], bf := [] })
/-- anabranch/event.Same -/
noncomputable def F27 (a0 : (Int × (Int × (Int × (Int × (ByteArray × ((List Int) × (Nat × (Int × Unit))))))))) (a1 : (Int × (Int × (Int × (Int × (ByteArray × ((List Int) × (Nat × (Int × Unit))))))))) : Option ((Bool × Unit) × Unit × Unit) :=
  ((F40 (a0.1, (a0.2.1, (a0.2.2.1, (a0.2.2.2.1, (a0.2.2.2.2.1, (a0.2.2.2.2.2.1, (a0.2.2.2.2.2.2.1, (a0.2.2.2.2.2.2.2.1, ()))))))))).bind fun y79 => ((F40 (a1.1, (a1.2.1, (a1.2.2.1, (a1.2.2.2.1, (a1.2.2.2.2.1, (a1.2.2.2.2.2.1, (a1.2.2.2.2.2.2.1, (a1.2.2.2.2.2.2.2.1, ()))))))))).bind fun y80 => (some (((((strL y79.2.2.1) : ByteArray).toList == ((strL y80.2.2.1) : ByteArray).toList), ()), (), ()))))
noncomputable def c27 : Con := ⟨i27, o27, fun x => F27 x.1.1 x.1.2.1⟩
theorem e27 (x : i27.E) : vfn Try.prog C27 LO27 Try.f27 b27 i27 o27 x = F27 x.1.1 x.1.2.1 := by kernel_rfl
theorem c27_ok : Con.OK Try.prog 27 c27 := (fn_ok C27_ok Try.func27 body27 (loops_of (l := []) (by kernel_rfl) (show LoopsOK Try.prog Try.f27.ntmps [] LO27 from trivial)) i27 o27).congr fun x => (e27 x).symm
noncomputable def b28 : Code := (.seq (.region 0 (regOf Try.f28 0) false) (.seq (.region 1 (regOf Try.f28 1) true) .ret))
theorem body28 : Try.f28.body = some b28 := by kernel_rfl
noncomputable def C28 : Tab := [(38, c38)]
theorem C28_ok : TabOK Try.prog C28 := ⟨c38_ok, trivial⟩
noncomputable def LO28 : Tab := []
noncomputable def i28 : Tm := { sl := [(0, .v (.p (.i .i64) (.p (.i .u64) (.p (.i .u64) (.p (.i .u8) (.p .s (.p (.l (.i .u8)) (.p (.f .f64) (.p (.i .i64) .u))))))))), (1, .v (.p (.i .i64) (.p (.i .u64) (.p (.i .u64) (.p (.i .u8) (.p .s (.p (.l (.i .u8)) (.p (.f .f64) (.p (.i .i64) .u)))))))))], bx := [], bf := [] }
noncomputable def o28 : OT := (.ret { sl := [(0, .v .b)], bx := [], bf := [] })
/-- anabranch/anabranchref06.Same -/
noncomputable def F28 (a0 : (Int × (Int × (Int × (Int × (ByteArray × ((List Int) × (Nat × (Int × Unit))))))))) (a1 : (Int × (Int × (Int × (Int × (ByteArray × ((List Int) × (Nat × (Int × Unit))))))))) : Option ((Bool × Unit) × Unit × Unit) :=
  ((F38 (a0.1, (a0.2.1, (a0.2.2.1, (a0.2.2.2.1, (a0.2.2.2.2.1, (a0.2.2.2.2.2.1, (a0.2.2.2.2.2.2.1, (a0.2.2.2.2.2.2.2.1, ()))))))))).bind fun y81 => ((F38 (a1.1, (a1.2.1, (a1.2.2.1, (a1.2.2.2.1, (a1.2.2.2.2.1, (a1.2.2.2.2.2.1, (a1.2.2.2.2.2.2.1, (a1.2.2.2.2.2.2.2.1, ()))))))))).bind fun y82 => (some (((((strL y81.2.2.1) : ByteArray).toList == ((strL y82.2.2.1) : ByteArray).toList), ()), (), ()))))
noncomputable def c28 : Con := ⟨i28, o28, fun x => F28 x.1.1 x.1.2.1⟩
theorem e28 (x : i28.E) : vfn Try.prog C28 LO28 Try.f28 b28 i28 o28 x = F28 x.1.1 x.1.2.1 := by kernel_rfl
theorem c28_ok : Con.OK Try.prog 28 c28 := (fn_ok C28_ok Try.func28 body28 (loops_of (l := []) (by kernel_rfl) (show LoopsOK Try.prog Try.f28.ntmps [] LO28 from trivial)) i28 o28).congr fun x => (e28 x).symm
noncomputable def b29 : Code := (.seq (.region 0 (regOf Try.f29 0) false) (.seq (.region 1 (regOf Try.f29 1) false) (.seq (.seq (.region 2 (regOf Try.f29 2) false) (.cond (.tmp 20) (.region 3 (regOf Try.f29 3) false) .skip)) (.seq (.seq (.region 4 (regOf Try.f29 4) false) (.block 0 (.seq (.region 5 (regOf Try.f29 5) false) (.cond (.tmp 26) (.region 6 (regOf Try.f29 6) false) (.seq (.seq (.region 7 (regOf Try.f29 7) false) (.cond (.tmp 32) .skip (.region 8 (regOf Try.f29 8) false))) (.cond (.tmp 32) (.region 9 (regOf Try.f29 9) false) (.seq (.region 10 (regOf Try.f29 10) false) (.cond (.tmp 39) (.region 11 (regOf Try.f29 11) false) .skip)))))))) (.seq (.region 12 (regOf Try.f29 12) false) .ret)))))
theorem body29 : Try.f29.body = some b29 := by kernel_rfl
noncomputable def C29 : Tab := [(47, c47)]
theorem C29_ok : TabOK Try.prog C29 := ⟨c47_ok, trivial⟩
noncomputable def LO29 : Tab := []
noncomputable def i29 : Tm := { sl := [(0, .v (.p (.i .i64) (.p (.i .u64) (.p (.i .u64) (.p (.i .u8) (.p .s (.p (.l (.i .u8)) (.p (.f .f64) (.p (.i .i64) .u)))))))))], bx := [], bf := [] }
noncomputable def o29 : OT := (.ret { sl := [(0, .v (.p (.i .i64) (.p (.i .u64) (.p (.i .u64) (.p (.i .u8) (.p .s (.p (.l (.i .u8)) (.p (.f .f64) (.p (.i .i64) .u)))))))))], bx := [], bf := [] })
/-- anabranch/event.Plain -/
noncomputable def F29 (a0 : (Int × (Int × (Int × (Int × (ByteArray × ((List Int) × (Nat × (Int × Unit))))))))) : Option (((Int × (Int × (Int × (Int × (ByteArray × ((List Int) × (Nat × (Int × Unit)))))))) × Unit) × Unit × Unit) :=
  (bif (decide ((a0.2.2.2.1 : Int) ≥ 1)) then (bif (decide ((a0.2.2.2.1 : Int) ≤ 4)) then (bif ((a0.2.2.2.1 : Int) == 1) then (bif (decide ((a0.2.2.2.2.2.1).length < lim)) then (some (((a0.1, (a0.2.1, (a0.2.2.1, (a0.2.2.2.1, (a0.2.2.2.2.1, (a0.2.2.2.2.2.1, (0, (0, ())))))))), ()), (), ())) else none) else (bif ((a0.2.2.2.1 : Int) == 2) then ((F47 a0.2.2.2.2.2.2.1).bind fun y83 => (some (((a0.1, (a0.2.1, (a0.2.2.1, (a0.2.2.2.1, (a0.2.2.2.2.1, ([], (y83.1.1, (0, ())))))))), ()), (), ()))) else (bif ((a0.2.2.2.1 : Int) == 3) then ((F47 a0.2.2.2.2.2.2.1).bind fun y84 => (some (((a0.1, (a0.2.1, (a0.2.2.1, (a0.2.2.2.1, (a0.2.2.2.2.1, ([], (y84.1.1, (0, ())))))))), ()), (), ()))) else (bif ((a0.2.2.2.1 : Int) == 5) then (some (((a0.1, (a0.2.1, (a0.2.2.1, (a0.2.2.2.1, (a0.2.2.2.2.1, ([], (0, (a0.2.2.2.2.2.2.2.1, ())))))))), ()), (), ())) else (some (((a0.1, (a0.2.1, (a0.2.2.1, (a0.2.2.2.1, (a0.2.2.2.2.1, ([], (0, (0, ())))))))), ()), (), ())))))) else (bif ((a0.2.2.2.1 : Int) == 1) then (bif (decide ((a0.2.2.2.2.2.1).length < lim)) then (some (((a0.1, (a0.2.1, (a0.2.2.1, (a0.2.2.2.1, (ByteArray.empty, (a0.2.2.2.2.2.1, (0, (0, ())))))))), ()), (), ())) else none) else (bif ((a0.2.2.2.1 : Int) == 2) then ((F47 a0.2.2.2.2.2.2.1).bind fun y85 => (some (((a0.1, (a0.2.1, (a0.2.2.1, (a0.2.2.2.1, (ByteArray.empty, ([], (y85.1.1, (0, ())))))))), ()), (), ()))) else (bif ((a0.2.2.2.1 : Int) == 3) then ((F47 a0.2.2.2.2.2.2.1).bind fun y86 => (some (((a0.1, (a0.2.1, (a0.2.2.1, (a0.2.2.2.1, (ByteArray.empty, ([], (y86.1.1, (0, ())))))))), ()), (), ()))) else (bif ((a0.2.2.2.1 : Int) == 5) then (some (((a0.1, (a0.2.1, (a0.2.2.1, (a0.2.2.2.1, (ByteArray.empty, ([], (0, (a0.2.2.2.2.2.2.2.1, ())))))))), ()), (), ())) else (some (((a0.1, (a0.2.1, (a0.2.2.1, (a0.2.2.2.1, (ByteArray.empty, ([], (0, (0, ())))))))), ()), (), ()))))))) else (bif ((a0.2.2.2.1 : Int) == 1) then (bif (decide ((a0.2.2.2.2.2.1).length < lim)) then (some (((a0.1, (a0.2.1, (a0.2.2.1, (a0.2.2.2.1, (ByteArray.empty, (a0.2.2.2.2.2.1, (0, (0, ())))))))), ()), (), ())) else none) else (bif ((a0.2.2.2.1 : Int) == 2) then ((F47 a0.2.2.2.2.2.2.1).bind fun y87 => (some (((a0.1, (a0.2.1, (a0.2.2.1, (a0.2.2.2.1, (ByteArray.empty, ([], (y87.1.1, (0, ())))))))), ()), (), ()))) else (bif ((a0.2.2.2.1 : Int) == 3) then ((F47 a0.2.2.2.2.2.2.1).bind fun y88 => (some (((a0.1, (a0.2.1, (a0.2.2.1, (a0.2.2.2.1, (ByteArray.empty, ([], (y88.1.1, (0, ())))))))), ()), (), ()))) else (bif ((a0.2.2.2.1 : Int) == 5) then (some (((a0.1, (a0.2.1, (a0.2.2.1, (a0.2.2.2.1, (ByteArray.empty, ([], (0, (a0.2.2.2.2.2.2.2.1, ())))))))), ()), (), ())) else (some (((a0.1, (a0.2.1, (a0.2.2.1, (a0.2.2.2.1, (ByteArray.empty, ([], (0, (0, ())))))))), ()), (), ())))))))
noncomputable def c29 : Con := ⟨i29, o29, fun x => F29 x.1.1⟩
theorem e29 (x : i29.E) : vfn Try.prog C29 LO29 Try.f29 b29 i29 o29 x = F29 x.1.1 := by kernel_rfl
theorem c29_ok : Con.OK Try.prog 29 c29 := (fn_ok C29_ok Try.func29 body29 (loops_of (l := []) (by kernel_rfl) (show LoopsOK Try.prog Try.f29.ntmps [] LO29 from trivial)) i29 o29).congr fun x => (e29 x).symm
noncomputable def b24 : Code := (.seq (.region 0 (regOf Try.f24 0) false) (.seq (.seq (.region 1 (regOf Try.f24 1) false) (.cond (.tmp 6) (.seq (.region 2 (regOf Try.f24 2) false) (.seq (.region 3 (regOf Try.f24 3) false) (.seq (.region 4 (regOf Try.f24 4) false) (.seq (.region 5 (regOf Try.f24 5) false) (.seq (.region 6 (regOf Try.f24 6) false) (.seq (.region 7 (regOf Try.f24 7) false) (.cond (.tmp 37) (.region 8 (regOf Try.f24 8) false) .skip))))))) .skip)) (.seq (.region 9 (regOf Try.f24 9) false) .ret)))
theorem body24 : Try.f24.body = some b24 := by kernel_rfl
noncomputable def C24 : Tab := []
theorem C24_ok : TabOK Try.prog C24 := trivial
noncomputable def LO24 : Tab := []
noncomputable def i24 : Tm := { sl := [(0, .v (.p (.i .i64) (.p (.i .u64) (.p (.i .u64) (.p (.i .u8) (.p .s (.p (.l (.i .u8)) (.p (.f .f64) (.p (.i .i64) .u))))))))), (1, .v (.i .u8))], bx := [], bf := [] }
noncomputable def o24 : OT := (.ret { sl := [(0, .v (.p (.i .i64) (.p (.i .u64) (.p (.i .u64) (.p (.i .u8) (.p .s (.p (.l (.i .u8)) (.p (.f .f64) (.p (.i .i64) .u)))))))))], bx := [], bf := [] })
/-- anabranch/anabranchlaw06.near -/
noncomputable def F24 (a0 : (Int × (Int × (Int × (Int × (ByteArray × ((List Int) × (Nat × (Int × Unit))))))))) (a1 : Int) : Option (((Int × (Int × (Int × (Int × (ByteArray × ((List Int) × (Nat × (Int × Unit)))))))) × Unit) × Unit × Unit) :=
  (bif (decide ((a1 : Int) ≥ 64)) then (bif ((((a0.2.2.2.2.1.size : Nat) : Int) : Int) == 0) then (some ((((IntKind.wrap .i64 (((IntKind.wrap .u64 a0.1) : Int).tmod 64)), ((IntKind.wrap .u64 (1 + ((a0.2.1 : Int).tmod 4611686018427387904))), ((IntKind.wrap .u64 (1 + ((a0.2.2.1 : Int).tmod 4611686018427387904))), ((IntKind.wrap .u8 (1 + ((a0.2.2.2.1 : Int).tmod 6))), ((⟨#[107]⟩ : ByteArray), (a0.2.2.2.2.2.1, (a0.2.2.2.2.2.2.1, ((IntKind.wrap .i64 (((IntKind.wrap .u64 a0.2.2.2.2.2.2.2.1) : Int).tmod 64)), ())))))))), ()), (), ())) else (some ((((IntKind.wrap .i64 (((IntKind.wrap .u64 a0.1) : Int).tmod 64)), ((IntKind.wrap .u64 (1 + ((a0.2.1 : Int).tmod 4611686018427387904))), ((IntKind.wrap .u64 (1 + ((a0.2.2.1 : Int).tmod 4611686018427387904))), ((IntKind.wrap .u8 (1 + ((a0.2.2.2.1 : Int).tmod 6))), (a0.2.2.2.2.1, (a0.2.2.2.2.2.1, (a0.2.2.2.2.2.2.1, ((IntKind.wrap .i64 (((IntKind.wrap .u64 a0.2.2.2.2.2.2.2.1) : Int).tmod 64)), ())))))))), ()), (), ()))) else (some (((a0.1, (a0.2.1, (a0.2.2.1, (a0.2.2.2.1, (a0.2.2.2.2.1, (a0.2.2.2.2.2.1, (a0.2.2.2.2.2.2.1, (a0.2.2.2.2.2.2.2.1, ())))))))), ()), (), ())))
noncomputable def c24 : Con := ⟨i24, o24, fun x => F24 x.1.1 x.1.2.1⟩
theorem e24 (x : i24.E) : vfn Try.prog C24 LO24 Try.f24 b24 i24 o24 x = F24 x.1.1 x.1.2.1 := by kernel_rfl
theorem c24_ok : Con.OK Try.prog 24 c24 := (fn_ok C24_ok Try.func24 body24 (loops_of (l := []) (by kernel_rfl) (show LoopsOK Try.prog Try.f24.ntmps [] LO24 from trivial)) i24 o24).congr fun x => (e24 x).symm
noncomputable def b23 : Code := (.seq (.region 0 (regOf Try.f23 0) false) (.seq (.region 1 (regOf Try.f23 1) false) .ret))
theorem body23 : Try.f23.body = some b23 := by kernel_rfl
noncomputable def C23 : Tab := [(40, c40)]
theorem C23_ok : TabOK Try.prog C23 := ⟨c40_ok, trivial⟩
noncomputable def LO23 : Tab := []
noncomputable def i23 : Tm := { sl := [], bx := [], bf := [] }
noncomputable def o23 : OT := (.ret { sl := [(0, .v .b)], bx := [], bf := [] })
/-- anabranch/anabranchlaw06.awake -/
noncomputable def F23 : Option ((Bool × Unit) × Unit × Unit) :=
  ((F40 (1, (2, (3, (4, ((⟨#[107]⟩ : ByteArray), ([], (0, (0, ()))))))))).bind fun y89 => (some (((((strL y89.2.2.1) : ByteArray).toList == ((⟨#[1, 2, 3, 4, 1, 107]⟩ : ByteArray) : ByteArray).toList), ()), (), ())))
noncomputable def c23 : Con := ⟨i23, o23, fun x => F23⟩
theorem e23 (x : i23.E) : vfn Try.prog C23 LO23 Try.f23 b23 i23 o23 x = F23 := by kernel_rfl
theorem c23_ok : Con.OK Try.prog 23 c23 := (fn_ok C23_ok Try.func23 body23 (loops_of (l := []) (by kernel_rfl) (show LoopsOK Try.prog Try.f23.ntmps [] LO23 from trivial)) i23 o23).congr fun x => (e23 x).symm
noncomputable def b6 : Code := (.seq (.region 0 (regOf Try.f6 0) false) (.seq (.seq (.region 1 (regOf Try.f6 1) false) (.cond (.tmp 18) (.seq (.region 2 (regOf Try.f6 2) false) .ret) .skip)) (.seq (.region 3 (regOf Try.f6 3) false) (.seq (.region 4 (regOf Try.f6 4) true) .ret))))
theorem body6 : Try.f6.body = some b6 := by kernel_rfl
noncomputable def C6 : Tab := [(23, c23), (24, c24), (25, c25), (26, c26)]
theorem C6_ok : TabOK Try.prog C6 := ⟨c23_ok, c24_ok, c25_ok, c26_ok, trivial⟩
noncomputable def LO6 : Tab := []
noncomputable def i6 : Tm := { sl := [(0, .v (.p (.i .i64) (.p (.i .u64) (.p (.i .u64) (.p (.i .u8) (.p .s (.p (.l (.i .u8)) (.p (.f .f64) (.p (.i .i64) .u))))))))), (1, .v (.i .u8))], bx := [], bf := [] }
noncomputable def o6 : OT := (.ret { sl := [(0, .v .b)], bx := [], bf := [] })
/-- anabranch/anabranchlaw06.EventRight -/
noncomputable def F6 (a0 : (Int × (Int × (Int × (Int × (ByteArray × ((List Int) × (Nat × (Int × Unit))))))))) (a1 : Int) : Option ((Bool × Unit) × Unit × Unit) :=
  ((F23).bind fun y90 => (bif (!y90.1.1) then ((F23).bind fun y91 => (some ((y91.1.1, ()), (), ()))) else (bif (decide ((((a0.2.2.2.2.1.size : Nat) : Int) : Int) > 100)) then ((F23).bind fun y92 => (some ((y92.1.1, ()), (), ()))) else (bif (decide (((((a0.2.2.2.2.2.1).length : Nat) : Int) : Int) > 1000)) then ((F23).bind fun y93 => (some ((y93.1.1, ()), (), ()))) else ((F24 (a0.1, (a0.2.1, (a0.2.2.1, (a0.2.2.2.1, (a0.2.2.2.2.1, (a0.2.2.2.2.2.1, (a0.2.2.2.2.2.2.1, (a0.2.2.2.2.2.2.2.1, ())))))))) a1).bind fun y94 => ((F25 (y94.1.1.1, (y94.1.1.2.1, (y94.1.1.2.2.1, (y94.1.1.2.2.2.1, (y94.1.1.2.2.2.2.1, (y94.1.1.2.2.2.2.2.1, (y94.1.1.2.2.2.2.2.2.1, (y94.1.1.2.2.2.2.2.2.2.1, ()))))))))).bind fun y95 => ((F26 (y94.1.1.1, (y94.1.1.2.1, (y94.1.1.2.2.1, (y94.1.1.2.2.2.1, (y94.1.1.2.2.2.2.1, (y94.1.1.2.2.2.2.2.1, (y94.1.1.2.2.2.2.2.2.1, (y94.1.1.2.2.2.2.2.2.2.1, ()))))))))).bind fun y96 => (some ((((y95.1.1 : Int) == y96.1.1), ()), (), ())))))))))
noncomputable def c6 : Con := ⟨i6, o6, fun x => F6 x.1.1 x.1.2.1⟩
theorem e6 (x : i6.E) : vfn Try.prog C6 LO6 Try.f6 b6 i6 o6 x = F6 x.1.1 x.1.2.1 := by kernel_rfl
theorem c6_ok : Con.OK Try.prog 6 c6 := (fn_ok C6_ok Try.func6 body6 (loops_of (l := []) (by kernel_rfl) (show LoopsOK Try.prog Try.f6.ntmps [] LO6 from trivial)) i6 o6).congr fun x => (e6 x).symm
noncomputable def b7 : Code := (.seq (.region 0 (regOf Try.f7 0) false) (.seq (.seq (.region 1 (regOf Try.f7 1) false) (.cond (.tmp 33) (.seq (.region 2 (regOf Try.f7 2) false) .ret) .skip)) (.seq (.region 3 (regOf Try.f7 3) false) (.seq (.region 4 (regOf Try.f7 4) false) (.seq (.seq (.region 5 (regOf Try.f7 5) false) (.cond (.tmp 41) (.seq (.region 6 (regOf Try.f7 6) false) (.seq (.region 7 (regOf Try.f7 7) false) (.region 8 (regOf Try.f7 8) false))) .skip)) (.seq (.seq (.region 9 (regOf Try.f7 9) false) (.cond (.tmp 54) (.seq (.region 10 (regOf Try.f7 10) false) .ret) .skip)) (.seq (.region 11 (regOf Try.f7 11) true) .ret)))))))
theorem body7 : Try.f7.body = some b7 := by kernel_rfl
noncomputable def C7 : Tab := [(23, c23), (24, c24), (26, c26), (27, c27), (28, c28), (29, c29)]
theorem C7_ok : TabOK Try.prog C7 := ⟨c23_ok, c24_ok, c26_ok, c27_ok, c28_ok, c29_ok, trivial⟩
noncomputable def LO7 : Tab := []
noncomputable def i7 : Tm := { sl := [(0, .v (.p (.i .i64) (.p (.i .u64) (.p (.i .u64) (.p (.i .u8) (.p .s (.p (.l (.i .u8)) (.p (.f .f64) (.p (.i .i64) .u))))))))), (1, .v (.p (.i .i64) (.p (.i .u64) (.p (.i .u64) (.p (.i .u8) (.p .s (.p (.l (.i .u8)) (.p (.f .f64) (.p (.i .i64) .u))))))))), (2, .v (.i .u8)), (3, .v .b)], bx := [], bf := [] }
noncomputable def o7 : OT := (.ret { sl := [(0, .v .b)], bx := [], bf := [] })
/-- anabranch/anabranchlaw06.EventSame -/
noncomputable def F7 (a0 : (Int × (Int × (Int × (Int × (ByteArray × ((List Int) × (Nat × (Int × Unit))))))))) (a1 : (Int × (Int × (Int × (Int × (ByteArray × ((List Int) × (Nat × (Int × Unit))))))))) (a2 : Int) (a3 : Bool) : Option ((Bool × Unit) × Unit × Unit) :=
  ((F23).bind fun y97 => (bif (!y97.1.1) then ((F23).bind fun y98 => (some ((y98.1.1, ()), (), ()))) else (bif (decide ((((a0.2.2.2.2.1.size : Nat) : Int) : Int) > 64)) then ((F23).bind fun y99 => (some ((y99.1.1, ()), (), ()))) else (bif (decide ((((a1.2.2.2.2.1.size : Nat) : Int) : Int) > 64)) then ((F23).bind fun y100 => (some ((y100.1.1, ()), (), ()))) else (bif (decide (((IntKind.wrap .i64 ((((a0.2.2.2.2.2.1).length : Nat) : Int) + (((a1.2.2.2.2.2.1).length : Nat) : Int))) : Int) > 500)) then ((F23).bind fun y101 => (some ((y101.1.1, ()), (), ()))) else ((F24 (a0.1, (a0.2.1, (a0.2.2.1, (a0.2.2.2.1, (a0.2.2.2.2.1, (a0.2.2.2.2.2.1, (a0.2.2.2.2.2.2.1, (a0.2.2.2.2.2.2.2.1, ())))))))) a2).bind fun y102 => ((F24 (a1.1, (a1.2.1, (a1.2.2.1, (a1.2.2.2.1, (a1.2.2.2.2.1, (a1.2.2.2.2.2.1, (a1.2.2.2.2.2.2.1, (a1.2.2.2.2.2.2.2.1, ())))))))) a2).bind fun y103 => (bif a3 then ((F26 (y102.1.1.1, (y102.1.1.2.1, (y102.1.1.2.2.1, (y102.1.1.2.2.2.1, (y102.1.1.2.2.2.2.1, (y102.1.1.2.2.2.2.2.1, (y102.1.1.2.2.2.2.2.2.1, (y102.1.1.2.2.2.2.2.2.2.1, ()))))))))).bind fun y104 => (bif ((y104.1.1 : Int) != 0) then (some ((true, ()), (), ())) else ((F26 (y102.1.1.1, (y102.1.1.2.1, (y102.1.1.2.2.1, (y102.1.1.2.2.2.1, (y102.1.1.2.2.2.2.1, (y102.1.1.2.2.2.2.2.1, (y103.1.1.2.2.2.2.2.2.1, (y102.1.1.2.2.2.2.2.2.2.1, ()))))))))).bind fun y105 => (bif ((y105.1.1 : Int) != 0) then (some ((true, ()), (), ())) else ((F27 (y102.1.1.1, (y102.1.1.2.1, (y102.1.1.2.2.1, (y102.1.1.2.2.2.1, (y102.1.1.2.2.2.2.1, (y102.1.1.2.2.2.2.2.1, (y102.1.1.2.2.2.2.2.2.1, (y102.1.1.2.2.2.2.2.2.2.1, ())))))))) (y102.1.1.1, (y102.1.1.2.1, (y102.1.1.2.2.1, (y102.1.1.2.2.2.1, (y102.1.1.2.2.2.2.1, (y102.1.1.2.2.2.2.2.1, (y103.1.1.2.2.2.2.2.2.1, (y102.1.1.2.2.2.2.2.2.2.1, ()))))))))).bind fun y106 => ((F28 (y102.1.1.1, (y102.1.1.2.1, (y102.1.1.2.2.1, (y102.1.1.2.2.2.1, (y102.1.1.2.2.2.2.1, (y102.1.1.2.2.2.2.2.1, (y102.1.1.2.2.2.2.2.2.1, (y102.1.1.2.2.2.2.2.2.2.1, ())))))))) (y102.1.1.1, (y102.1.1.2.1, (y102.1.1.2.2.1, (y102.1.1.2.2.2.1, (y102.1.1.2.2.2.2.1, (y102.1.1.2.2.2.2.2.1, (y103.1.1.2.2.2.2.2.2.1, (y102.1.1.2.2.2.2.2.2.2.1, ()))))))))).bind fun y107 => (bif (y106.1.1 == y107.1.1) then ((F29 (y102.1.1.1, (y102.1.1.2.1, (y102.1.1.2.2.1, (y102.1.1.2.2.2.1, (y102.1.1.2.2.2.2.1, (y102.1.1.2.2.2.2.2.1, (y102.1.1.2.2.2.2.2.2.1, (y102.1.1.2.2.2.2.2.2.2.1, ()))))))))).bind fun y108 => ((F27 (y102.1.1.1, (y102.1.1.2.1, (y102.1.1.2.2.1, (y102.1.1.2.2.2.1, (y102.1.1.2.2.2.2.1, (y102.1.1.2.2.2.2.2.1, (y102.1.1.2.2.2.2.2.2.1, (y102.1.1.2.2.2.2.2.2.2.1, ())))))))) (y108.1.1.1, (y108.1.1.2.1, (y108.1.1.2.2.1, (y108.1.1.2.2.2.1, (y108.1.1.2.2.2.2.1, (y108.1.1.2.2.2.2.2.1, (y108.1.1.2.2.2.2.2.2.1, (y108.1.1.2.2.2.2.2.2.2.1, ()))))))))).bind fun y109 => (some ((y109.1.1, ()), (), ())))) else (some ((false, ()), (), ()))))))))) else ((F26 (y102.1.1.1, (y102.1.1.2.1, (y102.1.1.2.2.1, (y102.1.1.2.2.2.1, (y102.1.1.2.2.2.2.1, (y102.1.1.2.2.2.2.2.1, (y102.1.1.2.2.2.2.2.2.1, (y102.1.1.2.2.2.2.2.2.2.1, ()))))))))).bind fun y110 => (bif ((y110.1.1 : Int) != 0) then (some ((true, ()), (), ())) else ((F26 (y103.1.1.1, (y103.1.1.2.1, (y103.1.1.2.2.1, (y103.1.1.2.2.2.1, (y103.1.1.2.2.2.2.1, (y103.1.1.2.2.2.2.2.1, (y103.1.1.2.2.2.2.2.2.1, (y103.1.1.2.2.2.2.2.2.2.1, ()))))))))).bind fun y111 => (bif ((y111.1.1 : Int) != 0) then (some ((true, ()), (), ())) else ((F27 (y102.1.1.1, (y102.1.1.2.1, (y102.1.1.2.2.1, (y102.1.1.2.2.2.1, (y102.1.1.2.2.2.2.1, (y102.1.1.2.2.2.2.2.1, (y102.1.1.2.2.2.2.2.2.1, (y102.1.1.2.2.2.2.2.2.2.1, ())))))))) (y103.1.1.1, (y103.1.1.2.1, (y103.1.1.2.2.1, (y103.1.1.2.2.2.1, (y103.1.1.2.2.2.2.1, (y103.1.1.2.2.2.2.2.1, (y103.1.1.2.2.2.2.2.2.1, (y103.1.1.2.2.2.2.2.2.2.1, ()))))))))).bind fun y112 => ((F28 (y102.1.1.1, (y102.1.1.2.1, (y102.1.1.2.2.1, (y102.1.1.2.2.2.1, (y102.1.1.2.2.2.2.1, (y102.1.1.2.2.2.2.2.1, (y102.1.1.2.2.2.2.2.2.1, (y102.1.1.2.2.2.2.2.2.2.1, ())))))))) (y103.1.1.1, (y103.1.1.2.1, (y103.1.1.2.2.1, (y103.1.1.2.2.2.1, (y103.1.1.2.2.2.2.1, (y103.1.1.2.2.2.2.2.1, (y103.1.1.2.2.2.2.2.2.1, (y103.1.1.2.2.2.2.2.2.2.1, ()))))))))).bind fun y113 => (bif (y112.1.1 == y113.1.1) then ((F29 (y102.1.1.1, (y102.1.1.2.1, (y102.1.1.2.2.1, (y102.1.1.2.2.2.1, (y102.1.1.2.2.2.2.1, (y102.1.1.2.2.2.2.2.1, (y102.1.1.2.2.2.2.2.2.1, (y102.1.1.2.2.2.2.2.2.2.1, ()))))))))).bind fun y114 => ((F27 (y102.1.1.1, (y102.1.1.2.1, (y102.1.1.2.2.1, (y102.1.1.2.2.2.1, (y102.1.1.2.2.2.2.1, (y102.1.1.2.2.2.2.2.1, (y102.1.1.2.2.2.2.2.2.1, (y102.1.1.2.2.2.2.2.2.2.1, ())))))))) (y114.1.1.1, (y114.1.1.2.1, (y114.1.1.2.2.1, (y114.1.1.2.2.2.1, (y114.1.1.2.2.2.2.1, (y114.1.1.2.2.2.2.2.1, (y114.1.1.2.2.2.2.2.2.1, (y114.1.1.2.2.2.2.2.2.2.1, ()))))))))).bind fun y115 => (some ((y115.1.1, ()), (), ())))) else (some ((false, ()), (), ())))))))))))))))))
noncomputable def c7 : Con := ⟨i7, o7, fun x => F7 x.1.1 x.1.2.1 x.1.2.2.1 x.1.2.2.2.1⟩
theorem e7 (x : i7.E) : vfn Try.prog C7 LO7 Try.f7 b7 i7 o7 x = F7 x.1.1 x.1.2.1 x.1.2.2.1 x.1.2.2.2.1 := by kernel_rfl
theorem c7_ok : Con.OK Try.prog 7 c7 := (fn_ok C7_ok Try.func7 body7 (loops_of (l := []) (by kernel_rfl) (show LoopsOK Try.prog Try.f7.ntmps [] LO7 from trivial)) i7 o7).congr fun x => (e7 x).symm
noncomputable def b8 : Code := (.seq (.region 0 (regOf Try.f8 0) false) (.seq (.region 1 (regOf Try.f8 1) false) (.seq (.region 2 (regOf Try.f8 2) false) .ret)))
theorem body8 : Try.f8.body = some b8 := by kernel_rfl
noncomputable def C8 : Tab := [(23, c23), (30, c30), (31, c31)]
theorem C8_ok : TabOK Try.prog C8 := ⟨c23_ok, c30_ok, c31_ok, trivial⟩
noncomputable def LO8 : Tab := []
noncomputable def i8 : Tm := { sl := [(0, .v (.p (.i .u64) (.p (.i .i64) .u))), (1, .v (.p (.i .u64) (.p (.i .i64) .u))), (2, .v (.p (.i .u64) (.p (.i .i64) .u)))], bx := [], bf := [] }
noncomputable def o8 : OT := (.ret { sl := [(0, .v .b)], bx := [], bf := [] })
/-- anabranch/anabranchlaw06.EventOrders -/
noncomputable def F8 (a0 : (Int × (Int × Unit))) (a1 : (Int × (Int × Unit))) (a2 : (Int × (Int × Unit))) : Option ((Bool × Unit) × Unit × Unit) :=
  ((F30 (a0.1, (a0.2.1, ())) (a1.1, (a1.2.1, ()))).bind fun y116 => ((F23).bind fun y117 => (bif y117.1.1 then ((F31 (a0.1, (a0.2.1, ())) (a1.1, (a1.2.1, ()))).bind fun y118 => (bif ((decide ((y116.1.1 : Int) < 0)) == y118.1.1) then ((F31 (a1.1, (a1.2.1, ())) (a0.1, (a0.2.1, ()))).bind fun y119 => (bif ((decide ((y116.1.1 : Int) > 0)) == y119.1.1) then (bif (((y116.1.1 : Int) == 0) == (((a0.1 : Int) == a1.1) && ((a0.2.1 : Int) == a1.2.1))) then (bif (decide ((y116.1.1 : Int) ≥ 0)) then (some ((true, ()), (), ())) else ((F30 (a1.1, (a1.2.1, ())) (a2.1, (a2.2.1, ()))).bind fun y120 => (bif (decide ((y120.1.1 : Int) ≥ 0)) then (some ((true, ()), (), ())) else ((F30 (a0.1, (a0.2.1, ())) (a2.1, (a2.2.1, ()))).bind fun y121 => (some (((decide ((y121.1.1 : Int) < 0)), ()), (), ())))))) else (some ((false, ()), (), ()))) else (some ((false, ()), (), ())))) else (some ((false, ()), (), ())))) else (some ((false, ()), (), ())))))
noncomputable def c8 : Con := ⟨i8, o8, fun x => F8 x.1.1 x.1.2.1 x.1.2.2.1⟩
theorem e8 (x : i8.E) : vfn Try.prog C8 LO8 Try.f8 b8 i8 o8 x = F8 x.1.1 x.1.2.1 x.1.2.2.1 := by kernel_rfl
theorem c8_ok : Con.OK Try.prog 8 c8 := (fn_ok C8_ok Try.func8 body8 (loops_of (l := []) (by kernel_rfl) (show LoopsOK Try.prog Try.f8.ntmps [] LO8 from trivial)) i8 o8).congr fun x => (e8 x).symm
end Go.IM.V

/- Tapes: what the code comes to. -/
set_option linter.unusedVariables false
set_option linter.constructorNameAsVariable false
namespace Go.IM.V
open Go Go.IM Go.Proofs

noncomputable def l78_3 : Code := (.seq (.region 3 (regOf Try.f78 3) false) (.seq (.cond (.tmp 11) .skip (.exit 0)) (.seq (.block 1 (.seq (.region 4 (regOf Try.f78 4) false) (.seq (.block 2 (.seq (.seq (.region 5 (regOf Try.f78 5) false) (.cond (.tmp 15) .skip (.region 6 (regOf Try.f78 6) false))) (.cond (.tmp 15) (.seq (.region 7 (regOf Try.f78 7) false) .ret) .skip))) (.seq (.region 8 (regOf Try.f78 8) false) (.seq (.region 9 (regOf Try.f78 9) false) (.cond (.tmp 38) (.seq (.region 10 (regOf Try.f78 10) true) .ret) .skip)))))) (.region 11 (regOf Try.f78 11) false))))
noncomputable def b78 : Code := (.seq (.region 0 (regOf Try.f78 0) false) (.seq (.region 1 (regOf Try.f78 1) false) (.seq (.seq (.region 2 (regOf Try.f78 2) false) (.block 0 (.loop l78_3))) (.seq (.region 12 (regOf Try.f78 12) false) .ret))))
theorem body78 : Try.f78.body = some b78 := by kernel_rfl
noncomputable def C78_3 : Tab := []
theorem C78_3_ok : TabOK Try.prog C78_3 := trivial
noncomputable def LO78_3 : Tab := []
noncomputable def i78_3 : Tm := { sl := [(0, .v (.l (.i .u8))), (5, .v (.i .u64)), (8, .v (.l (.i .u8))), (9, .v (.i .i64)), (10, .v (.i .i64))], bx := [], bf := [] }
noncomputable def o78_3 : OT := (.two (.ret { sl := [(2, .v (.i .u64)), (3, .v (.l (.i .u8))), (4, .v (.i .i64))], bx := [], bf := [] }) (.exit 0 { sl := [], bx := [], bf := [] }))
noncomputable def T78_3 (a0 : (List Int)) (a5 : Int) (a8 : (List Int)) (a9 : Int) (a10 : Int) : Option ((((List Int) × (Int × ((List Int) × (Int × (Int × Unit))))) × Unit × Unit) ⊕ (((Int × ((List Int) × (Int × Unit))) × Unit × Unit) ⊕ (Unit × Unit × Unit))) :=
  (bif (decide ((a10 : Int) < a9)) then (bif (decide (0 ≤ (a10 : Int) ∧ (a10 : Int) < (((a8).length : Nat) : Int))) then (bif ((a10 : Int) == 9) then (bif (decide ((((a8).getD (a10 : Int).toNat (0 : Int)) : Int) > 1)) then (some (.inr (.inl ((0, a0, 4, ()), (), ())))) else (bif (decide ((a10 : Int) > 0)) then (bif ((((a8).getD (a10 : Int).toNat (0 : Int)) : Int) == 0) then (some (.inr (.inl ((0, a0, 4, ()), (), ())))) else (bif (decide ((0 : Int) ≤ (IntKind.wrap .i64 (7 * a10)))) then (bif (decide ((((a8).getD (a10 : Int).toNat (0 : Int)) : Int) < 128)) then (bif (decide (0 ≤ ((IntKind.wrap .i64 (a10 + 1)) : Int) ∧ ((IntKind.wrap .i64 (a10 + 1)) : Int) ≤ (((a0).length : Nat) : Int))) then (some (.inr (.inl (((iOr .u64 a5 (iShl .u64 (IntKind.wrap .u64 (iAnd .u8 ((a8).getD (a10 : Int).toNat (0 : Int)) 127)) (IntKind.wrap .i64 (7 * a10)))), ((a0).drop ((IntKind.wrap .i64 (a10 + 1)) : Int).toNat), 0, ()), (), ())))) else none) else (some (.inl ((a0, (iOr .u64 a5 (iShl .u64 (IntKind.wrap .u64 (iAnd .u8 ((a8).getD (a10 : Int).toNat (0 : Int)) 127)) (IntKind.wrap .i64 (7 * a10)))), a8, a9, (IntKind.wrap .i64 (a10 + 1)), ()), (), ())))) else none)) else (bif (decide ((0 : Int) ≤ (IntKind.wrap .i64 (7 * a10)))) then (bif (decide ((((a8).getD (a10 : Int).toNat (0 : Int)) : Int) < 128)) then (bif (decide (0 ≤ ((IntKind.wrap .i64 (a10 + 1)) : Int) ∧ ((IntKind.wrap .i64 (a10 + 1)) : Int) ≤ (((a0).length : Nat) : Int))) then (some (.inr (.inl (((iOr .u64 a5 (iShl .u64 (IntKind.wrap .u64 (iAnd .u8 ((a8).getD (a10 : Int).toNat (0 : Int)) 127)) (IntKind.wrap .i64 (7 * a10)))), ((a0).drop ((IntKind.wrap .i64 (a10 + 1)) : Int).toNat), 0, ()), (), ())))) else none) else (some (.inl ((a0, (iOr .u64 a5 (iShl .u64 (IntKind.wrap .u64 (iAnd .u8 ((a8).getD (a10 : Int).toNat (0 : Int)) 127)) (IntKind.wrap .i64 (7 * a10)))), a8, a9, (IntKind.wrap .i64 (a10 + 1)), ()), (), ())))) else none))) else (bif (decide ((a10 : Int) > 0)) then (bif ((((a8).getD (a10 : Int).toNat (0 : Int)) : Int) == 0) then (some (.inr (.inl ((0, a0, 4, ()), (), ())))) else (bif (decide ((0 : Int) ≤ (IntKind.wrap .i64 (7 * a10)))) then (bif (decide ((((a8).getD (a10 : Int).toNat (0 : Int)) : Int) < 128)) then (bif (decide (0 ≤ ((IntKind.wrap .i64 (a10 + 1)) : Int) ∧ ((IntKind.wrap .i64 (a10 + 1)) : Int) ≤ (((a0).length : Nat) : Int))) then (some (.inr (.inl (((iOr .u64 a5 (iShl .u64 (IntKind.wrap .u64 (iAnd .u8 ((a8).getD (a10 : Int).toNat (0 : Int)) 127)) (IntKind.wrap .i64 (7 * a10)))), ((a0).drop ((IntKind.wrap .i64 (a10 + 1)) : Int).toNat), 0, ()), (), ())))) else none) else (some (.inl ((a0, (iOr .u64 a5 (iShl .u64 (IntKind.wrap .u64 (iAnd .u8 ((a8).getD (a10 : Int).toNat (0 : Int)) 127)) (IntKind.wrap .i64 (7 * a10)))), a8, a9, (IntKind.wrap .i64 (a10 + 1)), ()), (), ())))) else none)) else (bif (decide ((0 : Int) ≤ (IntKind.wrap .i64 (7 * a10)))) then (bif (decide ((((a8).getD (a10 : Int).toNat (0 : Int)) : Int) < 128)) then (bif (decide (0 ≤ ((IntKind.wrap .i64 (a10 + 1)) : Int) ∧ ((IntKind.wrap .i64 (a10 + 1)) : Int) ≤ (((a0).length : Nat) : Int))) then (some (.inr (.inl (((iOr .u64 a5 (iShl .u64 (IntKind.wrap .u64 (iAnd .u8 ((a8).getD (a10 : Int).toNat (0 : Int)) 127)) (IntKind.wrap .i64 (7 * a10)))), ((a0).drop ((IntKind.wrap .i64 (a10 + 1)) : Int).toNat), 0, ()), (), ())))) else none) else (some (.inl ((a0, (iOr .u64 a5 (iShl .u64 (IntKind.wrap .u64 (iAnd .u8 ((a8).getD (a10 : Int).toNat (0 : Int)) 127)) (IntKind.wrap .i64 (7 * a10)))), a8, a9, (IntKind.wrap .i64 (a10 + 1)), ()), (), ())))) else none))) else none) else (some (.inr (.inr ((), (), ())))))
noncomputable def L78_3 (a0 : (List Int)) (a5 : Int) (a8 : (List Int)) (a9 : Int) (a10 : Int) : Option (((Int × ((List Int) × (Int × Unit))) × Unit × Unit) ⊕ (Unit × Unit × Unit)) := loopF (fun x : (((List Int) × (Int × ((List Int) × (Int × (Int × Unit))))) × Unit × Unit) => T78_3 x.1.1 x.1.2.1 x.1.2.2.1 x.1.2.2.2.1 x.1.2.2.2.2.1) ((a0, a5, a8, a9, a10, ()), (), ())
theorem L78_3_eq (a0 : (List Int)) (a5 : Int) (a8 : (List Int)) (a9 : Int) (a10 : Int) : L78_3 a0 a5 a8 a9 a10 = (T78_3 a0 a5 a8 a9 a10).bind (Sum.elim (fun x => L78_3 x.1.1 x.1.2.1 x.1.2.2.1 x.1.2.2.2.1 x.1.2.2.2.2.1) some) := loopF_eq _ _
noncomputable def k78_3 : Con := ⟨i78_3, o78_3, fun x => L78_3 x.1.1 x.1.2.1 x.1.2.2.1 x.1.2.2.2.1 x.1.2.2.2.2.1⟩
theorem e78_3 (x : i78_3.E) : vround Try.prog C78_3 LO78_3 Try.f78.ntmps l78_3 i78_3 o78_3 x = T78_3 x.1.1 x.1.2.1 x.1.2.2.1 x.1.2.2.2.1 x.1.2.2.2.2.1 := by kernel_rfl
theorem k78_3_ok : Con.LOK Try.prog Try.f78.ntmps l78_3 k78_3 := (loop_ok C78_3_ok (loops_of (l := []) (by kernel_rfl) (show LoopsOK Try.prog Try.f78.ntmps [] LO78_3 from trivial)) i78_3 o78_3).congr fun x => (congrArg (fun T => loopF T x) (funext e78_3)).symm
noncomputable def C78 : Tab := []
theorem C78_ok : TabOK Try.prog C78 := trivial
noncomputable def LO78 : Tab := [(3, k78_3)]
noncomputable def i78 : Tm := { sl := [(0, .v (.l (.i .u8)))], bx := [], bf := [] }
noncomputable def o78 : OT := (.ret { sl := [(0, .v (.i .u64)), (1, .v (.l (.i .u8))), (2, .v (.i .i64))], bx := [], bf := [] })
/-- anabranch/digits.Take -/
noncomputable def F78 (a0 : (List Int)) : Option ((Int × ((List Int) × (Int × Unit))) × Unit × Unit) :=
  ((L78_3 a0 0 a0 (((a0).length : Nat) : Int) 0).bind fun y155 => (Sum.elim (fun y156 => (some ((y156.1.1, y156.1.2.1, y156.1.2.2.1, ()), (), ()))) (fun y156 => (some ((0, a0, 5, ()), (), ()))) y155))
noncomputable def c78 : Con := ⟨i78, o78, fun x => F78 x.1.1⟩
theorem e78 (x : i78.E) : vfn Try.prog C78 LO78 Try.f78 b78 i78 o78 x = F78 x.1.1 := by kernel_rfl
theorem c78_ok : Con.OK Try.prog 78 c78 := (fn_ok C78_ok Try.func78 body78 (loops_of (l := [l78_3]) (by kernel_rfl) (show LoopsOK Try.prog Try.f78.ntmps [l78_3] LO78 from ⟨k78_3_ok, trivial⟩)) i78 o78).congr fun x => (e78 x).symm
noncomputable def b79 : Code := (.seq (.region 0 (regOf Try.f79 0) false) (.seq (.region 1 (regOf Try.f79 1) false) (.seq (.block 0 (.seq (.region 2 (regOf Try.f79 2) false) (.cond (.tmp 16) (.seq (.region 3 (regOf Try.f79 3) false) .ret) (.seq (.region 4 (regOf Try.f79 4) false) (.cond (.tmp 21) (.seq (.region 5 (regOf Try.f79 5) false) .ret) (.seq (.region 6 (regOf Try.f79 6) false) (.cond (.tmp 31) (.seq (.region 7 (regOf Try.f79 7) false) .ret) .skip))))))) (.seq (.region 8 (regOf Try.f79 8) true) .ret))))
theorem body79 : Try.f79.body = some b79 := by kernel_rfl
noncomputable def C79 : Tab := [(78, c78)]
theorem C79_ok : TabOK Try.prog C79 := ⟨c78_ok, trivial⟩
noncomputable def LO79 : Tab := []
noncomputable def i79 : Tm := { sl := [(0, .v (.l (.i .u8))), (1, .v (.i .i64))], bx := [], bf := [] }
noncomputable def o79 : OT := (.ret { sl := [(0, .v (.l (.i .u8))), (1, .v (.l (.i .u8))), (2, .v (.i .i64))], bx := [], bf := [] })
/-- anabranch/digits.TakeText -/
noncomputable def F79 (a0 : (List Int)) (a1 : Int) : Option (((List Int) × ((List Int) × (Int × Unit))) × Unit × Unit) :=
  ((F78 a0).bind fun y157 => (bif ((y157.1.2.2.1 : Int) != 0) then (some (([], a0, y157.1.2.2.1, ()), (), ())) else (bif (decide ((a1 : Int) < 0)) then (some (([], a0, 6, ()), (), ())) else (bif (decide ((y157.1.1 : Int) > (IntKind.wrap .u64 a1))) then (some (([], a0, 6, ()), (), ())) else (bif (decide ((y157.1.1 : Int) > (IntKind.wrap .u64 (((y157.1.2.1).length : Nat) : Int)))) then (some (([], a0, 5, ()), (), ())) else (bif (decide (0 ≤ (y157.1.1 : Int) ∧ (y157.1.1 : Int) ≤ (((y157.1.2.1).length : Nat) : Int))) then (bif (decide ((((y157.1.2.1).take (y157.1.1 : Int).toNat)).length < lim)) then (bif (decide (0 ≤ (y157.1.1 : Int) ∧ (y157.1.1 : Int) ≤ (((y157.1.2.1).length : Nat) : Int))) then (some ((((y157.1.2.1).take (y157.1.1 : Int).toNat), ((y157.1.2.1).drop (y157.1.1 : Int).toNat), 0, ()), (), ())) else none) else none) else none))))))
noncomputable def c79 : Con := ⟨i79, o79, fun x => F79 x.1.1 x.1.2.1⟩
theorem e79 (x : i79.E) : vfn Try.prog C79 LO79 Try.f79 b79 i79 o79 x = F79 x.1.1 x.1.2.1 := by kernel_rfl
theorem c79_ok : Con.OK Try.prog 79 c79 := (fn_ok C79_ok Try.func79 body79 (loops_of (l := []) (by kernel_rfl) (show LoopsOK Try.prog Try.f79.ntmps [] LO79 from trivial)) i79 o79).congr fun x => (e79 x).symm
noncomputable def b69 : Code := (.seq (.region 0 (regOf Try.f69 0) false) (.cond (.tmp 3) (.region 1 (regOf Try.f69 1) false) .skip))
theorem body69 : Try.f69.body = some b69 := by kernel_rfl
noncomputable def C69 : Tab := []
theorem C69_ok : TabOK Try.prog C69 := trivial
noncomputable def LO69 : Tab := []
noncomputable def i69 : Tm := { sl := [(0, .v (.i .i64))], bx := [], bf := [] }
noncomputable def o69 : OT := (.two (.ret { sl := [], bx := [], bf := [] }) (.pnc 88 .i64 { sl := [], bx := [], bf := [] }))
/-- anabranch/digits.must -/
noncomputable def F69 (a0 : Int) : Option ((Unit × Unit × Unit) ⊕ (Int × (Unit × Unit × Unit))) :=
  (bif ((a0 : Int) != 0) then (some (.inr (a0, ((), (), ())))) else (some (.inl ((), (), ()))))
noncomputable def c69 : Con := ⟨i69, o69, fun x => F69 x.1.1⟩
theorem e69 (x : i69.E) : vfn Try.prog C69 LO69 Try.f69 b69 i69 o69 x = F69 x.1.1 := by kernel_rfl
theorem c69_ok : Con.OK Try.prog 69 c69 := (fn_ok C69_ok Try.func69 body69 (loops_of (l := []) (by kernel_rfl) (show LoopsOK Try.prog Try.f69.ntmps [] LO69 from trivial)) i69 o69).congr fun x => (e69 x).symm
noncomputable def b68 : Code := (.seq (.region 0 (regOf Try.f68 0) false) (.seq (.region 1 (regOf Try.f68 1) false) (.seq (.region 2 (regOf Try.f68 2) false) (.seq (.seq (.region 3 (regOf Try.f68 3) false) (.cond (.tmp 21) (.region 4 (regOf Try.f68 4) false) .skip)) (.seq (.region 5 (regOf Try.f68 5) false) (.seq (.region 6 (regOf Try.f68 6) false) .ret))))))
theorem body68 : Try.f68.body = some b68 := by kernel_rfl
noncomputable def C68 : Tab := [(69, c69), (78, c78)]
theorem C68_ok : TabOK Try.prog C68 := ⟨c69_ok, c78_ok, trivial⟩
noncomputable def LO68 : Tab := []
noncomputable def i68 : Tm := { sl := [(0, .p 0 0), (1, .v (.i .u64))], bx := [[.v (.l (.i .u8))]], bf := [] }
noncomputable def o68 : OT := (.two (.ret { sl := [(0, .v (.i .u64))], bx := [[.v (.l (.i .u8))]], bf := [] }) (.pnc 88 .i64 { sl := [], bx := [[.v (.l (.i .u8))]], bf := [] }))
/-- (*anabranch/digits.Tape).Num -/
noncomputable def F68 (a1 : Int) (b0_0 : (List Int)) : Option (((Int × Unit) × (((List Int) × Unit) × Unit) × Unit) ⊕ (Int × (Unit × (((List Int) × Unit) × Unit) × Unit))) :=
  ((F78 b0_0).bind fun y158 => ((F69 y158.1.2.2.1).bind fun y159 => (Sum.elim (fun y160 => (bif (decide ((y158.1.1 : Int) > a1)) then ((F69 6).bind fun y161 => (Sum.elim (fun y162 => (some (.inl ((y158.1.1, ()), ((y158.1.2.1, ()), ()), ())))) (fun y162 => (some (.inr (y162.1, ((), ((b0_0, ()), ()), ()))))) y161)) else (some (.inl ((y158.1.1, ()), ((y158.1.2.1, ()), ()), ()))))) (fun y160 => (some (.inr (y160.1, ((), ((b0_0, ()), ()), ()))))) y159)))
noncomputable def c68 : Con := ⟨i68, o68, fun x => F68 x.1.2.1 x.2.1.1.1⟩
theorem e68 (x : i68.E) : vfn Try.prog C68 LO68 Try.f68 b68 i68 o68 x = F68 x.1.2.1 x.2.1.1.1 := by kernel_rfl
theorem c68_ok : Con.OK Try.prog 68 c68 := (fn_ok C68_ok Try.func68 body68 (loops_of (l := []) (by kernel_rfl) (show LoopsOK Try.prog Try.f68.ntmps [] LO68 from trivial)) i68 o68).congr fun x => (e68 x).symm
noncomputable def b73 : Code := (.seq (.region 0 (regOf Try.f73 0) false) (.seq (.seq (.region 1 (regOf Try.f73 1) false) (.cond (.tmp 9) (.region 2 (regOf Try.f73 2) false) .skip)) (.seq (.region 3 (regOf Try.f73 3) false) (.seq (.region 4 (regOf Try.f73 4) false) (.seq (.region 5 (regOf Try.f73 5) false) .ret)))))
theorem body73 : Try.f73.body = some b73 := by kernel_rfl
noncomputable def C73 : Tab := [(69, c69)]
theorem C73_ok : TabOK Try.prog C73 := ⟨c69_ok, trivial⟩
noncomputable def LO73 : Tab := []
noncomputable def i73 : Tm := { sl := [(0, .p 0 0)], bx := [[.v (.l (.i .u8))]], bf := [] }
noncomputable def o73 : OT := (.two (.ret { sl := [(0, .v (.i .u8))], bx := [[.v (.l (.i .u8))]], bf := [] }) (.pnc 88 .i64 { sl := [], bx := [[.v (.l (.i .u8))]], bf := [] }))
/-- (*anabranch/digits.Tape).Byte -/
noncomputable def F73 (b0_0 : (List Int)) : Option (((Int × Unit) × (((List Int) × Unit) × Unit) × Unit) ⊕ (Int × (Unit × (((List Int) × Unit) × Unit) × Unit))) :=
  (bif (((((b0_0).length : Nat) : Int) : Int) == 0) then ((F69 5).bind fun y163 => (Sum.elim (fun y164 => (bif (decide (0 ≤ (0 : Int) ∧ (0 : Int) < (((b0_0).length : Nat) : Int))) then (bif (decide (0 ≤ (1 : Int) ∧ (1 : Int) ≤ (((b0_0).length : Nat) : Int))) then (some (.inl ((((b0_0).getD (0 : Int).toNat (0 : Int)), ()), ((((b0_0).drop (1 : Int).toNat), ()), ()), ()))) else none) else none)) (fun y164 => (some (.inr (y164.1, ((), ((b0_0, ()), ()), ()))))) y163)) else (bif (decide (0 ≤ (0 : Int) ∧ (0 : Int) < (((b0_0).length : Nat) : Int))) then (bif (decide (0 ≤ (1 : Int) ∧ (1 : Int) ≤ (((b0_0).length : Nat) : Int))) then (some (.inl ((((b0_0).getD (0 : Int).toNat (0 : Int)), ()), ((((b0_0).drop (1 : Int).toNat), ()), ()), ()))) else none) else none))
noncomputable def c73 : Con := ⟨i73, o73, fun x => F73 x.2.1.1.1⟩
theorem e73 (x : i73.E) : vfn Try.prog C73 LO73 Try.f73 b73 i73 o73 x = F73 x.2.1.1.1 := by kernel_rfl
theorem c73_ok : Con.OK Try.prog 73 c73 := (fn_ok C73_ok Try.func73 body73 (loops_of (l := []) (by kernel_rfl) (show LoopsOK Try.prog Try.f73.ntmps [] LO73 from trivial)) i73 o73).congr fun x => (e73 x).symm
noncomputable def b74 : Code := (.seq (.region 0 (regOf Try.f74 0) false) (.seq (.region 1 (regOf Try.f74 1) false) (.seq (.region 2 (regOf Try.f74 2) false) (.seq (.region 3 (regOf Try.f74 3) false) (.seq (.region 4 (regOf Try.f74 4) false) .ret)))))
theorem body74 : Try.f74.body = some b74 := by kernel_rfl
noncomputable def C74 : Tab := [(69, c69), (79, c79)]
theorem C74_ok : TabOK Try.prog C74 := ⟨c69_ok, c79_ok, trivial⟩
noncomputable def LO74 : Tab := []
noncomputable def i74 : Tm := { sl := [(0, .p 0 0), (1, .v (.i .i64))], bx := [[.v (.l (.i .u8))]], bf := [] }
noncomputable def o74 : OT := (.two (.ret { sl := [(0, .v (.l (.i .u8)))], bx := [[.v (.l (.i .u8))]], bf := [] }) (.pnc 88 .i64 { sl := [], bx := [[.v (.l (.i .u8))]], bf := [] }))
/-- (*anabranch/digits.Tape).Text -/
noncomputable def F74 (a1 : Int) (b0_0 : (List Int)) : Option ((((List Int) × Unit) × (((List Int) × Unit) × Unit) × Unit) ⊕ (Int × (Unit × (((List Int) × Unit) × Unit) × Unit))) :=
  ((F79 b0_0 a1).bind fun y165 => ((F69 y165.1.2.2.1).bind fun y166 => (Sum.elim (fun y167 => (some (.inl ((y165.1.1, ()), ((y165.1.2.1, ()), ()), ())))) (fun y167 => (some (.inr (y167.1, ((), ((b0_0, ()), ()), ()))))) y166)))
noncomputable def c74 : Con := ⟨i74, o74, fun x => F74 x.1.2.1 x.2.1.1.1⟩
theorem e74 (x : i74.E) : vfn Try.prog C74 LO74 Try.f74 b74 i74 o74 x = F74 x.1.2.1 x.2.1.1.1 := by kernel_rfl
theorem c74_ok : Con.OK Try.prog 74 c74 := (fn_ok C74_ok Try.func74 body74 (loops_of (l := []) (by kernel_rfl) (show LoopsOK Try.prog Try.f74.ntmps [] LO74 from trivial)) i74 o74).congr fun x => (e74 x).symm
noncomputable def l76_3 : Code := (.seq (.region 3 (regOf Try.f76 3) false) (.seq (.cond (.tmp 5) .skip (.exit 0)) (.seq (.block 1 (.region 4 (regOf Try.f76 4) false)) (.region 5 (regOf Try.f76 5) false))))
noncomputable def b76 : Code := (.seq (.region 0 (regOf Try.f76 0) false) (.seq (.region 1 (regOf Try.f76 1) false) (.seq (.seq (.region 2 (regOf Try.f76 2) false) (.block 0 (.loop l76_3))) (.seq (.region 6 (regOf Try.f76 6) false) .ret))))
theorem body76 : Try.f76.body = some b76 := by kernel_rfl
noncomputable def C76_3 : Tab := [(73, c73)]
theorem C76_3_ok : TabOK Try.prog C76_3 := ⟨c73_ok, trivial⟩
noncomputable def LO76_3 : Tab := []
noncomputable def i76_3 : Tm := { sl := [(0, .p 0 0), (3, .v (.i .u64)), (4, .v (.i .i64))], bx := [[.v (.l (.i .u8))]], bf := [] }
noncomputable def o76_3 : OT := (.two (.pnc 88 .i64 { sl := [], bx := [[.v (.l (.i .u8))]], bf := [] }) (.exit 0 { sl := [(3, .v (.i .u64))], bx := [[.v (.l (.i .u8))]], bf := [] }))
noncomputable def T76_3 (a3 : Int) (a4 : Int) (b0_0 : (List Int)) : Option (((Unit × (Int × (Int × Unit))) × (((List Int) × Unit) × Unit) × Unit) ⊕ ((Int × (Unit × (((List Int) × Unit) × Unit) × Unit)) ⊕ ((Int × Unit) × (((List Int) × Unit) × Unit) × Unit))) :=
  (bif (decide ((a4 : Int) < 8)) then ((F73 b0_0).bind fun y170 => (Sum.elim (fun y171 => (some (.inl (((), (iOr .u64 (iShl .u64 a3 8) (IntKind.wrap .u64 y171.1.1)), (IntKind.wrap .i64 (a4 + 1)), ()), ((y171.2.1.1.1, ()), ()), ())))) (fun y171 => (some (.inr (.inl (y171.1, ((), ((y171.2.2.1.1.1, ()), ()), ())))))) y170)) else (some (.inr (.inr ((a3, ()), ((b0_0, ()), ()), ())))))
noncomputable def L76_3 (a3 : Int) (a4 : Int) (b0_0 : (List Int)) : Option ((Int × (Unit × (((List Int) × Unit) × Unit) × Unit)) ⊕ ((Int × Unit) × (((List Int) × Unit) × Unit) × Unit)) := loopF (fun x : ((Unit × (Int × (Int × Unit))) × (((List Int) × Unit) × Unit) × Unit) => T76_3 x.1.2.1 x.1.2.2.1 x.2.1.1.1) (((), a3, a4, ()), ((b0_0, ()), ()), ())
theorem L76_3_eq (a3 : Int) (a4 : Int) (b0_0 : (List Int)) : L76_3 a3 a4 b0_0 = (T76_3 a3 a4 b0_0).bind (Sum.elim (fun x => L76_3 x.1.2.1 x.1.2.2.1 x.2.1.1.1) some) := loopF_eq _ _
noncomputable def k76_3 : Con := ⟨i76_3, o76_3, fun x => L76_3 x.1.2.1 x.1.2.2.1 x.2.1.1.1⟩
theorem e76_3 (x : i76_3.E) : vround Try.prog C76_3 LO76_3 Try.f76.ntmps l76_3 i76_3 o76_3 x = T76_3 x.1.2.1 x.1.2.2.1 x.2.1.1.1 := by kernel_rfl
theorem k76_3_ok : Con.LOK Try.prog Try.f76.ntmps l76_3 k76_3 := (loop_ok C76_3_ok (loops_of (l := []) (by kernel_rfl) (show LoopsOK Try.prog Try.f76.ntmps [] LO76_3 from trivial)) i76_3 o76_3).congr fun x => (congrArg (fun T => loopF T x) (funext e76_3)).symm
noncomputable def C76 : Tab := [(73, c73)]
theorem C76_ok : TabOK Try.prog C76 := ⟨c73_ok, trivial⟩
noncomputable def LO76 : Tab := [(3, k76_3)]
noncomputable def i76 : Tm := { sl := [(0, .p 0 0)], bx := [[.v (.l (.i .u8))]], bf := [] }
noncomputable def o76 : OT := (.two (.ret { sl := [(0, .v (.i .u64))], bx := [[.v (.l (.i .u8))]], bf := [] }) (.pnc 88 .i64 { sl := [], bx := [[.v (.l (.i .u8))]], bf := [] }))
/-- (*anabranch/digits.Tape).Fixed -/
noncomputable def F76 (b0_0 : (List Int)) : Option (((Int × Unit) × (((List Int) × Unit) × Unit) × Unit) ⊕ (Int × (Unit × (((List Int) × Unit) × Unit) × Unit))) :=
  ((L76_3 0 0 b0_0).bind fun y172 => (Sum.elim (fun y173 => (some (.inr (y173.1, ((), ((y173.2.2.1.1.1, ()), ()), ()))))) (fun y173 => (some (.inl ((y173.1.1, ()), ((y173.2.1.1.1, ()), ()), ())))) y172))
noncomputable def c76 : Con := ⟨i76, o76, fun x => F76 x.2.1.1.1⟩
theorem e76 (x : i76.E) : vfn Try.prog C76 LO76 Try.f76 b76 i76 o76 x = F76 x.2.1.1.1 := by kernel_rfl
theorem c76_ok : Con.OK Try.prog 76 c76 := (fn_ok C76_ok Try.func76 body76 (loops_of (l := [l76_3]) (by kernel_rfl) (show LoopsOK Try.prog Try.f76.ntmps [l76_3] LO76 from ⟨k76_3_ok, trivial⟩)) i76 o76).congr fun x => (e76 x).symm
noncomputable def b54 : Code := (.seq (.region 0 (regOf Try.f54 0) false) (.cond (.tmp 7) (.region 1 (regOf Try.f54 1) false) .skip))
theorem body54 : Try.f54.body = some b54 := by kernel_rfl
noncomputable def C54 : Tab := [(69, c69)]
theorem C54_ok : TabOK Try.prog C54 := ⟨c69_ok, trivial⟩
noncomputable def LO54 : Tab := []
noncomputable def i54 : Tm := { sl := [(0, .p 0 0)], bx := [[.v (.l (.i .u8))]], bf := [] }
noncomputable def o54 : OT := (.two (.ret { sl := [], bx := [[.v (.l (.i .u8))]], bf := [] }) (.pnc 88 .i64 { sl := [], bx := [[.v (.l (.i .u8))]], bf := [] }))
/-- (*anabranch/digits.Tape).Done -/
noncomputable def F54 (b0_0 : (List Int)) : Option ((Unit × (((List Int) × Unit) × Unit) × Unit) ⊕ (Int × (Unit × (((List Int) × Unit) × Unit) × Unit))) :=
  (bif (decide (((((b0_0).length : Nat) : Int) : Int) > 0)) then ((F69 4).bind fun y174 => (Sum.elim (fun y175 => (some (.inl ((), ((b0_0, ()), ()), ())))) (fun y175 => (some (.inr (y175.1, ((), ((b0_0, ()), ()), ()))))) y174)) else (some (.inl ((), ((b0_0, ()), ()), ()))))
noncomputable def c54 : Con := ⟨i54, o54, fun x => F54 x.2.1.1.1⟩
theorem e54 (x : i54.E) : vfn Try.prog C54 LO54 Try.f54 b54 i54 o54 x = F54 x.2.1.1.1 := by kernel_rfl
theorem c54_ok : Con.OK Try.prog 54 c54 := (fn_ok C54_ok Try.func54 body54 (loops_of (l := []) (by kernel_rfl) (show LoopsOK Try.prog Try.f54.ntmps [] LO54 from trivial)) i54 o54).congr fun x => (e54 x).symm
noncomputable def b75 : Code := (.seq (.region 0 (regOf Try.f75 0) false) (.seq (.region 1 (regOf Try.f75 1) false) (.seq (.region 2 (regOf Try.f75 2) false) .ret)))
theorem body75 : Try.f75.body = some b75 := by kernel_rfl
noncomputable def C75 : Tab := [(64, c64)]
theorem C75_ok : TabOK Try.prog C75 := ⟨c64_ok, trivial⟩
noncomputable def LO75 : Tab := []
noncomputable def i75 : Tm := { sl := [(0, .v (.i .u64))], bx := [], bf := [] }
noncomputable def o75 : OT := (.ret { sl := [(0, .v (.f .f64)), (1, .v .b)], bx := [], bf := [] })
/-- anabranch/quantity.Of -/
noncomputable def F75 (a0 : Int) : Option ((Nat × (Bool × Unit)) × Unit × Unit) :=
  ((F64 ((a0 : Int).toNat)).bind fun y176 => (some (((a0 : Int).toNat, ((y176.1.1 : Int) == a0), ()), (), ())))
noncomputable def c75 : Con := ⟨i75, o75, fun x => F75 x.1.1⟩
theorem e75 (x : i75.E) : vfn Try.prog C75 LO75 Try.f75 b75 i75 o75 x = F75 x.1.1 := by kernel_rfl
theorem c75_ok : Con.OK Try.prog 75 c75 := (fn_ok C75_ok Try.func75 body75 (loops_of (l := []) (by kernel_rfl) (show LoopsOK Try.prog Try.f75.ntmps [] LO75 from trivial)) i75 o75).congr fun x => (e75 x).symm
noncomputable def b52 : Code := (.seq (.region 0 (regOf Try.f52 0) false) (.seq (.region 1 (regOf Try.f52 1) false) .ret))
theorem body52 : Try.f52.body = some b52 := by kernel_rfl
noncomputable def C52 : Tab := []
theorem C52_ok : TabOK Try.prog C52 := trivial
noncomputable def LO52 : Tab := []
noncomputable def i52 : Tm := { sl := [(0, .v (.l (.i .u8)))], bx := [], bf := [] }
noncomputable def o52 : OT := (.ret { sl := [(0, .p 0 0)], bx := [[.v (.l (.i .u8))]], bf := [] })
/-- anabranch/digits.NewTape -/
noncomputable def F52 (a0 : (List Int)) : Option ((Unit × Unit) × (((List Int) × Unit) × Unit) × Unit) :=
  (some (((), ()), ((a0, ()), ()), ()))
noncomputable def c52 : Con := ⟨i52, o52, fun x => F52 x.1.1⟩
theorem e52 (x : i52.E) : vfn Try.prog C52 LO52 Try.f52 b52 i52 o52 x = F52 x.1.1 := by kernel_rfl
theorem c52_ok : Con.OK Try.prog 52 c52 := (fn_ok C52_ok Try.func52 body52 (loops_of (l := []) (by kernel_rfl) (show LoopsOK Try.prog Try.f52.ntmps [] LO52 from trivial)) i52 o52).congr fun x => (e52 x).symm
noncomputable def l32_2 : Code := (.seq (.seq (.region 2 (regOf Try.f32 2) false) (.cond (.tmp 7) .skip (.exit 0))) (.seq (.block 1 (.seq (.region 4 (regOf Try.f32 4) false) (.cond (.tmp 14) (.seq (.region 5 (regOf Try.f32 5) false) .ret) .skip))) (.region 3 (regOf Try.f32 3) false)))
noncomputable def b32 : Code := (.seq (.region 0 (regOf Try.f32 0) false) (.seq (.seq (.region 1 (regOf Try.f32 1) false) (.block 0 (.loop l32_2))) (.seq (.region 6 (regOf Try.f32 6) false) .ret)))
theorem body32 : Try.f32.body = some b32 := by kernel_rfl
noncomputable def C32_2 : Tab := []
theorem C32_2_ok : TabOK Try.prog C32_2 := trivial
noncomputable def LO32_2 : Tab := []
noncomputable def i32_2 : Tm := { sl := [(0, .v (.l (.i .u64))), (3, .v (.i .i64))], bx := [], bf := [] }
noncomputable def o32_2 : OT := (.two (.ret { sl := [(2, .v .b)], bx := [], bf := [] }) (.exit 0 { sl := [], bx := [], bf := [] }))
noncomputable def T32_2 (a0 : (List Int)) (a3 : Int) : Option ((((List Int) × (Int × Unit)) × Unit × Unit) ⊕ (((Bool × Unit) × Unit × Unit) ⊕ (Unit × Unit × Unit))) :=
  (bif (decide ((a3 : Int) < (((a0).length : Nat) : Int))) then (bif (decide (0 ≤ (a3 : Int) ∧ (a3 : Int) < (((a0).length : Nat) : Int))) then (bif (decide ((((a0).getD (a3 : Int).toNat (0 : Int)) : Int) > 9223372036854775807)) then (some (.inr (.inl ((false, ()), (), ())))) else (some (.inl ((a0, (IntKind.wrap .i64 (a3 + 1)), ()), (), ())))) else none) else (some (.inr (.inr ((), (), ())))))
noncomputable def L32_2 (a0 : (List Int)) (a3 : Int) : Option (((Bool × Unit) × Unit × Unit) ⊕ (Unit × Unit × Unit)) := loopF (fun x : (((List Int) × (Int × Unit)) × Unit × Unit) => T32_2 x.1.1 x.1.2.1) ((a0, a3, ()), (), ())
theorem L32_2_eq (a0 : (List Int)) (a3 : Int) : L32_2 a0 a3 = (T32_2 a0 a3).bind (Sum.elim (fun x => L32_2 x.1.1 x.1.2.1) some) := loopF_eq _ _
noncomputable def k32_2 : Con := ⟨i32_2, o32_2, fun x => L32_2 x.1.1 x.1.2.1⟩
theorem e32_2 (x : i32_2.E) : vround Try.prog C32_2 LO32_2 Try.f32.ntmps l32_2 i32_2 o32_2 x = T32_2 x.1.1 x.1.2.1 := by kernel_rfl
theorem k32_2_ok : Con.LOK Try.prog Try.f32.ntmps l32_2 k32_2 := (loop_ok C32_2_ok (loops_of (l := []) (by kernel_rfl) (show LoopsOK Try.prog Try.f32.ntmps [] LO32_2 from trivial)) i32_2 o32_2).congr fun x => (congrArg (fun T => loopF T x) (funext e32_2)).symm
noncomputable def C32 : Tab := []
theorem C32_ok : TabOK Try.prog C32 := trivial
noncomputable def LO32 : Tab := [(2, k32_2)]
noncomputable def i32 : Tm := { sl := [(0, .v (.l (.i .u64)))], bx := [], bf := [] }
noncomputable def o32 : OT := (.ret { sl := [(0, .v .b)], bx := [], bf := [] })
/-- anabranch/anabranchlaw07.small -/
noncomputable def F32 (a0 : (List Int)) : Option ((Bool × Unit) × Unit × Unit) :=
  ((L32_2 a0 0).bind fun y177 => (Sum.elim (fun y178 => (some ((y178.1.1, ()), (), ()))) (fun y178 => (some (((decide (((((a0).length : Nat) : Int) : Int) ≤ 64)), ()), (), ()))) y177))
noncomputable def c32 : Con := ⟨i32, o32, fun x => F32 x.1.1⟩
theorem e32 (x : i32.E) : vfn Try.prog C32 LO32 Try.f32 b32 i32 o32 x = F32 x.1.1 := by kernel_rfl
theorem c32_ok : Con.OK Try.prog 32 c32 := (fn_ok C32_ok Try.func32 body32 (loops_of (l := [l32_2]) (by kernel_rfl) (show LoopsOK Try.prog Try.f32.ntmps [l32_2] LO32 from ⟨k32_2_ok, trivial⟩)) i32 o32).congr fun x => (e32 x).symm
noncomputable def l34_4 : Code := (.seq (.region 4 (regOf Try.f34 4) false) (.seq (.cond (.tmp 17) .skip (.exit 0)) (.seq (.block 1 (.seq (.region 5 (regOf Try.f34 5) false) (.region 6 (regOf Try.f34 6) false))) (.region 7 (regOf Try.f34 7) false))))
noncomputable def b34 : Code := (.seq (.region 0 (regOf Try.f34 0) false) (.seq (.region 1 (regOf Try.f34 1) false) (.seq (.region 2 (regOf Try.f34 2) false) (.seq (.seq (.region 3 (regOf Try.f34 3) false) (.block 0 (.loop l34_4))) (.seq (.region 8 (regOf Try.f34 8) false) .ret)))))
theorem body34 : Try.f34.body = some b34 := by kernel_rfl
noncomputable def C34_4 : Tab := [(56, c56)]
theorem C34_4_ok : TabOK Try.prog C34_4 := ⟨c56_ok, trivial⟩
noncomputable def LO34_4 : Tab := []
noncomputable def i34_4 : Tm := { sl := [(1, .o 0), (14, .v (.l (.i .u64))), (15, .v (.i .i64)), (16, .v (.i .i64))], bx := [], bf := [(.i .u8)] }
noncomputable def o34_4 : OT := (.exit 0 { sl := [(1, .o 0)], bx := [], bf := [(.i .u8)] })
noncomputable def T34_4 (a14 : (List Int)) (a15 : Int) (a16 : Int) (q0 : (List Int)) : Option (((Unit × ((List Int) × (Int × (Int × Unit)))) × Unit × ((List Int) × Unit)) ⊕ ((Unit × Unit) × Unit × ((List Int) × Unit))) :=
  (bif (decide ((a16 : Int) < a15)) then (bif (decide (0 ≤ (a16 : Int) ∧ (a16 : Int) < (((a14).length : Nat) : Int))) then ((F56 ((a14).getD (a16 : Int).toNat (0 : Int)) q0).bind fun y182 => (some (.inl (((), a14, a15, (IntKind.wrap .i64 (a16 + 1)), ()), (), (y182.2.2.1, ()))))) else none) else (some (.inr (((), ()), (), (q0, ())))))
noncomputable def L34_4 (a14 : (List Int)) (a15 : Int) (a16 : Int) (q0 : (List Int)) : Option ((Unit × Unit) × Unit × ((List Int) × Unit)) := loopF (fun x : ((Unit × ((List Int) × (Int × (Int × Unit)))) × Unit × ((List Int) × Unit)) => T34_4 x.1.2.1 x.1.2.2.1 x.1.2.2.2.1 x.2.2.1) (((), a14, a15, a16, ()), (), (q0, ()))
theorem L34_4_eq (a14 : (List Int)) (a15 : Int) (a16 : Int) (q0 : (List Int)) : L34_4 a14 a15 a16 q0 = (T34_4 a14 a15 a16 q0).bind (Sum.elim (fun x => L34_4 x.1.2.1 x.1.2.2.1 x.1.2.2.2.1 x.2.2.1) some) := loopF_eq _ _
noncomputable def k34_4 : Con := ⟨i34_4, o34_4, fun x => L34_4 x.1.2.1 x.1.2.2.1 x.1.2.2.2.1 x.2.2.1⟩
theorem e34_4 (x : i34_4.E) : vround Try.prog C34_4 LO34_4 Try.f34.ntmps l34_4 i34_4 o34_4 x = T34_4 x.1.2.1 x.1.2.2.1 x.1.2.2.2.1 x.2.2.1 := by kernel_rfl
theorem k34_4_ok : Con.LOK Try.prog Try.f34.ntmps l34_4 k34_4 := (loop_ok C34_4_ok (loops_of (l := []) (by kernel_rfl) (show LoopsOK Try.prog Try.f34.ntmps [] LO34_4 from trivial)) i34_4 o34_4).congr fun x => (congrArg (fun T => loopF T x) (funext e34_4)).symm
noncomputable def C34 : Tab := [(55, c55), (56, c56)]
theorem C34_ok : TabOK Try.prog C34 := ⟨c55_ok, c56_ok, trivial⟩
noncomputable def LO34 : Tab := [(4, k34_4)]
noncomputable def i34 : Tm := { sl := [(0, .v (.l (.i .u64))), (1, .o 0)], bx := [], bf := [(.i .u8)] }
noncomputable def o34 : OT := (.ret { sl := [(0, .o 0)], bx := [], bf := [(.i .u8)] })
/-- (anabranch/vector.Vector).Lay -/
noncomputable def F34 (a0 : (List Int)) (q0 : (List Int)) : Option ((Unit × Unit) × Unit × ((List Int) × Unit)) :=
  ((F55 a0).bind fun y179 => ((F56 (IntKind.wrap .u64 (((y179.1.1).length : Nat) : Int)) q0).bind fun y180 => ((L34_4 y179.1.1 (((y179.1.1).length : Nat) : Int) 0 y180.2.2.1).bind fun y183 => (some (((), ()), (), (y183.2.2.1, ()))))))
noncomputable def c34 : Con := ⟨i34, o34, fun x => F34 x.1.1 x.2.2.1⟩
theorem e34 (x : i34.E) : vfn Try.prog C34 LO34 Try.f34 b34 i34 o34 x = F34 x.1.1 x.2.2.1 := by kernel_rfl
theorem c34_ok : Con.OK Try.prog 34 c34 := (fn_ok C34_ok Try.func34 body34 (loops_of (l := [l34_4]) (by kernel_rfl) (show LoopsOK Try.prog Try.f34.ntmps [l34_4] LO34 from ⟨k34_4_ok, trivial⟩)) i34 o34).congr fun x => (e34 x).symm
noncomputable def b35 : Code := (.seq (.region 0 (regOf Try.f35 0) false) (.seq (.region 1 (regOf Try.f35 1) false) .ret))
theorem body35 : Try.f35.body = some b35 := by kernel_rfl
noncomputable def C35 : Tab := [(34, c34)]
theorem C35_ok : TabOK Try.prog C35 := ⟨c34_ok, trivial⟩
noncomputable def LO35 : Tab := []
noncomputable def i35 : Tm := { sl := [(0, .v (.l (.i .u64)))], bx := [], bf := [] }
noncomputable def o35 : OT := (.ret { sl := [(0, .o 0)], bx := [], bf := [(.i .u8)] })
/-- (anabranch/vector.Vector).Bytes -/
noncomputable def F35 (a0 : (List Int)) : Option ((Unit × Unit) × Unit × ((List Int) × Unit)) :=
  ((F34 a0 ([] : List Int)).bind fun y184 => (some (((), ()), (), (y184.2.2.1, ()))))
noncomputable def c35 : Con := ⟨i35, o35, fun x => F35 x.1.1⟩
theorem e35 (x : i35.E) : vfn Try.prog C35 LO35 Try.f35 b35 i35 o35 x = F35 x.1.1 := by kernel_rfl
theorem c35_ok : Con.OK Try.prog 35 c35 := (fn_ok C35_ok Try.func35 body35 (loops_of (l := []) (by kernel_rfl) (show LoopsOK Try.prog Try.f35.ntmps [] LO35 from trivial)) i35 o35).congr fun x => (e35 x).symm
noncomputable def l37_2 : Code := (.seq (.seq (.region 2 (regOf Try.f37 2) false) (.cond (.tmp 18) .skip (.exit 0))) (.block 1 (.region 3 (regOf Try.f37 3) false)))
noncomputable def l37_6 : Code := (.seq (.seq (.region 6 (regOf Try.f37 6) false) (.cond (.tmp 27) .skip (.exit 2))) (.seq (.block 3 (.region 8 (regOf Try.f37 8) false)) (.region 7 (regOf Try.f37 7) false)))
noncomputable def b37 : Code := (.seq (.region 0 (regOf Try.f37 0) false) (.seq (.region 1 (regOf Try.f37 1) false) (.seq (.block 0 (.loop l37_2)) (.seq (.region 4 (regOf Try.f37 4) false) (.seq (.seq (.region 5 (regOf Try.f37 5) false) (.block 2 (.loop l37_6))) (.seq (.region 9 (regOf Try.f37 9) false) .ret))))))
theorem body37 : Try.f37.body = some b37 := by kernel_rfl
noncomputable def C37_2 : Tab := []
theorem C37_2_ok : TabOK Try.prog C37_2 := trivial
noncomputable def LO37_2 : Tab := []
noncomputable def i37_2 : Tm := { sl := [(0, .v (.l (.i .u8))), (1, .v (.l (.i .u64))), (5, .v (.i .i64))], bx := [], bf := [] }
noncomputable def o37_2 : OT := (.exit 0 { sl := [(5, .v (.i .i64))], bx := [], bf := [] })
noncomputable def T37_2 (a0 : (List Int)) (a1 : (List Int)) (a5 : Int) : Option ((((List Int) × ((List Int) × (Int × Unit))) × Unit × Unit) ⊕ ((Int × Unit) × Unit × Unit)) :=
  (bif (decide ((a5 : Int) > 0)) then (bif (decide (0 ≤ ((IntKind.wrap .i64 (a5 - 1)) : Int) ∧ ((IntKind.wrap .i64 (a5 - 1)) : Int) < (((a1).length : Nat) : Int))) then (bif ((((a1).getD ((IntKind.wrap .i64 (a5 - 1)) : Int).toNat (0 : Int)) : Int) == 0) then (some (.inl ((a0, a1, (IntKind.wrap .i64 (a5 - 1)), ()), (), ()))) else (some (.inr ((a5, ()), (), ())))) else none) else (some (.inr ((a5, ()), (), ()))))
noncomputable def L37_2 (a0 : (List Int)) (a1 : (List Int)) (a5 : Int) : Option ((Int × Unit) × Unit × Unit) := loopF (fun x : (((List Int) × ((List Int) × (Int × Unit))) × Unit × Unit) => T37_2 x.1.1 x.1.2.1 x.1.2.2.1) ((a0, a1, a5, ()), (), ())
theorem L37_2_eq (a0 : (List Int)) (a1 : (List Int)) (a5 : Int) : L37_2 a0 a1 a5 = (T37_2 a0 a1 a5).bind (Sum.elim (fun x => L37_2 x.1.1 x.1.2.1 x.1.2.2.1) some) := loopF_eq _ _
noncomputable def k37_2 : Con := ⟨i37_2, o37_2, fun x => L37_2 x.1.1 x.1.2.1 x.1.2.2.1⟩
theorem e37_2 (x : i37_2.E) : vround Try.prog C37_2 LO37_2 Try.f37.ntmps l37_2 i37_2 o37_2 x = T37_2 x.1.1 x.1.2.1 x.1.2.2.1 := by kernel_rfl
theorem k37_2_ok : Con.LOK Try.prog Try.f37.ntmps l37_2 k37_2 := (loop_ok C37_2_ok (loops_of (l := []) (by kernel_rfl) (show LoopsOK Try.prog Try.f37.ntmps [] LO37_2 from trivial)) i37_2 o37_2).congr fun x => (congrArg (fun T => loopF T x) (funext e37_2)).symm
noncomputable def C37_6 : Tab := [(57, c57)]
theorem C37_6_ok : TabOK Try.prog C37_6 := ⟨c57_ok, trivial⟩
noncomputable def LO37_6 : Tab := []
noncomputable def i37_6 : Tm := { sl := [(0, .o 0), (1, .v (.l (.i .u64))), (5, .v (.i .i64)), (6, .v (.i .i64))], bx := [], bf := [(.i .u8)] }
noncomputable def o37_6 : OT := (.exit 2 { sl := [(0, .o 0)], bx := [], bf := [(.i .u8)] })
noncomputable def T37_6 (a1 : (List Int)) (a5 : Int) (a6 : Int) (q0 : (List Int)) : Option (((Unit × ((List Int) × (Int × (Int × Unit)))) × Unit × ((List Int) × Unit)) ⊕ ((Unit × Unit) × Unit × ((List Int) × Unit))) :=
  (bif (decide ((a6 : Int) < a5)) then (bif (decide (0 ≤ (a6 : Int) ∧ (a6 : Int) < (((a1).length : Nat) : Int))) then ((F57 q0 ((a1).getD (a6 : Int).toNat (0 : Int))).bind fun y188 => (some (.inl (((), a1, a5, (IntKind.wrap .i64 (a6 + 1)), ()), (), (y188.2.2.1, ()))))) else none) else (some (.inr (((), ()), (), (q0, ())))))
noncomputable def L37_6 (a1 : (List Int)) (a5 : Int) (a6 : Int) (q0 : (List Int)) : Option ((Unit × Unit) × Unit × ((List Int) × Unit)) := loopF (fun x : ((Unit × ((List Int) × (Int × (Int × Unit)))) × Unit × ((List Int) × Unit)) => T37_6 x.1.2.1 x.1.2.2.1 x.1.2.2.2.1 x.2.2.1) (((), a1, a5, a6, ()), (), (q0, ()))
theorem L37_6_eq (a1 : (List Int)) (a5 : Int) (a6 : Int) (q0 : (List Int)) : L37_6 a1 a5 a6 q0 = (T37_6 a1 a5 a6 q0).bind (Sum.elim (fun x => L37_6 x.1.2.1 x.1.2.2.1 x.1.2.2.2.1 x.2.2.1) some) := loopF_eq _ _
noncomputable def k37_6 : Con := ⟨i37_6, o37_6, fun x => L37_6 x.1.2.1 x.1.2.2.1 x.1.2.2.2.1 x.2.2.1⟩
theorem e37_6 (x : i37_6.E) : vround Try.prog C37_6 LO37_6 Try.f37.ntmps l37_6 i37_6 o37_6 x = T37_6 x.1.2.1 x.1.2.2.1 x.1.2.2.2.1 x.2.2.1 := by kernel_rfl
theorem k37_6_ok : Con.LOK Try.prog Try.f37.ntmps l37_6 k37_6 := (loop_ok C37_6_ok (loops_of (l := []) (by kernel_rfl) (show LoopsOK Try.prog Try.f37.ntmps [] LO37_6 from trivial)) i37_6 o37_6).congr fun x => (congrArg (fun T => loopF T x) (funext e37_6)).symm
noncomputable def C37 : Tab := [(57, c57)]
theorem C37_ok : TabOK Try.prog C37 := ⟨c57_ok, trivial⟩
noncomputable def LO37 : Tab := [(2, k37_2), (6, k37_6)]
noncomputable def i37 : Tm := { sl := [(0, .v (.l (.i .u8))), (1, .v (.l (.i .u64)))], bx := [], bf := [] }
noncomputable def o37 : OT := (.ret { sl := [(0, .o 0)], bx := [], bf := [(.i .u8)] })
/-- anabranch/anabranchref06.LayV -/
noncomputable def F37 (a0 : (List Int)) (a1 : (List Int)) : Option ((Unit × Unit) × Unit × ((List Int) × Unit)) :=
  ((L37_2 a0 a1 (((a1).length : Nat) : Int)).bind fun y185 => ((F57 a0 (IntKind.wrap .u64 y185.1.1)).bind fun y186 => ((L37_6 a1 y185.1.1 0 y186.2.2.1).bind fun y189 => (some (((), ()), (), (y189.2.2.1, ()))))))
noncomputable def c37 : Con := ⟨i37, o37, fun x => F37 x.1.1 x.1.2.1⟩
theorem e37 (x : i37.E) : vfn Try.prog C37 LO37 Try.f37 b37 i37 o37 x = F37 x.1.1 x.1.2.1 := by kernel_rfl
theorem c37_ok : Con.OK Try.prog 37 c37 := (fn_ok C37_ok Try.func37 body37 (loops_of (l := [l37_2, l37_6]) (by kernel_rfl) (show LoopsOK Try.prog Try.f37.ntmps [l37_2, l37_6] LO37 from ⟨k37_2_ok, k37_6_ok, trivial⟩)) i37 o37).congr fun x => (e37 x).symm
noncomputable def l53_3 : Code := (.seq (.region 3 (regOf Try.f53 3) false) (.seq (.cond (.tmp 7) .skip (.exit 0)) (.seq (.block 1 (.region 4 (regOf Try.f53 4) false)) (.region 5 (regOf Try.f53 5) false))))
noncomputable def b53 : Code := (.seq (.region 0 (regOf Try.f53 0) false) (.seq (.region 1 (regOf Try.f53 1) false) (.seq (.seq (.region 2 (regOf Try.f53 2) false) (.block 0 (.loop l53_3))) (.seq (.region 6 (regOf Try.f53 6) false) .ret))))
theorem body53 : Try.f53.body = some b53 := by kernel_rfl
noncomputable def C53_3 : Tab := [(68, c68)]
theorem C53_3_ok : TabOK Try.prog C53_3 := ⟨c68_ok, trivial⟩
noncomputable def LO53_3 : Tab := []
noncomputable def i53_3 : Tm := { sl := [(0, .p 0 0), (3, .o 0), (5, .v (.i .u64)), (6, .v (.i .u64))], bx := [[.v (.l (.i .u8))]], bf := [(.i .u64)] }
noncomputable def o53_3 : OT := (.two (.pnc 88 .i64 { sl := [], bx := [[.v (.l (.i .u8))]], bf := [] }) (.exit 0 { sl := [(3, .o 0)], bx := [[.v (.l (.i .u8))]], bf := [(.i .u64)] }))
noncomputable def T53_3 (a5 : Int) (a6 : Int) (b0_0 : (List Int)) (q0 : (List Int)) : Option (((Unit × (Unit × (Int × (Int × Unit)))) × (((List Int) × Unit) × Unit) × ((List Int) × Unit)) ⊕ ((Int × (Unit × (((List Int) × Unit) × Unit) × Unit)) ⊕ ((Unit × Unit) × (((List Int) × Unit) × Unit) × ((List Int) × Unit)))) :=
  (bif (decide ((a6 : Int) < a5)) then ((F68 9223372036854775807 b0_0).bind fun y194 => (Sum.elim (fun y195 => (bif (decide ((q0).length + ([y195.1.1]).length < lim)) then (some (.inl (((), (), a5, (IntKind.wrap .u64 (a6 + 1)), ()), ((y195.2.1.1.1, ()), ()), ((q0 ++ [y195.1.1]), ())))) else none)) (fun y195 => (some (.inr (.inl (y195.1, ((), ((y195.2.2.1.1.1, ()), ()), ())))))) y194)) else (some (.inr (.inr (((), ()), ((b0_0, ()), ()), (q0, ()))))))
noncomputable def L53_3 (a5 : Int) (a6 : Int) (b0_0 : (List Int)) (q0 : (List Int)) : Option ((Int × (Unit × (((List Int) × Unit) × Unit) × Unit)) ⊕ ((Unit × Unit) × (((List Int) × Unit) × Unit) × ((List Int) × Unit))) := loopF (fun x : ((Unit × (Unit × (Int × (Int × Unit)))) × (((List Int) × Unit) × Unit) × ((List Int) × Unit)) => T53_3 x.1.2.2.1 x.1.2.2.2.1 x.2.1.1.1 x.2.2.1) (((), (), a5, a6, ()), ((b0_0, ()), ()), (q0, ()))
theorem L53_3_eq (a5 : Int) (a6 : Int) (b0_0 : (List Int)) (q0 : (List Int)) : L53_3 a5 a6 b0_0 q0 = (T53_3 a5 a6 b0_0 q0).bind (Sum.elim (fun x => L53_3 x.1.2.2.1 x.1.2.2.2.1 x.2.1.1.1 x.2.2.1) some) := loopF_eq _ _
noncomputable def k53_3 : Con := ⟨i53_3, o53_3, fun x => L53_3 x.1.2.2.1 x.1.2.2.2.1 x.2.1.1.1 x.2.2.1⟩
theorem e53_3 (x : i53_3.E) : vround Try.prog C53_3 LO53_3 Try.f53.ntmps l53_3 i53_3 o53_3 x = T53_3 x.1.2.2.1 x.1.2.2.2.1 x.2.1.1.1 x.2.2.1 := by kernel_rfl
theorem k53_3_ok : Con.LOK Try.prog Try.f53.ntmps l53_3 k53_3 := (loop_ok C53_3_ok (loops_of (l := []) (by kernel_rfl) (show LoopsOK Try.prog Try.f53.ntmps [] LO53_3 from trivial)) i53_3 o53_3).congr fun x => (congrArg (fun T => loopF T x) (funext e53_3)).symm
noncomputable def C53 : Tab := [(68, c68)]
theorem C53_ok : TabOK Try.prog C53 := ⟨c68_ok, trivial⟩
noncomputable def LO53 : Tab := [(3, k53_3)]
noncomputable def i53 : Tm := { sl := [(0, .p 0 0)], bx := [[.v (.l (.i .u8))]], bf := [] }
noncomputable def o53 : OT := (.two (.ret { sl := [(0, .v (.l (.i .u64)))], bx := [[.v (.l (.i .u8))]], bf := [] }) (.pnc 88 .i64 { sl := [], bx := [[.v (.l (.i .u8))]], bf := [] }))
/-- anabranch/vector.Read -/
noncomputable def F53 (b0_0 : (List Int)) : Option ((((List Int) × Unit) × (((List Int) × Unit) × Unit) × Unit) ⊕ (Int × (Unit × (((List Int) × Unit) × Unit) × Unit))) :=
  ((F68 64 b0_0).bind fun y190 => (Sum.elim (fun y191 => ((L53_3 y191.1.1 0 y191.2.1.1.1 ([] : List Int)).bind fun y196 => (Sum.elim (fun y197 => (some (.inr (y197.1, ((), ((y197.2.2.1.1.1, ()), ()), ()))))) (fun y197 => (some (.inl ((y197.2.2.1, ()), ((y197.2.1.1.1, ()), ()), ())))) y196))) (fun y191 => (some (.inr (y191.1, ((), ((y191.2.2.1.1.1, ()), ()), ()))))) y190))
noncomputable def c53 : Con := ⟨i53, o53, fun x => F53 x.2.1.1.1⟩
theorem e53 (x : i53.E) : vfn Try.prog C53 LO53 Try.f53 b53 i53 o53 x = F53 x.2.1.1.1 := by kernel_rfl
theorem c53_ok : Con.OK Try.prog 53 c53 := (fn_ok C53_ok Try.func53 body53 (loops_of (l := [l53_3]) (by kernel_rfl) (show LoopsOK Try.prog Try.f53.ntmps [l53_3] LO53 from ⟨k53_3_ok, trivial⟩)) i53 o53).congr fun x => (e53 x).symm
noncomputable def b36 : Code := (.seq (.region 0 (regOf Try.f36 0) false) (.seq (.region 1 (regOf Try.f36 1) false) (.seq (.region 2 (regOf Try.f36 2) false) (.seq (.region 3 (regOf Try.f36 3) false) (.seq (.region 4 (regOf Try.f36 4) false) (.seq (.seq (.region 5 (regOf Try.f36 5) false) (.cond (.tmp 17) (.seq (.region 6 (regOf Try.f36 6) false) .ret) .skip)) (.seq (.region 7 (regOf Try.f36 7) false) .ret)))))))
theorem body36 : Try.f36.body = some b36 := by kernel_rfl
noncomputable def C36 : Tab := [(52, c52), (53, c53), (54, c54), (55, c55)]
theorem C36_ok : TabOK Try.prog C36 := ⟨c52_ok, c53_ok, c54_ok, c55_ok, trivial⟩
noncomputable def LO36 : Tab := []
noncomputable def i36 : Tm := { sl := [(0, .v (.l (.i .u8)))], bx := [], bf := [] }
noncomputable def o36 : OT := (.ret { sl := [(0, .v (.l (.i .u64))), (1, .v (.i .i64))], bx := [], bf := [] })
/-- anabranch/vector.Of -/
noncomputable def F36 (a0 : (List Int)) : Option (((List Int) × (Int × Unit)) × Unit × Unit) :=
  ((F52 a0).bind fun y198 => ((F53 y198.2.1.1.1).bind fun y199 => (Sum.elim (fun y200 => ((F54 y200.2.1.1.1).bind fun y201 => (Sum.elim (fun y202 => ((F55 y200.1.1).bind fun y203 => (bif (((((y203.1.1).length : Nat) : Int) : Int) != (((y200.1.1).length : Nat) : Int)) then (some (([], 4, ()), (), ())) else (some ((y200.1.1, 0, ()), (), ()))))) (fun y202 => (some (([], y202.1, ()), (), ()))) y201))) (fun y200 => (some (([], y200.1, ()), (), ()))) y199)))
noncomputable def c36 : Con := ⟨i36, o36, fun x => F36 x.1.1⟩
theorem e36 (x : i36.E) : vfn Try.prog C36 LO36 Try.f36 b36 i36 o36 x = F36 x.1.1 := by kernel_rfl
theorem c36_ok : Con.OK Try.prog 36 c36 := (fn_ok C36_ok Try.func36 body36 (loops_of (l := []) (by kernel_rfl) (show LoopsOK Try.prog Try.f36.ntmps [] LO36 from trivial)) i36 o36).congr fun x => (e36 x).symm
noncomputable def b33 : Code := (.seq (.region 0 (regOf Try.f33 0) false) (.seq (.region 1 (regOf Try.f33 1) false) (.seq (.region 2 (regOf Try.f33 2) false) (.seq (.region 3 (regOf Try.f33 3) false) (.seq (.region 4 (regOf Try.f33 4) false) (.seq (.region 5 (regOf Try.f33 5) false) (.seq (.region 6 (regOf Try.f33 6) false) .ret)))))))
theorem body33 : Try.f33.body = some b33 := by kernel_rfl
noncomputable def C33 : Tab := [(52, c52), (53, c53), (54, c54)]
theorem C33_ok : TabOK Try.prog C33 := ⟨c52_ok, c53_ok, c54_ok, trivial⟩
noncomputable def LO33 : Tab := []
noncomputable def i33 : Tm := { sl := [(0, .v (.l (.i .u8))), (1, .p 0 0), (2, .p 1 0)], bx := [[.v (.l (.i .u64))], [.v (.l (.i .u64))]], bf := [] }
noncomputable def o33 : OT := (.ret { sl := [(0, .v (.i .i64))], bx := [[.v (.l (.i .u64))], [.v (.l (.i .u64))]], bf := [] })
/-- anabranch/anabranchlaw07.two -/
noncomputable def F33 (a0 : (List Int)) (b0_0 : (List Int)) (b1_0 : (List Int)) : Option ((Int × Unit) × (((List Int) × Unit) × (((List Int) × Unit) × Unit)) × Unit) :=
  ((F52 a0).bind fun y204 => ((F53 y204.2.1.1.1).bind fun y205 => (Sum.elim (fun y206 => ((F53 y206.2.1.1.1).bind fun y207 => (Sum.elim (fun y208 => ((F54 y208.2.1.1.1).bind fun y209 => (Sum.elim (fun y210 => (some ((0, ()), ((y206.1.1, ()), (y208.1.1, ()), ()), ()))) (fun y210 => (some ((y210.1, ()), ((y206.1.1, ()), (y208.1.1, ()), ()), ()))) y209))) (fun y208 => (some ((y208.1, ()), ((y206.1.1, ()), (b1_0, ()), ()), ()))) y207))) (fun y206 => (some ((y206.1, ()), ((b0_0, ()), (b1_0, ()), ()), ()))) y205)))
noncomputable def c33 : Con := ⟨i33, o33, fun x => F33 x.1.1 x.2.1.1.1 x.2.1.2.1.1⟩
theorem e33 (x : i33.E) : vfn Try.prog C33 LO33 Try.f33 b33 i33 o33 x = F33 x.1.1 x.2.1.1.1 x.2.1.2.1.1 := by kernel_rfl
theorem c33_ok : Con.OK Try.prog 33 c33 := (fn_ok C33_ok Try.func33 body33 (loops_of (l := []) (by kernel_rfl) (show LoopsOK Try.prog Try.f33.ntmps [] LO33 from trivial)) i33 o33).congr fun x => (e33 x).symm
noncomputable def b61 : Code := (.seq (.region 0 (regOf Try.f61 0) false) (.seq (.region 1 (regOf Try.f61 1) false) (.seq (.region 2 (regOf Try.f61 2) false) (.seq (.region 3 (regOf Try.f61 3) false) (.seq (.seq (.region 4 (regOf Try.f61 4) false) (.cond (.tmp 26) (.region 5 (regOf Try.f61 5) false) .skip)) (.seq (.seq (.region 6 (regOf Try.f61 6) false) (.block 0 (.seq (.region 7 (regOf Try.f61 7) false) (.cond (.tmp 33) (.region 8 (regOf Try.f61 8) false) (.seq (.seq (.region 9 (regOf Try.f61 9) false) (.cond (.tmp 38) .skip (.region 10 (regOf Try.f61 10) false))) (.cond (.tmp 38) (.seq (.region 11 (regOf Try.f61 11) false) (.seq (.seq (.region 12 (regOf Try.f61 12) false) (.cond (.tmp 48) (.seq (.region 13 (regOf Try.f61 13) false) .ret) .skip)) (.region 14 (regOf Try.f61 14) false))) (.seq (.region 15 (regOf Try.f61 15) false) (.cond (.tmp 52) (.region 16 (regOf Try.f61 16) false) .skip)))))))) (.seq (.region 17 (regOf Try.f61 17) false) (.seq (.region 18 (regOf Try.f61 18) false) .ret))))))))
theorem body61 : Try.f61.body = some b61 := by kernel_rfl
noncomputable def C61 : Tab := [(52, c52), (54, c54), (68, c68), (73, c73), (74, c74), (75, c75), (76, c76)]
theorem C61_ok : TabOK Try.prog C61 := ⟨c52_ok, c54_ok, c68_ok, c73_ok, c74_ok, c75_ok, c76_ok, trivial⟩
noncomputable def LO61 : Tab := []
noncomputable def i61 : Tm := { sl := [(0, .v (.l (.i .u8)))], bx := [], bf := [] }
noncomputable def o61 : OT := (.ret { sl := [(0, .v (.p (.i .i64) (.p (.i .u64) (.p (.i .u64) (.p (.i .u8) (.p .s (.p (.l (.i .u8)) (.p (.f .f64) (.p (.i .i64) .u))))))))), (1, .v (.i .i64))], bx := [], bf := [] })
/-- anabranch/event.read -/
noncomputable def F61 (a0 : (List Int)) : Option (((Int × (Int × (Int × (Int × (ByteArray × ((List Int) × (Nat × (Int × Unit)))))))) × (Int × Unit)) × Unit × Unit) :=
  ((F52 a0).bind fun y211 => ((F68 63 y211.2.1.1.1).bind fun y212 => (Sum.elim (fun y213 => ((F68 18446744073709551615 y213.2.1.1.1).bind fun y214 => (Sum.elim (fun y215 => ((F68 18446744073709551615 y215.2.1.1.1).bind fun y216 => (Sum.elim (fun y217 => ((F73 y217.2.1.1.1).bind fun y218 => (Sum.elim (fun y219 => (bif (decide ((y219.1.1 : Int) ≥ 1)) then (bif (decide ((y219.1.1 : Int) ≤ 4)) then ((F74 64 y219.2.1.1.1).bind fun y220 => (Sum.elim (fun y221 => (bif ((y219.1.1 : Int) == 1) then ((F74 1048576 y221.2.1.1.1).bind fun y222 => (Sum.elim (fun y223 => ((F54 y223.2.1.1.1).bind fun y224 => (Sum.elim (fun y225 => (some ((((IntKind.wrap .i64 y213.1.1), (y215.1.1, (y217.1.1, (y219.1.1, ((strL y221.1.1), (y223.1.1, (0, (0, ())))))))), 0, ()), (), ()))) (fun y225 => (some ((((IntKind.wrap .i64 y213.1.1), (y215.1.1, (y217.1.1, (y219.1.1, ((strL y221.1.1), (y223.1.1, (0, (0, ())))))))), y225.1, ()), (), ()))) y224))) (fun y223 => (some ((((IntKind.wrap .i64 y213.1.1), (y215.1.1, (y217.1.1, (y219.1.1, ((strL y221.1.1), ([], (0, (0, ())))))))), y223.1, ()), (), ()))) y222)) else (bif ((y219.1.1 : Int) == 2) then ((F76 y221.2.1.1.1).bind fun y226 => (Sum.elim (fun y227 => ((F75 y227.1.1).bind fun y228 => (bif (!y228.1.2.1) then (some (((0, (0, (0, (0, (ByteArray.empty, ([], (0, (0, ())))))))), 4, ()), (), ())) else ((F54 y227.2.1.1.1).bind fun y229 => (Sum.elim (fun y230 => (some ((((IntKind.wrap .i64 y213.1.1), (y215.1.1, (y217.1.1, (y219.1.1, ((strL y221.1.1), ([], (y228.1.1, (0, ())))))))), 0, ()), (), ()))) (fun y230 => (some ((((IntKind.wrap .i64 y213.1.1), (y215.1.1, (y217.1.1, (y219.1.1, ((strL y221.1.1), ([], (y228.1.1, (0, ())))))))), y230.1, ()), (), ()))) y229))))) (fun y227 => (some ((((IntKind.wrap .i64 y213.1.1), (y215.1.1, (y217.1.1, (y219.1.1, ((strL y221.1.1), ([], (0, (0, ())))))))), y227.1, ()), (), ()))) y226)) else (bif ((y219.1.1 : Int) == 3) then ((F76 y221.2.1.1.1).bind fun y231 => (Sum.elim (fun y232 => ((F75 y232.1.1).bind fun y233 => (bif (!y233.1.2.1) then (some (((0, (0, (0, (0, (ByteArray.empty, ([], (0, (0, ())))))))), 4, ()), (), ())) else ((F54 y232.2.1.1.1).bind fun y234 => (Sum.elim (fun y235 => (some ((((IntKind.wrap .i64 y213.1.1), (y215.1.1, (y217.1.1, (y219.1.1, ((strL y221.1.1), ([], (y233.1.1, (0, ())))))))), 0, ()), (), ()))) (fun y235 => (some ((((IntKind.wrap .i64 y213.1.1), (y215.1.1, (y217.1.1, (y219.1.1, ((strL y221.1.1), ([], (y233.1.1, (0, ())))))))), y235.1, ()), (), ()))) y234))))) (fun y232 => (some ((((IntKind.wrap .i64 y213.1.1), (y215.1.1, (y217.1.1, (y219.1.1, ((strL y221.1.1), ([], (0, (0, ())))))))), y232.1, ()), (), ()))) y231)) else (bif ((y219.1.1 : Int) == 5) then ((F68 63 y221.2.1.1.1).bind fun y236 => (Sum.elim (fun y237 => ((F54 y237.2.1.1.1).bind fun y238 => (Sum.elim (fun y239 => (some ((((IntKind.wrap .i64 y213.1.1), (y215.1.1, (y217.1.1, (y219.1.1, ((strL y221.1.1), ([], (0, ((IntKind.wrap .i64 y237.1.1), ())))))))), 0, ()), (), ()))) (fun y239 => (some ((((IntKind.wrap .i64 y213.1.1), (y215.1.1, (y217.1.1, (y219.1.1, ((strL y221.1.1), ([], (0, ((IntKind.wrap .i64 y237.1.1), ())))))))), y239.1, ()), (), ()))) y238))) (fun y237 => (some ((((IntKind.wrap .i64 y213.1.1), (y215.1.1, (y217.1.1, (y219.1.1, ((strL y221.1.1), ([], (0, (0, ())))))))), y237.1, ()), (), ()))) y236)) else ((F54 y221.2.1.1.1).bind fun y240 => (Sum.elim (fun y241 => (some ((((IntKind.wrap .i64 y213.1.1), (y215.1.1, (y217.1.1, (y219.1.1, ((strL y221.1.1), ([], (0, (0, ())))))))), 0, ()), (), ()))) (fun y241 => (some ((((IntKind.wrap .i64 y213.1.1), (y215.1.1, (y217.1.1, (y219.1.1, ((strL y221.1.1), ([], (0, (0, ())))))))), y241.1, ()), (), ()))) y240))))))) (fun y221 => (some ((((IntKind.wrap .i64 y213.1.1), (y215.1.1, (y217.1.1, (y219.1.1, (ByteArray.empty, ([], (0, (0, ())))))))), y221.1, ()), (), ()))) y220)) else (bif ((y219.1.1 : Int) == 1) then ((F74 1048576 y219.2.1.1.1).bind fun y242 => (Sum.elim (fun y243 => ((F54 y243.2.1.1.1).bind fun y244 => (Sum.elim (fun y245 => (some ((((IntKind.wrap .i64 y213.1.1), (y215.1.1, (y217.1.1, (y219.1.1, (ByteArray.empty, (y243.1.1, (0, (0, ())))))))), 0, ()), (), ()))) (fun y245 => (some ((((IntKind.wrap .i64 y213.1.1), (y215.1.1, (y217.1.1, (y219.1.1, (ByteArray.empty, (y243.1.1, (0, (0, ())))))))), y245.1, ()), (), ()))) y244))) (fun y243 => (some ((((IntKind.wrap .i64 y213.1.1), (y215.1.1, (y217.1.1, (y219.1.1, (ByteArray.empty, ([], (0, (0, ())))))))), y243.1, ()), (), ()))) y242)) else (bif ((y219.1.1 : Int) == 2) then ((F76 y219.2.1.1.1).bind fun y246 => (Sum.elim (fun y247 => ((F75 y247.1.1).bind fun y248 => (bif (!y248.1.2.1) then (some (((0, (0, (0, (0, (ByteArray.empty, ([], (0, (0, ())))))))), 4, ()), (), ())) else ((F54 y247.2.1.1.1).bind fun y249 => (Sum.elim (fun y250 => (some ((((IntKind.wrap .i64 y213.1.1), (y215.1.1, (y217.1.1, (y219.1.1, (ByteArray.empty, ([], (y248.1.1, (0, ())))))))), 0, ()), (), ()))) (fun y250 => (some ((((IntKind.wrap .i64 y213.1.1), (y215.1.1, (y217.1.1, (y219.1.1, (ByteArray.empty, ([], (y248.1.1, (0, ())))))))), y250.1, ()), (), ()))) y249))))) (fun y247 => (some ((((IntKind.wrap .i64 y213.1.1), (y215.1.1, (y217.1.1, (y219.1.1, (ByteArray.empty, ([], (0, (0, ())))))))), y247.1, ()), (), ()))) y246)) else (bif ((y219.1.1 : Int) == 3) then ((F76 y219.2.1.1.1).bind fun y251 => (Sum.elim (fun y252 => ((F75 y252.1.1).bind fun y253 => (bif (!y253.1.2.1) then (some (((0, (0, (0, (0, (ByteArray.empty, ([], (0, (0, ())))))))), 4, ()), (), ())) else ((F54 y252.2.1.1.1).bind fun y254 => (Sum.elim (fun y255 => (some ((((IntKind.wrap .i64 y213.1.1), (y215.1.1, (y217.1.1, (y219.1.1, (ByteArray.empty, ([], (y253.1.1, (0, ())))))))), 0, ()), (), ()))) (fun y255 => (some ((((IntKind.wrap .i64 y213.1.1), (y215.1.1, (y217.1.1, (y219.1.1, (ByteArray.empty, ([], (y253.1.1, (0, ())))))))), y255.1, ()), (), ()))) y254))))) (fun y252 => (some ((((IntKind.wrap .i64 y213.1.1), (y215.1.1, (y217.1.1, (y219.1.1, (ByteArray.empty, ([], (0, (0, ())))))))), y252.1, ()), (), ()))) y251)) else (bif ((y219.1.1 : Int) == 5) then ((F68 63 y219.2.1.1.1).bind fun y256 => (Sum.elim (fun y257 => ((F54 y257.2.1.1.1).bind fun y258 => (Sum.elim (fun y259 => (some ((((IntKind.wrap .i64 y213.1.1), (y215.1.1, (y217.1.1, (y219.1.1, (ByteArray.empty, ([], (0, ((IntKind.wrap .i64 y257.1.1), ())))))))), 0, ()), (), ()))) (fun y259 => (some ((((IntKind.wrap .i64 y213.1.1), (y215.1.1, (y217.1.1, (y219.1.1, (ByteArray.empty, ([], (0, ((IntKind.wrap .i64 y257.1.1), ())))))))), y259.1, ()), (), ()))) y258))) (fun y257 => (some ((((IntKind.wrap .i64 y213.1.1), (y215.1.1, (y217.1.1, (y219.1.1, (ByteArray.empty, ([], (0, (0, ())))))))), y257.1, ()), (), ()))) y256)) else ((F54 y219.2.1.1.1).bind fun y260 => (Sum.elim (fun y261 => (some ((((IntKind.wrap .i64 y213.1.1), (y215.1.1, (y217.1.1, (y219.1.1, (ByteArray.empty, ([], (0, (0, ())))))))), 0, ()), (), ()))) (fun y261 => (some ((((IntKind.wrap .i64 y213.1.1), (y215.1.1, (y217.1.1, (y219.1.1, (ByteArray.empty, ([], (0, (0, ())))))))), y261.1, ()), (), ()))) y260))))))) else (bif ((y219.1.1 : Int) == 1) then ((F74 1048576 y219.2.1.1.1).bind fun y262 => (Sum.elim (fun y263 => ((F54 y263.2.1.1.1).bind fun y264 => (Sum.elim (fun y265 => (some ((((IntKind.wrap .i64 y213.1.1), (y215.1.1, (y217.1.1, (y219.1.1, (ByteArray.empty, (y263.1.1, (0, (0, ())))))))), 0, ()), (), ()))) (fun y265 => (some ((((IntKind.wrap .i64 y213.1.1), (y215.1.1, (y217.1.1, (y219.1.1, (ByteArray.empty, (y263.1.1, (0, (0, ())))))))), y265.1, ()), (), ()))) y264))) (fun y263 => (some ((((IntKind.wrap .i64 y213.1.1), (y215.1.1, (y217.1.1, (y219.1.1, (ByteArray.empty, ([], (0, (0, ())))))))), y263.1, ()), (), ()))) y262)) else (bif ((y219.1.1 : Int) == 2) then ((F76 y219.2.1.1.1).bind fun y266 => (Sum.elim (fun y267 => ((F75 y267.1.1).bind fun y268 => (bif (!y268.1.2.1) then (some (((0, (0, (0, (0, (ByteArray.empty, ([], (0, (0, ())))))))), 4, ()), (), ())) else ((F54 y267.2.1.1.1).bind fun y269 => (Sum.elim (fun y270 => (some ((((IntKind.wrap .i64 y213.1.1), (y215.1.1, (y217.1.1, (y219.1.1, (ByteArray.empty, ([], (y268.1.1, (0, ())))))))), 0, ()), (), ()))) (fun y270 => (some ((((IntKind.wrap .i64 y213.1.1), (y215.1.1, (y217.1.1, (y219.1.1, (ByteArray.empty, ([], (y268.1.1, (0, ())))))))), y270.1, ()), (), ()))) y269))))) (fun y267 => (some ((((IntKind.wrap .i64 y213.1.1), (y215.1.1, (y217.1.1, (y219.1.1, (ByteArray.empty, ([], (0, (0, ())))))))), y267.1, ()), (), ()))) y266)) else (bif ((y219.1.1 : Int) == 3) then ((F76 y219.2.1.1.1).bind fun y271 => (Sum.elim (fun y272 => ((F75 y272.1.1).bind fun y273 => (bif (!y273.1.2.1) then (some (((0, (0, (0, (0, (ByteArray.empty, ([], (0, (0, ())))))))), 4, ()), (), ())) else ((F54 y272.2.1.1.1).bind fun y274 => (Sum.elim (fun y275 => (some ((((IntKind.wrap .i64 y213.1.1), (y215.1.1, (y217.1.1, (y219.1.1, (ByteArray.empty, ([], (y273.1.1, (0, ())))))))), 0, ()), (), ()))) (fun y275 => (some ((((IntKind.wrap .i64 y213.1.1), (y215.1.1, (y217.1.1, (y219.1.1, (ByteArray.empty, ([], (y273.1.1, (0, ())))))))), y275.1, ()), (), ()))) y274))))) (fun y272 => (some ((((IntKind.wrap .i64 y213.1.1), (y215.1.1, (y217.1.1, (y219.1.1, (ByteArray.empty, ([], (0, (0, ())))))))), y272.1, ()), (), ()))) y271)) else (bif ((y219.1.1 : Int) == 5) then ((F68 63 y219.2.1.1.1).bind fun y276 => (Sum.elim (fun y277 => ((F54 y277.2.1.1.1).bind fun y278 => (Sum.elim (fun y279 => (some ((((IntKind.wrap .i64 y213.1.1), (y215.1.1, (y217.1.1, (y219.1.1, (ByteArray.empty, ([], (0, ((IntKind.wrap .i64 y277.1.1), ())))))))), 0, ()), (), ()))) (fun y279 => (some ((((IntKind.wrap .i64 y213.1.1), (y215.1.1, (y217.1.1, (y219.1.1, (ByteArray.empty, ([], (0, ((IntKind.wrap .i64 y277.1.1), ())))))))), y279.1, ()), (), ()))) y278))) (fun y277 => (some ((((IntKind.wrap .i64 y213.1.1), (y215.1.1, (y217.1.1, (y219.1.1, (ByteArray.empty, ([], (0, (0, ())))))))), y277.1, ()), (), ()))) y276)) else ((F54 y219.2.1.1.1).bind fun y280 => (Sum.elim (fun y281 => (some ((((IntKind.wrap .i64 y213.1.1), (y215.1.1, (y217.1.1, (y219.1.1, (ByteArray.empty, ([], (0, (0, ())))))))), 0, ()), (), ()))) (fun y281 => (some ((((IntKind.wrap .i64 y213.1.1), (y215.1.1, (y217.1.1, (y219.1.1, (ByteArray.empty, ([], (0, (0, ())))))))), y281.1, ()), (), ()))) y280)))))))) (fun y219 => (some (((0, (0, (0, (0, (ByteArray.empty, ([], (0, (0, ())))))))), y219.1, ()), (), ()))) y218))) (fun y217 => (some (((0, (0, (0, (0, (ByteArray.empty, ([], (0, (0, ())))))))), y217.1, ()), (), ()))) y216))) (fun y215 => (some (((0, (0, (0, (0, (ByteArray.empty, ([], (0, (0, ())))))))), y215.1, ()), (), ()))) y214))) (fun y213 => (some (((0, (0, (0, (0, (ByteArray.empty, ([], (0, (0, ())))))))), y213.1, ()), (), ()))) y212)))
noncomputable def c61 : Con := ⟨i61, o61, fun x => F61 x.1.1⟩
theorem e61 (x : i61.E) : vfn Try.prog C61 LO61 Try.f61 b61 i61 o61 x = F61 x.1.1 := by kernel_rfl
theorem c61_ok : Con.OK Try.prog 61 c61 := (fn_ok C61_ok Try.func61 body61 (loops_of (l := []) (by kernel_rfl) (show LoopsOK Try.prog Try.f61.ntmps [] LO61 from trivial)) i61 o61).congr fun x => (e61 x).symm
noncomputable def b39 : Code := (.seq (.region 0 (regOf Try.f39 0) false) (.seq (.region 1 (regOf Try.f39 1) false) (.seq (.seq (.region 2 (regOf Try.f39 2) false) (.cond (.tmp 12) (.region 3 (regOf Try.f39 3) false) .skip)) (.seq (.seq (.region 4 (regOf Try.f39 4) false) (.cond (.tmp 16) (.seq (.region 5 (regOf Try.f39 5) false) .ret) .skip)) (.seq (.region 6 (regOf Try.f39 6) false) .ret)))))
theorem body39 : Try.f39.body = some b39 := by kernel_rfl
noncomputable def C39 : Tab := [(25, c25), (61, c61)]
theorem C39_ok : TabOK Try.prog C39 := ⟨c25_ok, c61_ok, trivial⟩
noncomputable def LO39 : Tab := []
noncomputable def i39 : Tm := { sl := [(0, .v (.l (.i .u8)))], bx := [], bf := [] }
noncomputable def o39 : OT := (.ret { sl := [(0, .v (.p (.i .i64) (.p (.i .u64) (.p (.i .u64) (.p (.i .u8) (.p .s (.p (.l (.i .u8)) (.p (.f .f64) (.p (.i .i64) .u))))))))), (1, .v (.i .i64))], bx := [], bf := [] })
/-- anabranch/event.Decode -/
noncomputable def F39 (a0 : (List Int)) : Option (((Int × (Int × (Int × (Int × (ByteArray × ((List Int) × (Nat × (Int × Unit)))))))) × (Int × Unit)) × Unit × Unit) :=
  ((F61 a0).bind fun y282 => (bif ((y282.1.2.1 : Int) == 0) then ((F25 (y282.1.1.1, (y282.1.1.2.1, (y282.1.1.2.2.1, (y282.1.1.2.2.2.1, (y282.1.1.2.2.2.2.1, (y282.1.1.2.2.2.2.2.1, (y282.1.1.2.2.2.2.2.2.1, (y282.1.1.2.2.2.2.2.2.2.1, ()))))))))).bind fun y283 => (bif ((y283.1.1 : Int) != 0) then (some (((0, (0, (0, (0, (ByteArray.empty, ([], (0, (0, ())))))))), y283.1.1, ()), (), ())) else (some (((y282.1.1.1, (y282.1.1.2.1, (y282.1.1.2.2.1, (y282.1.1.2.2.2.1, (y282.1.1.2.2.2.2.1, (y282.1.1.2.2.2.2.2.1, (y282.1.1.2.2.2.2.2.2.1, (y282.1.1.2.2.2.2.2.2.2.1, ())))))))), 0, ()), (), ())))) else (bif ((y282.1.2.1 : Int) != 0) then (some (((0, (0, (0, (0, (ByteArray.empty, ([], (0, (0, ())))))))), y282.1.2.1, ()), (), ())) else (some (((y282.1.1.1, (y282.1.1.2.1, (y282.1.1.2.2.1, (y282.1.1.2.2.2.1, (y282.1.1.2.2.2.2.1, (y282.1.1.2.2.2.2.2.1, (y282.1.1.2.2.2.2.2.2.1, (y282.1.1.2.2.2.2.2.2.2.1, ())))))))), 0, ()), (), ())))))
noncomputable def c39 : Con := ⟨i39, o39, fun x => F39 x.1.1⟩
theorem e39 (x : i39.E) : vfn Try.prog C39 LO39 Try.f39 b39 i39 o39 x = F39 x.1.1 := by kernel_rfl
theorem c39_ok : Con.OK Try.prog 39 c39 := (fn_ok C39_ok Try.func39 body39 (loops_of (l := []) (by kernel_rfl) (show LoopsOK Try.prog Try.f39.ntmps [] LO39 from trivial)) i39 o39).congr fun x => (e39 x).symm
noncomputable def b10 : Code := (.seq (.region 0 (regOf Try.f10 0) false) (.seq (.seq (.region 1 (regOf Try.f10 1) false) (.cond (.tmp 21) (.seq (.region 2 (regOf Try.f10 2) false) .ret) .skip)) (.seq (.seq (.region 3 (regOf Try.f10 3) false) (.cond (.tmp 25) (.seq (.region 4 (regOf Try.f10 4) false) .ret) .skip)) (.seq (.region 5 (regOf Try.f10 5) false) (.seq (.region 6 (regOf Try.f10 6) false) (.seq (.region 7 (regOf Try.f10 7) false) (.seq (.seq (.region 8 (regOf Try.f10 8) true) (.cond (.tmp 68) (.seq (.region 9 (regOf Try.f10 9) false) .ret) .skip)) (.seq (.region 10 (regOf Try.f10 10) true) .ret))))))))
theorem body10 : Try.f10.body = some b10 := by kernel_rfl
noncomputable def C10 : Tab := [(13, c13), (21, c21), (32, c32), (34, c34), (35, c35), (36, c36), (37, c37)]
theorem C10_ok : TabOK Try.prog C10 := ⟨c13_ok, c21_ok, c32_ok, c34_ok, c35_ok, c36_ok, c37_ok, trivial⟩
noncomputable def LO10 : Tab := []
noncomputable def i10 : Tm := { sl := [(0, .v (.l (.i .u64))), (1, .v (.l (.i .u8)))], bx := [], bf := [] }
noncomputable def o10 : OT := (.ret { sl := [(0, .v .b)], bx := [], bf := [] })
/-- anabranch/anabranchlaw07.VectorBytes -/
noncomputable def F10 (a0 : (List Int)) (a1 : (List Int)) : Option ((Bool × Unit) × Unit × Unit) :=
  ((F13).bind fun y284 => (bif (!y284.1.1) then ((F13).bind fun y285 => (some ((y285.1.1, ()), (), ()))) else (bif (decide (((((a0).length : Nat) : Int) : Int) > 64)) then ((F13).bind fun y286 => (some ((y286.1.1, ()), (), ()))) else (bif (decide (((((a1).length : Nat) : Int) : Int) > 300)) then ((F13).bind fun y287 => (some ((y287.1.1, ()), (), ()))) else ((F32 a0).bind fun y288 => (bif (!y288.1.1) then (some ((true, ()), (), ())) else ((F35 a0).bind fun y289 => ((F36 y289.2.2.1).bind fun y290 => ((F36 a1).bind fun y291 => (bif ((y291.1.2.1 : Int) == 0) then ((F35 y291.1.1).bind fun y292 => (bif (!(((strL y292.2.2.1) : ByteArray).toList == ((strL a1) : ByteArray).toList)) then (some ((false, ()), (), ())) else (bif ((y291.1.2.1 : Int) != 0) then (bif (((((y291.1.1).length : Nat) : Int) : Int) != 0) then (some ((false, ()), (), ())) else (bif ((y291.1.2.1 : Int) != 4) then (bif ((y291.1.2.1 : Int) != 5) then (bif ((y291.1.2.1 : Int) != 6) then (some ((false, ()), (), ())) else ((F37 [] a0).bind fun y293 => (bif (((strL y289.2.2.1) : ByteArray).toList == ((strL y293.2.2.1) : ByteArray).toList) then (bif ((y290.1.2.1 : Int) == 0) then ((F21 y290.1.1 a0).bind fun y294 => (bif y294.1.1 then (bif (decide (0 < ([97, 98]).length)) then ((F34 a0 [97, 98]).bind fun y295 => (bif (decide (((⟨#[97, 98]⟩ : ByteArray)).size + ((strL y289.2.2.1)).size ≤ 9223372036854775807)) then (some (((((strL y295.2.2.1) : ByteArray).toList == (((⟨#[97, 98]⟩ : ByteArray) ++ (strL y289.2.2.1)) : ByteArray).toList), ()), (), ())) else none)) else none) else (some ((false, ()), (), ())))) else (some ((false, ()), (), ()))) else (some ((false, ()), (), ()))))) else ((F37 [] a0).bind fun y296 => (bif (((strL y289.2.2.1) : ByteArray).toList == ((strL y296.2.2.1) : ByteArray).toList) then (bif ((y290.1.2.1 : Int) == 0) then ((F21 y290.1.1 a0).bind fun y297 => (bif y297.1.1 then (bif (decide (0 < ([97, 98]).length)) then ((F34 a0 [97, 98]).bind fun y298 => (bif (decide (((⟨#[97, 98]⟩ : ByteArray)).size + ((strL y289.2.2.1)).size ≤ 9223372036854775807)) then (some (((((strL y298.2.2.1) : ByteArray).toList == (((⟨#[97, 98]⟩ : ByteArray) ++ (strL y289.2.2.1)) : ByteArray).toList), ()), (), ())) else none)) else none) else (some ((false, ()), (), ())))) else (some ((false, ()), (), ()))) else (some ((false, ()), (), ()))))) else ((F37 [] a0).bind fun y299 => (bif (((strL y289.2.2.1) : ByteArray).toList == ((strL y299.2.2.1) : ByteArray).toList) then (bif ((y290.1.2.1 : Int) == 0) then ((F21 y290.1.1 a0).bind fun y300 => (bif y300.1.1 then (bif (decide (0 < ([97, 98]).length)) then ((F34 a0 [97, 98]).bind fun y301 => (bif (decide (((⟨#[97, 98]⟩ : ByteArray)).size + ((strL y289.2.2.1)).size ≤ 9223372036854775807)) then (some (((((strL y301.2.2.1) : ByteArray).toList == (((⟨#[97, 98]⟩ : ByteArray) ++ (strL y289.2.2.1)) : ByteArray).toList), ()), (), ())) else none)) else none) else (some ((false, ()), (), ())))) else (some ((false, ()), (), ()))) else (some ((false, ()), (), ())))))) else ((F37 [] a0).bind fun y302 => (bif (((strL y289.2.2.1) : ByteArray).toList == ((strL y302.2.2.1) : ByteArray).toList) then (bif ((y290.1.2.1 : Int) == 0) then ((F21 y290.1.1 a0).bind fun y303 => (bif y303.1.1 then (bif (decide (0 < ([97, 98]).length)) then ((F34 a0 [97, 98]).bind fun y304 => (bif (decide (((⟨#[97, 98]⟩ : ByteArray)).size + ((strL y289.2.2.1)).size ≤ 9223372036854775807)) then (some (((((strL y304.2.2.1) : ByteArray).toList == (((⟨#[97, 98]⟩ : ByteArray) ++ (strL y289.2.2.1)) : ByteArray).toList), ()), (), ())) else none)) else none) else (some ((false, ()), (), ())))) else (some ((false, ()), (), ()))) else (some ((false, ()), (), ()))))))) else (bif ((y291.1.2.1 : Int) != 0) then (bif (((((y291.1.1).length : Nat) : Int) : Int) != 0) then (some ((false, ()), (), ())) else (bif ((y291.1.2.1 : Int) != 4) then (bif ((y291.1.2.1 : Int) != 5) then (bif ((y291.1.2.1 : Int) != 6) then (some ((false, ()), (), ())) else ((F37 [] a0).bind fun y305 => (bif (((strL y289.2.2.1) : ByteArray).toList == ((strL y305.2.2.1) : ByteArray).toList) then (bif ((y290.1.2.1 : Int) == 0) then ((F21 y290.1.1 a0).bind fun y306 => (bif y306.1.1 then (bif (decide (0 < ([97, 98]).length)) then ((F34 a0 [97, 98]).bind fun y307 => (bif (decide (((⟨#[97, 98]⟩ : ByteArray)).size + ((strL y289.2.2.1)).size ≤ 9223372036854775807)) then (some (((((strL y307.2.2.1) : ByteArray).toList == (((⟨#[97, 98]⟩ : ByteArray) ++ (strL y289.2.2.1)) : ByteArray).toList), ()), (), ())) else none)) else none) else (some ((false, ()), (), ())))) else (some ((false, ()), (), ()))) else (some ((false, ()), (), ()))))) else ((F37 [] a0).bind fun y308 => (bif (((strL y289.2.2.1) : ByteArray).toList == ((strL y308.2.2.1) : ByteArray).toList) then (bif ((y290.1.2.1 : Int) == 0) then ((F21 y290.1.1 a0).bind fun y309 => (bif y309.1.1 then (bif (decide (0 < ([97, 98]).length)) then ((F34 a0 [97, 98]).bind fun y310 => (bif (decide (((⟨#[97, 98]⟩ : ByteArray)).size + ((strL y289.2.2.1)).size ≤ 9223372036854775807)) then (some (((((strL y310.2.2.1) : ByteArray).toList == (((⟨#[97, 98]⟩ : ByteArray) ++ (strL y289.2.2.1)) : ByteArray).toList), ()), (), ())) else none)) else none) else (some ((false, ()), (), ())))) else (some ((false, ()), (), ()))) else (some ((false, ()), (), ()))))) else ((F37 [] a0).bind fun y311 => (bif (((strL y289.2.2.1) : ByteArray).toList == ((strL y311.2.2.1) : ByteArray).toList) then (bif ((y290.1.2.1 : Int) == 0) then ((F21 y290.1.1 a0).bind fun y312 => (bif y312.1.1 then (bif (decide (0 < ([97, 98]).length)) then ((F34 a0 [97, 98]).bind fun y313 => (bif (decide (((⟨#[97, 98]⟩ : ByteArray)).size + ((strL y289.2.2.1)).size ≤ 9223372036854775807)) then (some (((((strL y313.2.2.1) : ByteArray).toList == (((⟨#[97, 98]⟩ : ByteArray) ++ (strL y289.2.2.1)) : ByteArray).toList), ()), (), ())) else none)) else none) else (some ((false, ()), (), ())))) else (some ((false, ()), (), ()))) else (some ((false, ()), (), ())))))) else ((F37 [] a0).bind fun y314 => (bif (((strL y289.2.2.1) : ByteArray).toList == ((strL y314.2.2.1) : ByteArray).toList) then (bif ((y290.1.2.1 : Int) == 0) then ((F21 y290.1.1 a0).bind fun y315 => (bif y315.1.1 then (bif (decide (0 < ([97, 98]).length)) then ((F34 a0 [97, 98]).bind fun y316 => (bif (decide (((⟨#[97, 98]⟩ : ByteArray)).size + ((strL y289.2.2.1)).size ≤ 9223372036854775807)) then (some (((((strL y316.2.2.1) : ByteArray).toList == (((⟨#[97, 98]⟩ : ByteArray) ++ (strL y289.2.2.1)) : ByteArray).toList), ()), (), ())) else none)) else none) else (some ((false, ()), (), ())))) else (some ((false, ()), (), ()))) else (some ((false, ()), (), ())))))))))))))))
noncomputable def c10 : Con := ⟨i10, o10, fun x => F10 x.1.1 x.1.2.1⟩
theorem e10 (x : i10.E) : vfn Try.prog C10 LO10 Try.f10 b10 i10 o10 x = F10 x.1.1 x.1.2.1 := by kernel_rfl
theorem c10_ok : Con.OK Try.prog 10 c10 := (fn_ok C10_ok Try.func10 body10 (loops_of (l := []) (by kernel_rfl) (show LoopsOK Try.prog Try.f10.ntmps [] LO10 from trivial)) i10 o10).congr fun x => (e10 x).symm
noncomputable def b9 : Code := (.seq (.region 0 (regOf Try.f9 0) false) (.seq (.seq (.region 1 (regOf Try.f9 1) false) (.cond (.tmp 19) (.seq (.region 2 (regOf Try.f9 2) false) .ret) .skip)) (.seq (.region 3 (regOf Try.f9 3) false) (.seq (.region 4 (regOf Try.f9 4) false) (.seq (.region 5 (regOf Try.f9 5) false) .ret)))))
theorem body9 : Try.f9.body = some b9 := by kernel_rfl
noncomputable def C9 : Tab := [(13, c13), (21, c21), (32, c32), (33, c33), (34, c34), (35, c35)]
theorem C9_ok : TabOK Try.prog C9 := ⟨c13_ok, c21_ok, c32_ok, c33_ok, c34_ok, c35_ok, trivial⟩
noncomputable def LO9 : Tab := []
noncomputable def i9 : Tm := { sl := [(0, .v (.l (.i .u64))), (1, .v (.l (.i .u64)))], bx := [], bf := [] }
noncomputable def o9 : OT := (.ret { sl := [(0, .v .b)], bx := [], bf := [] })
/-- anabranch/anabranchlaw07.VectorReads -/
noncomputable def F9 (a0 : (List Int)) (a1 : (List Int)) : Option ((Bool × Unit) × Unit × Unit) :=
  ((F13).bind fun y317 => (bif (!y317.1.1) then ((F13).bind fun y318 => (some ((y318.1.1, ()), (), ()))) else ((F32 a0).bind fun y319 => (bif (!y319.1.1) then ((F13).bind fun y320 => (some ((y320.1.1, ()), (), ()))) else ((F32 a1).bind fun y321 => (bif (!y321.1.1) then ((F13).bind fun y322 => (some ((y322.1.1, ()), (), ()))) else ((F35 a0).bind fun y323 => ((F34 a1 y323.2.2.1).bind fun y324 => ((F33 y324.2.2.1 [] []).bind fun y325 => (bif ((y325.1.1 : Int) == 0) then ((F21 y325.2.1.1.1 a0).bind fun y326 => (bif y326.1.1 then ((F21 y325.2.1.2.1.1 a1).bind fun y327 => (some ((y327.1.1, ()), (), ()))) else (some ((false, ()), (), ())))) else (some ((false, ()), (), ()))))))))))))
noncomputable def c9 : Con := ⟨i9, o9, fun x => F9 x.1.1 x.1.2.1⟩
theorem e9 (x : i9.E) : vfn Try.prog C9 LO9 Try.f9 b9 i9 o9 x = F9 x.1.1 x.1.2.1 := by kernel_rfl
theorem c9_ok : Con.OK Try.prog 9 c9 := (fn_ok C9_ok Try.func9 body9 (loops_of (l := []) (by kernel_rfl) (show LoopsOK Try.prog Try.f9.ntmps [] LO9 from trivial)) i9 o9).congr fun x => (e9 x).symm
noncomputable def b12 : Code := (.seq (.region 0 (regOf Try.f12 0) false) (.seq (.seq (.region 1 (regOf Try.f12 1) false) (.cond (.tmp 23) (.seq (.region 2 (regOf Try.f12 2) false) .ret) .skip)) (.seq (.region 3 (regOf Try.f12 3) false) (.seq (.seq (.region 4 (regOf Try.f12 4) false) (.cond (.tmp 30) (.seq (.region 5 (regOf Try.f12 5) false) .ret) .skip)) (.seq (.region 6 (regOf Try.f12 6) false) (.seq (.region 7 (regOf Try.f12 7) false) (.seq (.region 8 (regOf Try.f12 8) false) (.seq (.region 9 (regOf Try.f12 9) false) (.seq (.region 10 (regOf Try.f12 10) true) .ret)))))))))
theorem body12 : Try.f12.body = some b12 := by kernel_rfl
noncomputable def C12 : Tab := [(23, c23), (24, c24), (26, c26), (27, c27), (28, c28), (29, c29), (38, c38), (39, c39), (40, c40), (41, c41), (42, c42)]
theorem C12_ok : TabOK Try.prog C12 := ⟨c23_ok, c24_ok, c26_ok, c27_ok, c28_ok, c29_ok, c38_ok, c39_ok, c40_ok, c41_ok, c42_ok, trivial⟩
noncomputable def LO12 : Tab := []
noncomputable def i12 : Tm := { sl := [(0, .v (.p (.i .i64) (.p (.i .u64) (.p (.i .u64) (.p (.i .u8) (.p .s (.p (.l (.i .u8)) (.p (.f .f64) (.p (.i .i64) .u))))))))), (1, .v (.i .u8))], bx := [], bf := [] }
noncomputable def o12 : OT := (.ret { sl := [(0, .v .b)], bx := [], bf := [] })
/-- anabranch/anabranchlaw06.EventBytes -/
noncomputable def F12 (a0 : (Int × (Int × (Int × (Int × (ByteArray × ((List Int) × (Nat × (Int × Unit))))))))) (a1 : Int) : Option ((Bool × Unit) × Unit × Unit) :=
  ((F23).bind fun y328 => (bif (!y328.1.1) then ((F23).bind fun y329 => (some ((y329.1.1, ()), (), ()))) else (bif (decide ((((a0.2.2.2.2.1.size : Nat) : Int) : Int) > 100)) then ((F23).bind fun y330 => (some ((y330.1.1, ()), (), ()))) else (bif (decide (((((a0.2.2.2.2.2.1).length : Nat) : Int) : Int) > 1000)) then ((F23).bind fun y331 => (some ((y331.1.1, ()), (), ()))) else ((F24 (a0.1, (a0.2.1, (a0.2.2.1, (a0.2.2.2.1, (a0.2.2.2.2.1, (a0.2.2.2.2.2.1, (a0.2.2.2.2.2.2.1, (a0.2.2.2.2.2.2.2.1, ())))))))) a1).bind fun y332 => ((F26 (y332.1.1.1, (y332.1.1.2.1, (y332.1.1.2.2.1, (y332.1.1.2.2.2.1, (y332.1.1.2.2.2.2.1, (y332.1.1.2.2.2.2.2.1, (y332.1.1.2.2.2.2.2.2.1, (y332.1.1.2.2.2.2.2.2.2.1, ()))))))))).bind fun y333 => (bif ((y333.1.1 : Int) != 0) then (some ((true, ()), (), ())) else ((F40 (y332.1.1.1, (y332.1.1.2.1, (y332.1.1.2.2.1, (y332.1.1.2.2.2.1, (y332.1.1.2.2.2.2.1, (y332.1.1.2.2.2.2.2.1, (y332.1.1.2.2.2.2.2.2.1, (y332.1.1.2.2.2.2.2.2.2.1, ()))))))))).bind fun y334 => ((F39 y334.2.2.1).bind fun y335 => ((F29 (y332.1.1.1, (y332.1.1.2.1, (y332.1.1.2.2.1, (y332.1.1.2.2.2.1, (y332.1.1.2.2.2.2.1, (y332.1.1.2.2.2.2.2.1, (y332.1.1.2.2.2.2.2.2.1, (y332.1.1.2.2.2.2.2.2.2.1, ()))))))))).bind fun y336 => ((F38 (y332.1.1.1, (y332.1.1.2.1, (y332.1.1.2.2.1, (y332.1.1.2.2.2.1, (y332.1.1.2.2.2.2.1, (y332.1.1.2.2.2.2.2.1, (y332.1.1.2.2.2.2.2.2.1, (y332.1.1.2.2.2.2.2.2.2.1, ()))))))))).bind fun y337 => (bif (((strL y334.2.2.1) : ByteArray).toList == ((strL y337.2.2.1) : ByteArray).toList) then (bif ((y335.1.2.1 : Int) == 0) then ((F27 (y335.1.1.1, (y335.1.1.2.1, (y335.1.1.2.2.1, (y335.1.1.2.2.2.1, (y335.1.1.2.2.2.2.1, (y335.1.1.2.2.2.2.2.1, (y335.1.1.2.2.2.2.2.2.1, (y335.1.1.2.2.2.2.2.2.2.1, ())))))))) (y332.1.1.1, (y332.1.1.2.1, (y332.1.1.2.2.1, (y332.1.1.2.2.2.1, (y332.1.1.2.2.2.2.1, (y332.1.1.2.2.2.2.2.1, (y332.1.1.2.2.2.2.2.2.1, (y332.1.1.2.2.2.2.2.2.2.1, ()))))))))).bind fun y338 => (bif y338.1.1 then ((F28 (y335.1.1.1, (y335.1.1.2.1, (y335.1.1.2.2.1, (y335.1.1.2.2.2.1, (y335.1.1.2.2.2.2.1, (y335.1.1.2.2.2.2.2.1, (y335.1.1.2.2.2.2.2.2.1, (y335.1.1.2.2.2.2.2.2.2.1, ())))))))) (y336.1.1.1, (y336.1.1.2.1, (y336.1.1.2.2.1, (y336.1.1.2.2.2.1, (y336.1.1.2.2.2.2.1, (y336.1.1.2.2.2.2.2.1, (y336.1.1.2.2.2.2.2.2.1, (y336.1.1.2.2.2.2.2.2.2.1, ()))))))))).bind fun y339 => (bif y339.1.1 then (bif ((y335.1.1.1 : Int) == y332.1.1.1) then (bif ((y335.1.1.2.1 : Int) == y332.1.1.2.1) then (bif ((y335.1.1.2.2.1 : Int) == y332.1.1.2.2.1) then (bif ((y335.1.1.2.2.2.1 : Int) == y332.1.1.2.2.2.1) then (bif (decide ((y332.1.1.2.2.2.1 : Int) ≤ 4)) then (bif (((y335.1.1.2.2.2.2.1 : ByteArray).toList == (y332.1.1.2.2.2.2.1 : ByteArray).toList) == true) then (bif ((y336.1.1.2.2.2.2.1 : ByteArray).toList == (y335.1.1.2.2.2.2.1 : ByteArray).toList) then (bif (((strL y336.1.1.2.2.2.2.2.1) : ByteArray).toList == ((strL y335.1.1.2.2.2.2.2.1) : ByteArray).toList) then (bif ((y336.1.1.2.2.2.2.2.2.2.1 : Int) == y335.1.1.2.2.2.2.2.2.2.1) then ((F41 (y332.1.1.1, (y332.1.1.2.1, (y332.1.1.2.2.1, (y332.1.1.2.2.2.1, (y332.1.1.2.2.2.2.1, (y332.1.1.2.2.2.2.2.1, (y332.1.1.2.2.2.2.2.2.1, (y332.1.1.2.2.2.2.2.2.2.1, ()))))))))).bind fun y340 => ((F42 (y332.1.1.1, (y332.1.1.2.1, (y332.1.1.2.2.1, (y332.1.1.2.2.2.1, (y332.1.1.2.2.2.2.1, (y332.1.1.2.2.2.2.2.1, (y332.1.1.2.2.2.2.2.2.1, (y332.1.1.2.2.2.2.2.2.2.1, ()))))))))).bind fun y341 => (some (((((y340.1.1.1 : Int) == y341.1.1.1) && ((y340.1.1.2.1 : Int) == y341.1.1.2.1)), ()), (), ())))) else (some ((false, ()), (), ()))) else (some ((false, ()), (), ()))) else (some ((false, ()), (), ()))) else (some ((false, ()), (), ()))) else (bif (((y335.1.1.2.2.2.2.1 : ByteArray).toList == (y332.1.1.2.2.2.2.1 : ByteArray).toList) == ((y332.1.1.2.2.2.2.1 : ByteArray).toList == ((⟨#[]⟩ : ByteArray) : ByteArray).toList)) then (bif ((y336.1.1.2.2.2.2.1 : ByteArray).toList == (y335.1.1.2.2.2.2.1 : ByteArray).toList) then (bif (((strL y336.1.1.2.2.2.2.2.1) : ByteArray).toList == ((strL y335.1.1.2.2.2.2.2.1) : ByteArray).toList) then (bif ((y336.1.1.2.2.2.2.2.2.2.1 : Int) == y335.1.1.2.2.2.2.2.2.2.1) then ((F41 (y332.1.1.1, (y332.1.1.2.1, (y332.1.1.2.2.1, (y332.1.1.2.2.2.1, (y332.1.1.2.2.2.2.1, (y332.1.1.2.2.2.2.2.1, (y332.1.1.2.2.2.2.2.2.1, (y332.1.1.2.2.2.2.2.2.2.1, ()))))))))).bind fun y342 => ((F42 (y332.1.1.1, (y332.1.1.2.1, (y332.1.1.2.2.1, (y332.1.1.2.2.2.1, (y332.1.1.2.2.2.2.1, (y332.1.1.2.2.2.2.2.1, (y332.1.1.2.2.2.2.2.2.1, (y332.1.1.2.2.2.2.2.2.2.1, ()))))))))).bind fun y343 => (some (((((y342.1.1.1 : Int) == y343.1.1.1) && ((y342.1.1.2.1 : Int) == y343.1.1.2.1)), ()), (), ())))) else (some ((false, ()), (), ()))) else (some ((false, ()), (), ()))) else (some ((false, ()), (), ()))) else (some ((false, ()), (), ())))) else (some ((false, ()), (), ()))) else (some ((false, ()), (), ()))) else (some ((false, ()), (), ()))) else (some ((false, ()), (), ()))) else (some ((false, ()), (), ())))) else (some ((false, ()), (), ())))) else (some ((false, ()), (), ()))) else (some ((false, ()), (), ()))))))))))))))
noncomputable def c12 : Con := ⟨i12, o12, fun x => F12 x.1.1 x.1.2.1⟩
theorem e12 (x : i12.E) : vfn Try.prog C12 LO12 Try.f12 b12 i12 o12 x = F12 x.1.1 x.1.2.1 := by kernel_rfl
theorem c12_ok : Con.OK Try.prog 12 c12 := (fn_ok C12_ok Try.func12 body12 (loops_of (l := []) (by kernel_rfl) (show LoopsOK Try.prog Try.f12.ntmps [] LO12 from trivial)) i12 o12).congr fun x => (e12 x).symm
noncomputable def l11_7 : Code := (.seq (.region 7 (regOf Try.f11 7) false) (.seq (.cond (.tmp 72) .skip (.exit 0)) (.seq (.block 1 (.seq (.region 8 (regOf Try.f11 8) false) (.seq (.region 9 (regOf Try.f11 9) false) (.seq (.seq (.region 10 (regOf Try.f11 10) true) (.cond (.tmp 94) (.seq (.region 11 (regOf Try.f11 11) false) .ret) .skip)) (.seq (.region 12 (regOf Try.f11 12) false) (.cond (.tmp 111) (.seq (.region 13 (regOf Try.f11 13) false) .ret) .skip)))))) (.region 14 (regOf Try.f11 14) false))))
noncomputable def b11 : Code := (.seq (.region 0 (regOf Try.f11 0) false) (.seq (.seq (.region 1 (regOf Try.f11 1) false) (.cond (.tmp 35) (.seq (.region 2 (regOf Try.f11 2) false) .ret) .skip)) (.seq (.region 3 (regOf Try.f11 3) false) (.seq (.region 4 (regOf Try.f11 4) false) (.seq (.region 5 (regOf Try.f11 5) true) (.seq (.seq (.region 6 (regOf Try.f11 6) false) (.block 0 (.loop l11_7))) (.seq (.region 15 (regOf Try.f11 15) false) .ret)))))))
theorem body11 : Try.f11.body = some b11 := by kernel_rfl
noncomputable def C11_7 : Tab := [(26, c26), (38, c38), (39, c39), (900041, cHot), (800069, cHot)]
theorem C11_7_ok : TabOK Try.prog C11_7 := ⟨c26_ok, c38_ok, c39_ok, cHot_ok, cHot_ok, trivial⟩
noncomputable def LO11_7 : Tab := []
noncomputable def i11_7 : Tm := { sl := [(69, .v (.l (.l (.i .u8)))), (70, .v (.i .i64)), (71, .v (.i .i64))], bx := [], bf := [] }
noncomputable def o11_7 : OT := (.two (.ret { sl := [(10, .v .b)], bx := [], bf := [] }) (.exit 0 { sl := [], bx := [], bf := [] }))
noncomputable def T11_7 (a69 : (List (List Int))) (a70 : Int) (a71 : Int) : Option ((((List (List Int)) × (Int × (Int × Unit))) × Unit × Unit) ⊕ (((Bool × Unit) × Unit × Unit) ⊕ (Unit × Unit × Unit))) :=
  (bif (decide ((a71 : Int) < a70)) then (bif (decide (0 ≤ (a71 : Int) ∧ (a71 : Int) < (((a69).length : Nat) : Int))) then ((F39 ((a69).getD (a71 : Int).toNat [])).bind fun y354 => (bif ((y354.1.2.1 : Int) == 0) then ((F38 (y354.1.1.1, (y354.1.1.2.1, (y354.1.1.2.2.1, (y354.1.1.2.2.2.1, (y354.1.1.2.2.2.2.1, (y354.1.1.2.2.2.2.2.1, (y354.1.1.2.2.2.2.2.2.1, (y354.1.1.2.2.2.2.2.2.2.1, ()))))))))).bind fun y355 => (bif (!(((strL y355.2.2.1) : ByteArray).toList == ((strL ((a69).getD (a71 : Int).toNat [])) : ByteArray).toList)) then (some (.inr (.inl ((false, ()), (), ())))) else ((F26 (y354.1.1.1, (y354.1.1.2.1, (y354.1.1.2.2.1, (y354.1.1.2.2.2.1, (y354.1.1.2.2.2.2.1, (y354.1.1.2.2.2.2.2.1, (y354.1.1.2.2.2.2.2.2.1, (y354.1.1.2.2.2.2.2.2.2.1, ()))))))))).bind fun y356 => (bif ((y356.1.1 : Int) != 0) then (some (.inr (.inl ((false, ()), (), ())))) else (bif ((y354.1.2.1 : Int) != 0) then (bif ((y354.1.1.1 : Int) != 0) then (some (.inr (.inl ((false, ()), (), ())))) else (bif ((y354.1.1.2.1 : Int) != 0) then (some (.inr (.inl ((false, ()), (), ())))) else (bif (!((y354.1.1.2.2.2.2.1 : ByteArray).toList == ((⟨#[]⟩ : ByteArray) : ByteArray).toList)) then (some (.inr (.inl ((false, ()), (), ())))) else (some (.inl ((a69, a70, (IntKind.wrap .i64 (a71 + 1)), ()), (), ())))))) else (some (.inl ((a69, a70, (IntKind.wrap .i64 (a71 + 1)), ()), (), ())))))))) else (bif ((y354.1.2.1 : Int) != 0) then (bif ((y354.1.1.1 : Int) != 0) then (some (.inr (.inl ((false, ()), (), ())))) else (bif ((y354.1.1.2.1 : Int) != 0) then (some (.inr (.inl ((false, ()), (), ())))) else (bif (!((y354.1.1.2.2.2.2.1 : ByteArray).toList == ((⟨#[]⟩ : ByteArray) : ByteArray).toList)) then (some (.inr (.inl ((false, ()), (), ())))) else (some (.inl ((a69, a70, (IntKind.wrap .i64 (a71 + 1)), ()), (), ())))))) else (some (.inl ((a69, a70, (IntKind.wrap .i64 (a71 + 1)), ()), (), ())))))) else none) else (some (.inr (.inr ((), (), ())))))
noncomputable def L11_7 (a69 : (List (List Int))) (a70 : Int) (a71 : Int) : Option (((Bool × Unit) × Unit × Unit) ⊕ (Unit × Unit × Unit)) := loopF (fun x : (((List (List Int)) × (Int × (Int × Unit))) × Unit × Unit) => T11_7 x.1.1 x.1.2.1 x.1.2.2.1) ((a69, a70, a71, ()), (), ())
theorem L11_7_eq (a69 : (List (List Int))) (a70 : Int) (a71 : Int) : L11_7 a69 a70 a71 = (T11_7 a69 a70 a71).bind (Sum.elim (fun x => L11_7 x.1.1 x.1.2.1 x.1.2.2.1) some) := loopF_eq _ _
noncomputable def k11_7 : Con := ⟨i11_7, o11_7, fun x => L11_7 x.1.1 x.1.2.1 x.1.2.2.1⟩
theorem e11_7 (x : i11_7.E) : vround Try.prog C11_7 LO11_7 Try.f11.ntmps l11_7 i11_7 o11_7 x = T11_7 x.1.1 x.1.2.1 x.1.2.2.1 := by kernel_rfl
theorem k11_7_ok : Con.LOK Try.prog Try.f11.ntmps l11_7 k11_7 := (loop_ok C11_7_ok (loops_of (l := []) (by kernel_rfl) (show LoopsOK Try.prog Try.f11.ntmps [] LO11_7 from trivial)) i11_7 o11_7).congr fun x => (congrArg (fun T => loopF T x) (funext e11_7)).symm
noncomputable def C11 : Tab := [(23, c23), (24, c24), (26, c26), (38, c38), (39, c39), (900041, cHot), (800069, cHot)]
theorem C11_ok : TabOK Try.prog C11 := ⟨c23_ok, c24_ok, c26_ok, c38_ok, c39_ok, cHot_ok, cHot_ok, trivial⟩
noncomputable def LO11 : Tab := [(7, k11_7)]
noncomputable def i11 : Tm := { sl := [(0, .v (.l (.i .u8))), (1, .v (.p (.i .i64) (.p (.i .u64) (.p (.i .u64) (.p (.i .u8) (.p .s (.p (.l (.i .u8)) (.p (.f .f64) (.p (.i .i64) .u))))))))), (2, .v (.i .u16)), (3, .v (.i .u8)), (4, .v (.i .u16))], bx := [], bf := [] }
noncomputable def o11 : OT := (.ret { sl := [(0, .v .b)], bx := [], bf := [] })
/-- anabranch/anabranchlaw06.EventJunk -/
noncomputable def F11 (a0 : (List Int)) (a1 : (Int × (Int × (Int × (Int × (ByteArray × ((List Int) × (Nat × (Int × Unit))))))))) (a2 : Int) (a3 : Int) (a4 : Int) : Option ((Bool × Unit) × Unit × Unit) :=
  ((F23).bind fun y344 => (bif (!y344.1.1) then ((F23).bind fun y345 => (some ((y345.1.1, ()), (), ()))) else (bif (decide (((((a0).length : Nat) : Int) : Int) > 300)) then ((F23).bind fun y346 => (some ((y346.1.1, ()), (), ()))) else (bif (decide ((((a1.2.2.2.2.1.size : Nat) : Int) : Int) > 64)) then ((F23).bind fun y347 => (some ((y347.1.1, ()), (), ()))) else (bif (decide (((((a1.2.2.2.2.2.1).length : Nat) : Int) : Int) > 200)) then ((F23).bind fun y348 => (some ((y348.1.1, ()), (), ()))) else ((F24 (a1.1, (a1.2.1, (a1.2.2.1, (a1.2.2.2.1, (a1.2.2.2.2.1, (a1.2.2.2.2.2.1, (a1.2.2.2.2.2.2.1, (a1.2.2.2.2.2.2.2.1, ())))))))) 255).bind fun y349 => ((F38 (y349.1.1.1, (y349.1.1.2.1, (y349.1.1.2.2.1, (y349.1.1.2.2.2.1, (y349.1.1.2.2.2.2.1, (y349.1.1.2.2.2.2.2.1, (y349.1.1.2.2.2.2.2.2.1, (y349.1.1.2.2.2.2.2.2.2.1, ()))))))))).bind fun y350 => (bif (decide ((y350.2.2.1).length < lim)) then (bif (decide (((((y350.2.2.1).length : Nat) : Int) : Int) ≠ 0)) then (bif (decide (((((y350.2.2.1).length : Nat) : Int) : Int) ≠ 0)) then (bif (decide (0 ≤ ((((IntKind.wrap .i64 a2) : Int).tmod (((y350.2.2.1).length : Nat) : Int)) : Int) ∧ ((((IntKind.wrap .i64 a2) : Int).tmod (((y350.2.2.1).length : Nat) : Int)) : Int) < (((y350.2.2.1).length : Nat) : Int))) then (bif (decide (((((IntKind.wrap .i64 a2) : Int).tmod (((y350.2.2.1).length : Nat) : Int)) : Int).toNat < (y350.2.2.1).length)) then (bif (decide (0 ≤ ((((IntKind.wrap .i64 a2) : Int).tmod (((y350.2.2.1).length : Nat) : Int)) : Int) ∧ ((((IntKind.wrap .i64 a2) : Int).tmod (((y350.2.2.1).length : Nat) : Int)) : Int) < (((y350.2.2.1).length : Nat) : Int))) then (bif (decide (((((IntKind.wrap .i64 a2) : Int).tmod (((y350.2.2.1).length : Nat) : Int)) : Int).toNat < (y350.2.2.1).length)) then (bif (decide (((IntKind.wrap .i64 ((((y350.2.2.1).length : Nat) : Int) + 1)) : Int) ≠ 0)) then (bif (decide (0 ≤ ((((IntKind.wrap .i64 a4) : Int).tmod (IntKind.wrap .i64 ((((y350.2.2.1).length : Nat) : Int) + 1))) : Int) ∧ ((((IntKind.wrap .i64 a4) : Int).tmod (IntKind.wrap .i64 ((((y350.2.2.1).length : Nat) : Int) + 1))) : Int) ≤ (((y350.2.2.1).length : Nat) : Int))) then ((L11_7 [a0, ((y350.2.2.1).set ((((IntKind.wrap .i64 a2) : Int).tmod (((y350.2.2.1).length : Nat) : Int)) : Int).toNat (iXor .u8 ((y350.2.2.1).getD ((((IntKind.wrap .i64 a2) : Int).tmod (((y350.2.2.1).length : Nat) : Int)) : Int).toNat (0 : Int)) a3)), ((y350.2.2.1).take ((((IntKind.wrap .i64 a4) : Int).tmod (IntKind.wrap .i64 ((((y350.2.2.1).length : Nat) : Int) + 1))) : Int).toNat)] ((([a0, ((y350.2.2.1).set ((((IntKind.wrap .i64 a2) : Int).tmod (((y350.2.2.1).length : Nat) : Int)) : Int).toNat (iXor .u8 ((y350.2.2.1).getD ((((IntKind.wrap .i64 a2) : Int).tmod (((y350.2.2.1).length : Nat) : Int)) : Int).toNat (0 : Int)) a3)), ((y350.2.2.1).take ((((IntKind.wrap .i64 a4) : Int).tmod (IntKind.wrap .i64 ((((y350.2.2.1).length : Nat) : Int) + 1))) : Int).toNat)]).length : Nat) : Int) 0).bind fun y357 => (Sum.elim (fun y358 => (some ((y358.1.1, ()), (), ()))) (fun y358 => (some ((true, ()), (), ()))) y357)) else none) else none) else none) else none) else none) else none) else none) else none) else none))))))))
noncomputable def c11 : Con := ⟨i11, o11, fun x => F11 x.1.1 x.1.2.1 x.1.2.2.1 x.1.2.2.2.1 x.1.2.2.2.2.1⟩
theorem e11 (x : i11.E) : vfn Try.prog C11 LO11 Try.f11 b11 i11 o11 x = F11 x.1.1 x.1.2.1 x.1.2.2.1 x.1.2.2.2.1 x.1.2.2.2.2.1 := by kernel_rfl
theorem c11_ok : Con.OK Try.prog 11 c11 := (fn_ok C11_ok Try.func11 body11 (loops_of (l := [l11_7]) (by kernel_rfl) (show LoopsOK Try.prog Try.f11.ntmps [l11_7] LO11 from ⟨k11_7_ok, trivial⟩)) i11 o11).congr fun x => (e11 x).symm
end Go.IM.V

/- Digits: what the printed functions tell. -/
set_option linter.unusedVariables false
set_option linter.unusedSimpArgs false
set_option linter.constructorNameAsVariable false
namespace Go.IM.V
open Go Go.IM Go.Proofs

/-- A number as digits: seven bits each, the lowest first. -/
def dgF : Nat → Int → List Int
  | 0, n => [n]
  | f + 1, n => if n < 128 then [n] else (128 + n % 128) :: dgF f (n / 128)
def dg (n : Int) : List Int := dgF 9 n
theorem dgF_len : ∀ (f : Nat) (n : Int), (dgF f n).length ≤ f + 1
  | 0, _ => by simp [dgF]
  | f + 1, n => by
    unfold dgF
    split
    · simp
    · have := dgF_len f (n / 128); simp; omega
theorem dg_len (n : Int) : (dg n).length ≤ 10 := dgF_len 9 n
theorem dgF_lt {f : Nat} {n : Int} (h : n < 128) : dgF f n = [n] := by
  cases f with
  | zero => rfl
  | succ f => unfold dgF; rw [if_pos h]
theorem or128' : ∀ a : Fin 256, iOr .u8 (a.val : Int) 128 = 128 + (a.val : Int) % 128 := by decide +kernel
theorem or128 (n : Int) : iOr .u8 (IntKind.wrap .u8 n) 128 = 128 + n % 128 := by
  rw [wu8_mod]
  have := or128' ⟨(n % 256).toNat, by omega⟩
  simp only at this
  rw [show (((n % 256).toNat : Nat) : Int) = n % 256 from by omega] at this
  rw [this]; omega
theorem shr7 {n : Int} (h : 0 ≤ n) : iShr .u64 n 7 = n / 128 := by
  unfold iShr
  show n.fdiv (2 ^ 7) = _
  rw [Int.fdiv_eq_ediv_of_nonneg _ (by omega)]
  rfl

theorem L56_run : ∀ (f : Nat) (n : Int) (q : List Int), 0 ≤ n → n < 128 ^ (f + 1) → q.length + f < lim →
    ∃ n' p, L56_1 n q = some (((), n', ()), (), (q ++ p, ())) ∧ 0 ≤ n' ∧ n' < 128 ∧ p ++ [n'] = dgF f n ∧ p.length ≤ f := by
  intro f
  induction f with
  | zero =>
    intro n q h0 h1 hq
    refine ⟨n, [], ?_, h0, by omega, rfl, by simp⟩
    rw [L56_1_eq]
    simp only [T56_1, cif]
    rw [if_neg (by omega)]
    simp
  | succ f ih =>
    intro n q h0 h1 hq
    by_cases hn : n < 128
    · refine ⟨n, [], ?_, h0, hn, by rw [dgF_lt hn]; rfl, by simp⟩
      rw [L56_1_eq]
      simp only [T56_1, cif]
      rw [if_neg (by omega)]
      simp
    · have hl : (q ++ [128 + n % 128]).length = q.length + 1 := by simp
      obtain ⟨n', p, e, a, b, c, d⟩ := ih (n / 128) (q ++ [128 + n % 128]) (by omega) (by rw [Int.pow_succ] at h1; omega) (by rw [hl]; omega)
      refine ⟨n', (128 + n % 128) :: p, ?_, a, b, ?_, by simp; omega⟩
      · rw [L56_1_eq]
        simp only [T56_1, cif]
        rw [if_pos (by omega), if_pos (by simp; omega), or128, shr7 h0]
        simp only [Option.bind_some, Sum.elim_inl]
        rw [e]
        simp
      · rw [dgF, if_neg hn, List.cons_append, c]
theorem F56_eq (n : Int) (q : List Int) (h0 : 0 ≤ n) (h1 : n < 18446744073709551616) (hq : q.length + 10 < lim) : F56 n q = some (ro (q ++ dg n)) := by
  obtain ⟨n', p, e, a, b, c, d⟩ := L56_run 9 n q h0 (by rw [show (128 : Int) ^ (9 + 1) = 1180591620717411303424 from by decide]; omega) (by omega)
  unfold F56
  rw [e]
  simp only [Option.bind_some, cif]
  rw [if_pos (by simp; omega), wu8_mod, Int.emod_eq_of_lt a (by omega), List.append_assoc, c]
  rfl
theorem L57_run : ∀ (f : Nat) (n : Int) (q : List Int), 0 ≤ n → n < 18446744073709551616 → n < 128 ^ (f + 1) → q.length + f < lim →
    ∃ n' p, L57_3 n q = some ((n', (), ()), (), (q ++ p, ())) ∧ 0 ≤ n' ∧ n' < 128 ∧ p ++ [n'] = dgF f n ∧ p.length ≤ f := by
  intro f
  induction f with
  | zero =>
    intro n q h0 h2 h1 hq
    refine ⟨n, [], ?_, h0, by omega, rfl, by simp⟩
    rw [L57_3_eq]
    simp only [T57_3, cif]
    rw [if_neg (by omega)]
    simp
  | succ f ih =>
    intro n q h0 h2 h1 hq
    by_cases hn : n < 128
    · refine ⟨n, [], ?_, h0, hn, by rw [dgF_lt hn]; rfl, by simp⟩
      rw [L57_3_eq]
      simp only [T57_3, cif]
      rw [if_neg (by omega)]
      simp
    · have hl : (q ++ [128 + n % 128]).length = q.length + 1 := by simp
      obtain ⟨n', p, e, a, b, c, d⟩ := ih (n / 128) (q ++ [128 + n % 128]) (by omega) (by omega) (by rw [Int.pow_succ] at h1; omega) (by rw [hl]; omega)
      refine ⟨n', (128 + n % 128) :: p, ?_, a, b, ?_, by simp; omega⟩
      · rw [L57_3_eq]
        simp only [T57_3, cif]
        rw [if_pos (by omega), if_pos (by simp; omega), Int.tmod_eq_emod_of_nonneg h0, Int.tdiv_eq_ediv_of_nonneg h0, wu64 (n := 128 + n % 128) (by omega) (by omega),
          wu8_mod, Int.emod_eq_of_lt (a := 128 + n % 128) (by omega) (by omega), wu64 (n := n / 128) (by omega) (by omega)]
        simp only [Option.bind_some, Sum.elim_inl]
        rw [e]
        simp
      · rw [dgF, if_neg hn, List.cons_append, c]
theorem F57_eq (q : List Int) (n : Int) (h0 : 0 ≤ n) (h1 : n < 18446744073709551616) (hq : q.length + 10 < lim) : F57 q n = some (ro (q ++ dg n)) := by
  obtain ⟨n', p, e, a, b, c, d⟩ := L57_run 9 n q h0 h1 (by rw [show (128 : Int) ^ (9 + 1) = 1180591620717411303424 from by decide]; omega) (by omega)
  unfold F57
  simp only [cif]
  rw [if_pos (by omega), e]
  simp only [Option.bind_some, cif]
  rw [if_pos (by simp; omega), wu8_mod, Int.emod_eq_of_lt a (by omega), List.append_assoc, c]
  rfl

/-- A text: how many bytes, and they. -/
def dgT (t : List Int) : List Int := dg t.length ++ t
theorem dgT_len (t : List Int) : (dgT t).length ≤ 10 + t.length := by unfold dgT; have := dg_len t.length; simp; omega
theorem F62_eq (t q : List Int) (ht : t.length < 4294967296) (hq : q.length + t.length + 10 < lim) : F62 t q = some (ro (q ++ dgT t)) := by
  unfold F62
  rw [wu64 (by omega) (by omega), F56_eq _ _ (by omega) (by omega) (by omega)]
  have := dg_len t.length
  simp only [Option.bind_some, cif]
  rw [if_pos (by simp; omega), List.append_assoc]
  rfl
theorem F58_eq (q t : List Int) (ht : t.length < 4294967296) (hq : q.length + t.length + 10 < lim) : F58 q t = some (ro (q ++ dgT t)) := by
  unfold F58
  rw [wu64 (by omega) (by omega), F57_eq _ _ (by omega) (by omega) (by omega)]
  have := dg_len t.length
  simp only [Option.bind_some, cif]
  rw [if_pos (by simp; omega), List.append_assoc]
  rfl

/-- A number in eight bytes, the highest first; the last k of these. -/
def fixF (n : Int) : Nat → List Int
  | 0 => []
  | k + 1 => (n / 256 ^ k) % 256 :: fixF n k
def fix8 (n : Int) : List Int := fixF n 8
theorem fixF_len (n : Int) : ∀ k, (fixF n k).length = k
  | 0 => rfl
  | k + 1 => by simp [fixF, fixF_len n k]
theorem shr8 {n : Int} (h : 0 ≤ n) (k : Nat) (hk : k < 8) : IntKind.wrap .u8 (iShr .u64 n ((8 * k : Nat) : Int)) = (n / 256 ^ k) % 256 := by
  rw [wu8_mod]
  unfold iShr
  rw [Int.toNat_natCast, Nat.min_eq_left (by show 8 * k ≤ 64; omega), Int.fdiv_eq_ediv_of_nonneg _ (by exact Int.le_of_lt (Int.pow_pos (by decide))), Int.pow_mul]
  rfl
theorem L63_run (n : Int) (h0 : 0 ≤ n) : ∀ (k : Nat) (q : List Int), k ≤ 8 → q.length + k < lim → L63_2 n ((k : Int) - 1) q = some (((), ()), (), (q ++ fixF n k, ())) := by
  intro k
  induction k with
  | zero =>
    intro q hk hq
    rw [L63_2_eq]
    simp only [T63_2, cif]
    rw [if_neg (by omega)]
    simp [fixF]
  | succ k ih =>
    intro q hk hq
    rw [L63_2_eq]
    simp only [T63_2, cif]
    have hw : IntKind.wrap .i64 (8 * (((k + 1 : Nat) : Int) - 1)) = ((8 * k : Nat) : Int) := by rw [w64 (by omega) (by omega)]; omega
    have hw2 : IntKind.wrap .i64 (((k + 1 : Nat) : Int) - 1 - 1) = (k : Int) - 1 := by rw [w64 (by omega) (by omega)]; omega
    rw [if_pos (by omega), hw, hw2, shr8 h0 k (by omega), if_pos (by omega), if_pos (by simp; omega)]
    simp only [Option.bind_some, Sum.elim_inl]
    rw [ih (q ++ [(n / 256 ^ k) % 256]) (by omega) (by simp; omega)]
    simp [fixF]
theorem F63_eq (n : Int) (q : List Int) (h0 : 0 ≤ n) (hq : q.length + 8 < lim) : F63 n q = some (ro (q ++ fix8 n)) := by
  unfold F63
  have := L63_run n h0 8 q (by omega) hq
  rw [show ((8 : Nat) : Int) - 1 = 7 from rfl] at this
  rw [this]
  rfl
theorem L59_run (n : Int) (h0 : 0 ≤ n) : ∀ (k : Nat) (q : List Int), k ≤ 8 → q.length + k < lim → L59_4 n (8 - (k : Int)) q = some (((), ()), (), (q ++ fixF n k, ())) := by
  intro k
  induction k with
  | zero =>
    intro q hk hq
    rw [L59_4_eq]
    simp only [T59_4, cif]
    rw [if_neg (by omega)]
    simp [fixF]
  | succ k ih =>
    intro q hk hq
    rw [L59_4_eq]
    simp only [T59_4, cif]
    have hw : IntKind.wrap .i64 (56 - IntKind.wrap .i64 (8 * (8 - ((k + 1 : Nat) : Int)))) = ((8 * k : Nat) : Int) := by
      rw [w64 (n := 8 * (8 - ((k + 1 : Nat) : Int))) (by omega) (by omega), w64 (by omega) (by omega)]; omega
    have hw2 : IntKind.wrap .i64 (8 - ((k + 1 : Nat) : Int) + 1) = 8 - (k : Int) := by rw [w64 (by omega) (by omega)]; omega
    rw [if_pos (by omega), hw, hw2, shr8 h0 k (by omega), if_pos (by omega), if_pos (by simp; omega)]
    simp only [Option.bind_some, Sum.elim_inl]
    rw [ih (q ++ [(n / 256 ^ k) % 256]) (by omega) (by simp; omega)]
    simp [fixF]
theorem F59_eq (q : List Int) (n : Int) (h0 : 0 ≤ n) (hq : q.length + 8 < lim) : F59 q n = some (ro (q ++ fix8 n)) := by
  unfold F59
  simp only [cif]
  rw [if_pos (by omega)]
  have := L59_run n h0 8 q (by omega) hq
  rw [show (8 : Int) - ((8 : Nat) : Int) = 0 from rfl] at this
  rw [this]
  rfl

/-- A quantity's bits. -/
def qbits (x : Nat) : Int := if FloatKind.f64.format.order x x != some Ordering.eq then 9221120237041090561 else (x : Int)
theorem F60_eq (x : Nat) : F60 x = some (r1 (qbits x)) := by
  unfold F60 F71 qbits
  simp only [Option.bind_some]
  cases FloatKind.f64.format.order x x != some Ordering.eq <;> rfl
theorem F64_eq (x : Nat) : F64 x = some (r1 (qbits x)) := F60_eq x
theorem qbits_nn (x : Nat) : 0 ≤ qbits x := by unfold qbits; split <;> omega

abbrev Ev : Type := Int × Int × Int × Int × ByteArray × List Int × Nat × Int × Unit
/-- What a kind tells behind the key. -/
def encR (k : Int) (text : List Int) (num : Nat) (node : Int) : List Int :=
  if k = 1 then dgT text else if k = 2 ∨ k = 3 then fix8 (qbits num) else if k = 5 then dg (IntKind.wrap .u64 node) else []
def encE (e : Ev) : List Int :=
  dg (IntKind.wrap .u64 e.1) ++ dg e.2.1 ++ dg e.2.2.1 ++ [e.2.2.2.1] ++ (if 1 ≤ e.2.2.2.1 ∧ e.2.2.2.1 ≤ 4 then dgT (bytesL e.2.2.2.2.1) else []) ++ encR e.2.2.2.1 e.2.2.2.2.2.1 e.2.2.2.2.2.2.1 e.2.2.2.2.2.2.2.1
theorem bytesL_len (s : ByteArray) : (bytesL s).length = s.size := by unfold bytesL; simp

/-- An event with numbers that a word can have, and texts that aren't endless. -/
structure EvOK (e : Ev) : Prop where
  s0 : 0 ≤ e.2.1
  s1 : e.2.1 < 18446744073709551616
  t0 : 0 ≤ e.2.2.1
  t1 : e.2.2.1 < 18446744073709551616
  key : e.2.2.2.2.1.size < 4294967296
  text : e.2.2.2.1 = 1 → e.2.2.2.2.2.1.length < 4294967296

theorem F40_eq (e : Ev) (h : EvOK e) : F40 e = some (ro (encE e)) := by
  obtain ⟨w, s, t, k, key, text, num, node, ⟨⟩⟩ := e
  obtain ⟨s0, s1, t0, t1, hk, ht⟩ := h
  simp only at s0 s1 t0 t1 hk ht
  have l1 := dg_len (IntKind.wrap .u64 w)
  have l2 := dg_len s
  have l3 := dg_len t
  have l4 := bytesL_len key
  have l5 := dgT_len (bytesL key)
  have hw : 0 ≤ IntKind.wrap .u64 w ∧ IntKind.wrap .u64 w < 18446744073709551616 := by rw [wu64_mod]; omega
  have hn : 0 ≤ IntKind.wrap .u64 node ∧ IntKind.wrap .u64 node < 18446744073709551616 := by rw [wu64_mod]; omega
  have hlim : lim = 1099511627776 := rfl
  unfold F40 encE
  simp only [cif, beq_iff_eq, Bool.cond_eq_ite, decide_eq_true_eq]
  rw [F56_eq _ _ hw.1 hw.2 (by simp; omega)]
  simp only [Option.bind_some, List.nil_append]
  rw [F56_eq _ _ s0 s1 (by omega)]
  simp only [Option.bind_some]
  rw [F56_eq _ _ t0 t1 (by simp; omega)]
  simp only [Option.bind_some]
  rw [if_pos (by simp; omega)]
  unfold encR
  have key' : ∀ q : List Int, q.length ≤ 31 → F62 (bytesL key) q = some (ro (q ++ dgT (bytesL key))) := fun q hq => F62_eq _ _ (by omega) (by omega)
  have text' : k = 1 → ∀ q : List Int, q.length ≤ 4294967396 → F62 text q = some (ro (q ++ dgT text)) := fun h1 q hq => F62_eq _ _ (ht h1) (by have := ht h1; omega)
  have node' : ∀ q : List Int, q.length ≤ 4294967396 → F56 (IntKind.wrap .u64 node) q = some (ro (q ++ dg (IntKind.wrap .u64 node))) := fun q hq => F56_eq _ _ hn.1 hn.2 (by omega)
  have num' : ∀ q : List Int, q.length ≤ 4294967396 → F63 (qbits num) q = some (ro (q ++ fix8 (qbits num))) := fun q hq => F63_eq _ _ (qbits_nn _) (by omega)
  by_cases k1 : 1 ≤ k
  · by_cases k4 : k ≤ 4
    · rw [if_pos (show k ≥ 1 from k1), if_pos k4, if_pos ⟨k1, k4⟩, key' _ (by simp; omega)]
      simp only [Option.bind_some]
      by_cases e1 : k = 1
      · rw [if_pos e1, if_pos e1, text' e1 _ (by simp; omega)]; rfl
      rw [if_neg e1, if_neg e1]
      by_cases e2 : k = 2
      · rw [if_pos e2, if_pos (Or.inl e2), F64_eq]; simp only [Option.bind_some]; rw [num' _ (by simp; omega)]; rfl
      rw [if_neg e2]
      by_cases e3 : k = 3
      · rw [if_pos e3, if_pos (Or.inr e3), F64_eq]; simp only [Option.bind_some]; rw [num' _ (by simp; omega)]; rfl
      simp only [e2, e3, show ¬ k = 5 from by omega, if_false, or_self, List.append_nil]
    · rw [if_pos (show k ≥ 1 from k1), if_neg k4]
      simp only [show ¬ k = 1 from by omega, show ¬ k = 2 from by omega, show ¬ k = 3 from by omega, show ¬ (1 ≤ k ∧ k ≤ 4) from by omega, if_false, or_self, List.append_nil]
      by_cases e5 : k = 5
      · rw [if_pos e5, if_pos e5, node' _ (by simp; omega)]; rfl
      · rw [if_neg e5, if_neg e5, List.append_nil]
  · rw [if_neg (show ¬ k ≥ 1 from k1)]
    simp only [show ¬ k = 1 from by omega, show ¬ k = 2 from by omega, show ¬ k = 3 from by omega, show ¬ k = 5 from by omega, show ¬ (1 ≤ k ∧ k ≤ 4) from by omega, if_false, or_self, List.append_nil]
theorem F38_eq (e : Ev) (h : EvOK e) (h1 : 1 ≤ e.2.2.2.1) : F38 e = some (ro (encE e)) := by
  obtain ⟨w, s, t, k, key, text, num, node, ⟨⟩⟩ := e
  obtain ⟨s0, s1, t0, t1, hk, ht⟩ := h
  simp only at s0 s1 t0 t1 hk ht h1
  have l1 := dg_len (IntKind.wrap .u64 w)
  have l2 := dg_len s
  have l3 := dg_len t
  have l4 := bytesL_len key
  have l5 := dgT_len (bytesL key)
  have hw : 0 ≤ IntKind.wrap .u64 w ∧ IntKind.wrap .u64 w < 18446744073709551616 := by rw [wu64_mod]; omega
  have hn : 0 ≤ IntKind.wrap .u64 node ∧ IntKind.wrap .u64 node < 18446744073709551616 := by rw [wu64_mod]; omega
  have hlim : lim = 1099511627776 := rfl
  unfold F38 encE
  simp only [cif, beq_iff_eq, Bool.cond_eq_ite, decide_eq_true_eq]
  rw [F57_eq _ _ hw.1 hw.2 (by simp; omega)]
  simp only [Option.bind_some, List.nil_append]
  rw [F57_eq _ _ s0 s1 (by omega)]
  simp only [Option.bind_some]
  rw [F57_eq _ _ t0 t1 (by simp; omega)]
  simp only [Option.bind_some]
  rw [if_pos (by simp; omega)]
  unfold encR
  have key' : ∀ q : List Int, q.length ≤ 31 → F58 q (bytesL key) = some (ro (q ++ dgT (bytesL key))) := fun q hq => F58_eq _ _ (by omega) (by omega)
  have text' : k = 1 → ∀ q : List Int, q.length ≤ 4294967396 → F58 q text = some (ro (q ++ dgT text)) := fun h1 q hq => F58_eq _ _ (ht h1) (by have := ht h1; omega)
  have node' : ∀ q : List Int, q.length ≤ 4294967396 → F57 q (IntKind.wrap .u64 node) = some (ro (q ++ dg (IntKind.wrap .u64 node))) := fun q hq => F57_eq _ _ hn.1 hn.2 (by omega)
  have num' : ∀ q : List Int, q.length ≤ 4294967396 → F59 q (qbits num) = some (ro (q ++ fix8 (qbits num))) := fun q hq => F59_eq _ _ (qbits_nn _) (by omega)
  by_cases k4 : k ≤ 4
  · rw [if_pos k4, if_pos ⟨h1, k4⟩, key' _ (by simp; omega)]
    simp only [Option.bind_some]
    by_cases e1 : k = 1
    · rw [if_pos e1, if_pos e1, text' e1 _ (by simp; omega)]; simp only [Option.bind_some, show ¬ k = 2 from by omega, show ¬ k = 3 from by omega, show ¬ k = 5 from by omega, if_false]
    rw [if_neg e1, if_neg e1]
    by_cases e2 : k = 2
    · rw [if_pos e2, if_pos (Or.inl e2), F60_eq]; simp only [Option.bind_some]; rw [num' _ (by simp; omega)]; simp only [Option.bind_some, show ¬ k = 5 from by omega, if_false]
    rw [if_neg e2]
    by_cases e3 : k = 3
    · rw [if_pos e3, if_pos (Or.inr e3), F60_eq]; simp only [Option.bind_some]; rw [num' _ (by simp; omega)]; simp only [Option.bind_some, show ¬ k = 5 from by omega, if_false]
    simp only [e2, e3, show ¬ k = 5 from by omega, if_false, or_self, List.append_nil]
  · rw [if_neg k4]
    simp only [show ¬ k = 1 from by omega, show ¬ k = 2 from by omega, show ¬ k = 3 from by omega, show ¬ (1 ≤ k ∧ k ≤ 4) from by omega, if_false, or_self, List.append_nil]
    by_cases e5 : k = 5
    · rw [if_pos e5, if_pos e5, node' _ (by simp; omega)]; rfl
    · rw [if_neg e5, if_neg e5, List.append_nil]
theorem F23_eq : F23 = some (r1 true) := by
  unfold F23
  rw [F40_eq _ ⟨by decide, by decide, by decide, by decide, by decide, fun _ => by decide⟩]
  simp only [Option.bind_some]
  exact congrArg (fun b : Bool => some (r1 b)) (by decide +kernel)
end Go.IM.V

/- Digits and tapes: what the printed functions tell. -/
set_option linter.unusedVariables false
set_option linter.unusedSimpArgs false
set_option linter.constructorNameAsVariable false
namespace Go.IM.V
open Go Go.IM Go.Proofs

def Bys (l : List Int) : Prop := ∀ x ∈ l, 0 ≤ x ∧ x < 256
theorem Bys.drop {l : List Int} (h : Bys l) (n : Nat) : Bys (l.drop n) := fun x hx => h x (List.mem_of_mem_drop hx)
theorem Bys.take {l : List Int} (h : Bys l) (n : Nat) : Bys (l.take n) := fun x hx => h x (List.mem_of_mem_take hx)
theorem Bys.app {a b : List Int} (ha : Bys a) (hb : Bys b) : Bys (a ++ b) := fun x hx => (List.mem_append.1 hx).elim (ha x) (hb x)

/-- The number ahead: and what stands behind it; or why there is none. -/
def tk : Nat → Int → List Int → (Int × List Int) ⊕ Int
  | _, _, [] => .inr 5
  | i, acc, b :: r => if (i = 9 ∧ 1 < b) ∨ (0 < i ∧ b = 0) then .inr 4 else if b < 128 then .inl (acc + b % 128 * 128 ^ i, r) else tk (i + 1) (acc + b % 128 * 128 ^ i) r

theorem and127' : ∀ a : Fin 256, iAnd .u8 (a.val : Int) 127 = (a.val : Int) % 128 := by decide +kernel
theorem and127 {b : Int} (h0 : 0 ≤ b) (h1 : b < 256) : iAnd .u8 b 127 = b % 128 := by
  have := and127' ⟨b.toNat, by omega⟩
  simpa [Int.toNat_of_nonneg h0] using this
theorem or_nat {x y : Nat} (hx : x < 2 ^ 64) (hy : y < 2 ^ 64) : iOr .u64 (x : Int) (y : Int) = ((x ||| y : Nat) : Int) := by
  show IntKind.wrap .u64 (((BitVec.ofInt 64 (x : Int) ||| BitVec.ofInt 64 (y : Int) : BitVec 64).toNat : Nat) : Int) = _
  rw [BitVec.ofInt_natCast, BitVec.ofInt_natCast, BitVec.toNat_or, BitVec.toNat_ofNat, BitVec.toNat_ofNat, Nat.mod_eq_of_lt hx, Nat.mod_eq_of_lt hy]
  have := Nat.or_lt_two_pow hx hy
  exact wu64 (by omega) (by omega)
theorem or_shl {acc c : Int} {i : Nat} (hi : i ≤ 9) (h0 : 0 ≤ acc) (h1 : acc < 128 ^ i) (c0 : 0 ≤ c) (c1 : c < 128) (h9 : i = 9 → c ≤ 1) :
    iOr .u64 acc (iShl .u64 c ((7 * i : Nat) : Int)) = acc + c * 128 ^ i := by
  obtain ⟨x, rfl⟩ := Int.eq_ofNat_of_zero_le h0
  obtain ⟨y, rfl⟩ := Int.eq_ofNat_of_zero_le c0
  have hp : ((128 : Int) ^ i) = ((2 ^ (7 * i) : Nat) : Int) := by rw [Nat.pow_mul]; simp
  rw [hp] at h1 ⊢
  have hx : x < 2 ^ (7 * i) := by exact_mod_cast h1
  have hy : y * 2 ^ (7 * i) < 2 ^ 64 := by
    rcases Nat.lt_or_ge i 9 with q | q
    · have : 2 ^ (7 * i) ≤ 2 ^ 56 := Nat.pow_le_pow_right (by decide) (by omega)
      calc y * 2 ^ (7 * i) ≤ 127 * 2 ^ 56 := Nat.mul_le_mul (by omega) this
        _ < 2 ^ 64 := by decide
    · obtain rfl : i = 9 := by omega
      have := h9 rfl
      calc y * 2 ^ (7 * 9) ≤ 1 * 2 ^ 63 := Nat.mul_le_mul (by omega) (by decide)
        _ < 2 ^ 64 := by decide
  have hx64 : x < 2 ^ 64 := Nat.lt_of_lt_of_le hx (Nat.pow_le_pow_right (by decide) (by omega))
  have hs : iShl .u64 (y : Int) ((7 * i : Nat) : Int) = ((y * 2 ^ (7 * i) : Nat) : Int) := by
    unfold iShl
    rw [Int.toNat_natCast, Nat.min_eq_left (by show 7 * i ≤ 64; omega), show (y : Int) * 2 ^ (7 * i) = ((y * 2 ^ (7 * i) : Nat) : Int) from by simp]
    generalize y * 2 ^ (7 * i) = z at hy
    exact wu64 (by omega) (by omega)
  rw [hs, or_nat hx64 hy, ← Nat.shiftLeft_eq, Nat.or_comm, ← Nat.shiftLeft_add_eq_or_of_lt hx, Nat.shiftLeft_eq]
  simp
  omega

abbrev r3 {α β γ : Type} (x : α) (y : β) (z : γ) : (α × β × γ × Unit) × Unit × Unit := ((x, y, z, ()), (), ())
theorem acc_lt {acc c : Int} {i : Nat} (h1 : acc < 128 ^ i) (c1 : c < 128) : acc + c * 128 ^ i < 128 ^ (i + 1) := by
  have hp : (0 : Int) < 128 ^ i := Int.pow_pos (by decide)
  rw [Int.pow_succ]
  have : c * 128 ^ i ≤ 127 * 128 ^ i := Int.mul_le_mul_of_nonneg_right (by omega) (Int.le_of_lt hp)
  omega
theorem L78_run (xs : List Int) (hb : Bys xs) : ∀ (r : List Int) (i : Nat) (acc : Int), r = xs.drop i → i ≤ 9 → i ≤ xs.length → 0 ≤ acc → acc < 128 ^ i →
    L78_3 xs acc xs (xs.length : Nat) (i : Nat) = some (match tk i acc r with | .inl q => .inl (r3 q.1 q.2 0) | .inr e => if e = 4 then .inl (r3 0 xs 4) else .inr ((), (), ())) := by
  intro r
  induction r with
  | nil =>
    intro i acc hr hi hl h0 h1
    have : xs.length ≤ i := by
      have := congrArg List.length hr
      simp at this
      omega
    rw [L78_3_eq]
    simp only [T78_3, cif]
    rw [if_neg (by omega)]
    rfl
  | cons b r ih =>
    intro i acc hr hi hl h0 h1
    have hlt : i < xs.length := by
      have := congrArg List.length hr
      simp at this
      omega
    have hd := List.drop_eq_getElem_cons hlt
    rw [hd] at hr
    cases hr
    obtain ⟨b0, b1⟩ := hb _ (List.getElem_mem hlt)
    have hg : xs.getD (i : Int).toNat 0 = xs[i] := by rw [Int.toNat_natCast, List.getD_eq_getElem?_getD, List.getElem?_eq_getElem hlt]; rfl
    have hw : IntKind.wrap .i64 (7 * (i : Int)) = ((7 * i : Nat) : Int) := by rw [w64 (by omega) (by omega)]; omega
    have hw2 : IntKind.wrap .i64 ((i : Int) + 1) = ((i + 1 : Nat) : Int) := by rw [w64 (by omega) (by omega)]; omega
    rw [L78_3_eq]
    simp only [T78_3, cif, beq_iff_eq, Bool.cond_eq_ite, decide_eq_true_eq, hg, hw, hw2, and127 b0 b1]
    rw [if_pos (by omega), if_pos (by omega)]
    rw [wu64 (n := xs[i] % 128) (by omega) (by omega)]
    by_cases c : (i = 9 ∧ 1 < xs[i]) ∨ (0 < i ∧ xs[i] = 0)
    · unfold tk
      rw [if_pos c]
      by_cases c9 : i = 9
      · rw [if_pos (by omega)]
        by_cases c1 : xs[i] > 1
        · rw [if_pos c1]; rfl
        · rw [if_neg c1, if_pos (by omega), if_pos (by omega)]; rfl
      · rw [if_neg (by omega), if_pos (by omega), if_pos (by omega)]; rfl
    · unfold tk
      rw [if_neg c]
      have hor : iOr .u64 acc (iShl .u64 (xs[i] % 128) ((7 * i : Nat) : Int)) = acc + xs[i] % 128 * 128 ^ i := or_shl hi h0 h1 (by omega) (by omega) (by omega)
      have hp : (0 : Int) < 128 ^ i := Int.pow_pos (by decide)
      have hnn : 0 ≤ xs[i] % 128 * 128 ^ i := Int.mul_nonneg (by omega) (Int.le_of_lt hp)
      rw [hor]
      have main : (if (0 : Int) ≤ ((7 * i : Nat) : Int) then
          (if xs[i] < 128 then (if 0 ≤ ((i + 1 : Nat) : Int) ∧ ((i + 1 : Nat) : Int) ≤ (xs.length : Int) then some (.inr (.inl (r3 (acc + xs[i] % 128 * 128 ^ i) (xs.drop ((i + 1 : Nat) : Int).toNat) 0))) else none)
          else some (.inl ((xs, acc + xs[i] % 128 * 128 ^ i, xs, (xs.length : Int), ((i + 1 : Nat) : Int), ()), (), ()))) else none :
          Option ((((List Int) × (Int × ((List Int) × (Int × (Int × Unit))))) × Unit × Unit) ⊕ (((Int × ((List Int) × (Int × Unit))) × Unit × Unit) ⊕ (Unit × Unit × Unit)))).bind
          (Sum.elim (fun x => L78_3 x.1.1 x.1.2.1 x.1.2.2.1 x.1.2.2.2.1 x.1.2.2.2.2.1) some) =
          some (match (if xs[i] < 128 then .inl (acc + xs[i] % 128 * 128 ^ i, xs.drop (i + 1)) else tk (i + 1) (acc + xs[i] % 128 * 128 ^ i) (xs.drop (i + 1)) : (Int × List Int) ⊕ Int) with
            | .inl q => .inl (r3 q.1 q.2 0) | .inr e => if e = 4 then .inl (r3 0 xs 4) else .inr ((), (), ())) := by
        rw [if_pos (by omega)]
        by_cases c128 : xs[i] < 128
        · rw [if_pos c128, if_pos c128, if_pos (by omega), Int.toNat_natCast]; rfl
        · rw [if_neg c128, if_neg c128]
          simp only [Option.bind_some, Sum.elim_inl]
          exact ih (i + 1) _ rfl (by omega) (by omega) (by omega) (acc_lt h1 (by omega))
      by_cases c9 : i = 9
      · rw [if_pos (by omega), if_neg (by omega), if_pos (by omega), if_neg (by omega)]
        exact main
      · rw [if_neg (by omega)]
        by_cases c0 : 0 < i
        · rw [if_pos (by omega), if_neg (by omega)]
          exact main
        · rw [if_neg (by omega)]
          exact main
theorem tk_err {r : List Int} : ∀ {i : Nat} {acc e : Int}, tk i acc r = .inr e → e = 4 ∨ e = 5 := by
  induction r with
  | nil => intro i acc e h; cases h; exact .inr rfl
  | cons b r ih =>
    intro i acc e h
    unfold tk at h
    split at h
    · cases h; exact .inl rfl
    · split at h
      · cases h
      · exact ih h
theorem F78_eq (xs : List Int) (hb : Bys xs) : F78 xs = some (match tk 0 0 xs with | .inl q => r3 q.1 q.2 0 | .inr e => r3 0 xs e) := by
  unfold F78
  have := L78_run xs hb xs 0 0 (by simp) (by omega) (by omega) (by omega) (by decide)
  rw [show ((0 : Nat) : Int) = 0 from rfl] at this
  rw [this]
  cases h : tk 0 0 xs with
  | inl q => rfl
  | inr e =>
    rcases tk_err h with rfl | rfl
    · rfl
    · rfl
theorem dgF_byte : ∀ (f : Nat) (n : Int), 0 ≤ n → n < 128 ^ (f + 1) → Bys (dgF f n)
  | 0, n, h0, h1 => fun x hx => by
    simp only [dgF, List.mem_singleton] at hx
    subst hx
    have : (128 : Int) ^ (0 + 1) = 128 := rfl
    omega
  | f + 1, n, h0, h1 => fun x hx => by
    unfold dgF at hx
    split at hx
    · simp at hx; omega
    · rcases List.mem_cons.1 hx with rfl | hx
      · omega
      · exact dgF_byte f (n / 128) (by omega) (by rw [Int.pow_succ] at h1; omega) x hx
theorem dg_byte {n : Int} (h0 : 0 ≤ n) (h1 : n < 18446744073709551616) : Bys (dg n) :=
  dgF_byte 9 n h0 (by rw [show (128 : Int) ^ (9 + 1) = 1180591620717411303424 from by decide]; omega)

theorem tk_app (rest : List Int) : ∀ (f i : Nat) (n acc : Int), f + i = 9 → 0 ≤ n → n < 2 ^ (64 - 7 * i) → (0 < i → 1 ≤ n) → tk i acc (dgF f n ++ rest) = .inl (acc + n * 128 ^ i, rest) := by
  intro f
  induction f with
  | zero =>
    intro i n acc hi h0 h1 hn
    obtain rfl : i = 9 := by omega
    have h2 : n < 2 := h1
    show tk 9 acc (n :: rest) = _
    unfold tk
    rw [if_neg (by omega), if_pos (by omega), Int.emod_eq_of_lt h0 (by omega)]
  | succ f ih =>
    intro i n acc hi h0 h1 hn
    unfold dgF
    by_cases hs : n < 128
    · rw [if_pos hs]
      show tk i acc (n :: rest) = _
      unfold tk
      rw [if_neg (by omega), if_pos hs, Int.emod_eq_of_lt h0 hs]
    · rw [if_neg hs]
      show tk i acc ((128 + n % 128) :: (dgF f (n / 128) ++ rest)) = _
      unfold tk
      rw [if_neg (by omega), if_neg (by omega)]
      have hp : (2 : Int) ^ (64 - 7 * i) = 2 ^ (64 - 7 * (i + 1)) * 128 := by
        rw [show 64 - 7 * i = (64 - 7 * (i + 1)) + 7 from by omega, Int.pow_add]; rfl
      rw [ih (i + 1) (n / 128) _ (by omega) (by omega) (by rw [hp] at h1; omega) (fun _ => by omega)]
      have hm : (128 + n % 128) % 128 = n % 128 := by omega
      rw [hm, Int.pow_succ]
      have : n * 128 ^ i = n % 128 * 128 ^ i + n / 128 * (128 ^ i * 128) := by
        rw [show n / 128 * (128 ^ i * 128) = (n / 128 * 128) * 128 ^ i from by rw [Int.mul_comm (128 ^ i) 128, Int.mul_assoc], ← Int.add_mul]
        congr 1
        omega
      rw [this, Int.add_assoc]
theorem tk_dg {n : Int} (h0 : 0 ≤ n) (h1 : n < 18446744073709551616) (rest : List Int) : tk 0 0 (dg n ++ rest) = .inl (n, rest) := by
  have := tk_app rest 9 0 n 0 (by omega) h0 h1 (by omega)
  rw [dg, this]
  simp
theorem tk_inv : ∀ (xs : List Int) (i : Nat) (acc m : Int) (rest : List Int), Bys xs → i ≤ 9 → tk i acc xs = .inl (m, rest) →
    ∃ n, xs = dgF (9 - i) n ++ rest ∧ m = acc + n * 128 ^ i ∧ 0 ≤ n ∧ n < 2 ^ (64 - 7 * i) ∧ (0 < i → 1 ≤ n) := by
  intro xs
  induction xs with
  | nil => intro i acc m rest hb hi h; cases h
  | cons b r ih =>
    intro i acc m rest hb hi h
    obtain ⟨b0, b1⟩ := hb b (List.mem_cons_self ..)
    unfold tk at h
    split at h
    · cases h
    · rename_i hc
      split at h
      · rename_i h128
        cases h
        refine ⟨b, ?_, by rw [Int.emod_eq_of_lt b0 h128], b0, ?_, by omega⟩
        · rw [dgF_lt h128]; rfl
        · by_cases h9 : i = 9
          · subst h9; show b < 2; omega
          · have hp : (2 : Int) ^ (64 - 7 * i) = 2 ^ (57 - 7 * i) * 128 := by
              rw [show 64 - 7 * i = (57 - 7 * i) + 7 from by omega, Int.pow_add]; rfl
            have : (0 : Int) < 2 ^ (57 - 7 * i) := Int.pow_pos (by decide)
            omega
      · rename_i h128
        have hi9 : i ≠ 9 := by omega
        obtain ⟨n, h1, h2, h3, h4, h5⟩ := ih (i + 1) _ m rest (fun x hx => hb x (List.mem_cons_of_mem _ hx)) (by omega) h
        have h5 := h5 (by omega)
        have hp : (2 : Int) ^ (64 - 7 * i) = 2 ^ (64 - 7 * (i + 1)) * 128 := by
          rw [show 64 - 7 * i = (64 - 7 * (i + 1)) + 7 from by omega, Int.pow_add]; rfl
        refine ⟨b % 128 + n * 128, ?_, ?_, by omega, by rw [hp]; omega, by omega⟩
        · rw [show 9 - i = (9 - (i + 1)) + 1 from by omega]
          unfold dgF
          rw [if_neg (by omega), h1, show 128 + (b % 128 + n * 128) % 128 = b from by omega, show (b % 128 + n * 128) / 128 = n from by omega]
          rfl
        · rw [h2, Int.pow_succ, Int.add_mul, Int.add_assoc, show n * (128 ^ i * 128) = n * 128 * 128 ^ i from by rw [Int.mul_comm (128 ^ i) 128, Int.mul_assoc]]
theorem tk_some {xs : List Int} {m : Int} {rest : List Int} (hb : Bys xs) (h : tk 0 0 xs = .inl (m, rest)) : xs = dg m ++ rest ∧ 0 ≤ m ∧ m < 18446744073709551616 := by
  obtain ⟨n, h1, h2, h3, h4, _⟩ := tk_inv xs 0 0 m rest hb (by omega) h
  have : m = n := by rw [h2]; simp
  subst this
  exact ⟨h1, h3, h4⟩

/-- A text ahead. -/
def tkT (most : Int) (xs : List Int) : (List Int × List Int) ⊕ Int :=
  match tk 0 0 xs with
  | .inr e => .inr e
  | .inl (n, r) => if most < 0 ∨ n > most then .inr 6 else if n > (r.length : Int) then .inr 5 else .inl (r.take n.toNat, r.drop n.toNat)
theorem F79_eq (xs : List Int) (most : Int) (hb : Bys xs) (hl : xs.length < 2 ^ 63) (hm : most < lim) : F79 xs most = some (match tkT most xs with | .inl q => r3 q.1 q.2 0 | .inr e => r3 [] xs e) := by
  unfold F79 tkT
  rw [F78_eq xs hb]
  have hlim : lim = 1099511627776 := rfl
  cases h : tk 0 0 xs with
  | inr e =>
    simp only [Option.bind_some]
    rcases tk_err h with rfl | rfl <;> rfl
  | inl q =>
    obtain ⟨n, r⟩ := q
    obtain ⟨h1, h2, h3⟩ := tk_some hb h
    have hr : r.length ≤ xs.length := by rw [h1]; simp
    simp only [Option.bind_some, bne_self_eq_false, cond_false, cif]
    by_cases c1 : most < 0
    · rw [if_pos c1, if_pos (Or.inl c1)]
    · rw [if_neg c1, wu64 (n := most) (by omega) (by omega), wu64 (n := (r.length : Int)) (by omega) (by omega)]
      by_cases c2 : n > most
      · rw [if_pos c2, if_pos (Or.inr c2)]
      · rw [if_neg c2, if_neg (show ¬ (most < 0 ∨ n > most) from by omega)]
        by_cases c3 : n > (r.length : Int)
        · rw [if_pos c3, if_pos c3]
        · rw [if_neg c3, if_neg c3, if_pos (by omega), if_pos (by rw [List.length_take]; omega), if_pos (by omega)]
theorem tkT_app {t rest : List Int} {most : Int} (h : (t.length : Int) ≤ most) (hl : t.length < 2 ^ 63) : tkT most (dgT t ++ rest) = .inl (t, rest) := by
  unfold tkT dgT
  rw [List.append_assoc, tk_dg (by omega) (by omega)]
  simp only
  rw [if_neg (by omega), if_neg (by simp; omega), Int.toNat_natCast]
  simp
theorem tkT_some {xs t rest : List Int} {most : Int} (hb : Bys xs) (h : tkT most xs = .inl (t, rest)) : xs = dgT t ++ rest ∧ (t.length : Int) ≤ most := by
  unfold tkT at h
  split at h
  · cases h
  · rename_i n r hk
    obtain ⟨h1, h2, h3⟩ := tk_some hb hk
    split at h
    · cases h
    · split at h
      · cases h
      · cases h
        have hlen : (r.take n.toNat).length = n.toNat := by rw [List.length_take]; omega
        refine ⟨?_, by rw [hlen]; omega⟩
        unfold dgT
        rw [hlen, Int.toNat_of_nonneg h2, List.append_assoc, List.take_append_drop, ← h1]

/-! ### Tapes -/
abbrev tin {α : Type} (x : α) (r : List Int) : (α × Unit) × ((List Int × Unit) × Unit) × Unit := ((x, ()), ((r, ()), ()), ())
abbrev tie (e : Int) (r : List Int) : Int × (Unit × ((List Int × Unit) × Unit) × Unit) := (e, ((), ((r, ()), ()), ()))
def tnum (most : Int) (xs : List Int) : (Int × List Int) ⊕ Int :=
  match tk 0 0 xs with
  | .inr e => .inr e
  | .inl (n, r) => if n > most then .inr 6 else .inl (n, r)
theorem F69_z : F69 0 = some (.inl ((), (), ())) := rfl
theorem F69_n {e : Int} (h : e ≠ 0) : F69 e = some (.inr (e, ((), (), ()))) := by
  unfold F69; rw [show ((e : Int) != 0) = true from by simpa using h]; rfl
theorem F68_eq (most : Int) (xs : List Int) (hb : Bys xs) : F68 most xs = some (match tnum most xs with | .inl q => .inl (tin q.1 q.2) | .inr e => .inr (tie e xs)) := by
  unfold F68 tnum
  rw [F78_eq xs hb]
  cases h : tk 0 0 xs with
  | inr e =>
    simp only [Option.bind_some]
    rcases tk_err h with rfl | rfl <;> rfl
  | inl q =>
    obtain ⟨n, r⟩ := q
    simp only [Option.bind_some, F69_z, Sum.elim_inl, cif]
    by_cases c : n > most
    · rw [if_pos c, if_pos c]; rfl
    · rw [if_neg c, if_neg c]
theorem tnum_some {xs rest : List Int} {n most : Int} (hb : Bys xs) (h : tnum most xs = .inl (n, rest)) : xs = dg n ++ rest ∧ 0 ≤ n ∧ n < 18446744073709551616 ∧ n ≤ most := by
  unfold tnum at h
  split at h
  · cases h
  · rename_i m r hk
    split at h
    · cases h
    · cases h
      obtain ⟨h1, h2, h3⟩ := tk_some hb hk
      exact ⟨h1, h2, h3, by omega⟩
theorem tnum_app {n most : Int} (h0 : 0 ≤ n) (h1 : n < 18446744073709551616) (hm : n ≤ most) (rest : List Int) : tnum most (dg n ++ rest) = .inl (n, rest) := by
  unfold tnum
  rw [tk_dg h0 h1]
  simp only
  rw [if_neg (by omega)]
theorem tnum_err {xs : List Int} {most e : Int} (h : tnum most xs = .inr e) : e = 4 ∨ e = 5 ∨ e = 6 := by
  unfold tnum at h
  split at h
  · rename_i hk; cases h; rcases tk_err hk with h | h <;> omega
  · split at h
    · cases h; omega
    · cases h
theorem F73_eq (xs : List Int) : F73 xs = some (match xs with | [] => .inr (tie 5 []) | b :: r => .inl (tin b r)) := by
  unfold F73
  cases xs with
  | nil => rfl
  | cons b r =>
    simp only [Bool.cond_eq_ite, beq_iff_eq, List.length_cons, decide_eq_true_eq]
    rw [if_neg (by omega), if_pos (by omega), if_pos (by omega)]
    rfl
theorem F74_eq (most : Int) (xs : List Int) (hb : Bys xs) (hl : xs.length < 2 ^ 63) (hm : most < lim) : F74 most xs = some (match tkT most xs with | .inl q => .inl (tin q.1 q.2) | .inr e => .inr (tie e xs)) := by
  unfold F74
  rw [F79_eq xs most hb hl hm]
  simp only [Option.bind_some]
  cases h : tkT most xs with
  | inl q => rfl
  | inr e =>
    have he : e ≠ 0 := by
      unfold tkT at h
      split at h
      · rename_i hk; cases h; rcases tk_err hk with h | h <;> omega
      · split at h
        · cases h; omega
        · split at h
          · cases h; omega
          · cases h
    simp only
    rw [F69_n he]
    rfl
theorem F54_eq (xs : List Int) : F54 xs = some (match xs with | [] => .inl ((), (([], ()), ()), ()) | b :: r => .inr (tie 4 (b :: r))) := by
  unfold F54
  cases xs with
  | nil => rfl
  | cons b r =>
    simp only [cif, List.length_cons]
    rw [if_pos (by omega)]
    rfl
end Go.IM.V
