/- What the code of a law comes to, and what that tells: part 2. Lemmas alone; no conditions. -/
import Derived.Test.YtinknnimmpcddaaImRowE6P1
set_option linter.unusedVariables false
set_option linter.constructorNameAsVariable false
namespace Go.IM.V
open Go Go.IM Go.Proofs
abbrev DMf : Type := (Int × (Int × ((List Int) × (Int × (ByteArray × Unit)))))
abbrev tDMf : Ty := (.p (.i .i64) (.p (.i .u64) (.p (.l (.i .u64)) (.p (.i .u64) (.p .s .u)))))
noncomputable def b79b : Code := (.seq (.region 0 (regOf Try.f79 0) false) (.seq (.seq (.region 1 (regOf Try.f79 1) false) (.cond (.tmp 4) (.seq (.region 2 (regOf Try.f79 2) false) .ret) .skip)) (.seq (.region 3 (regOf Try.f79 3) false) .ret)))
theorem body79b : Try.f79.body = some b79b := by kernel_rfl
noncomputable def C79b : Tab := []
theorem C79b_ok : TabOK Try.prog C79b := trivial
noncomputable def LO79b : Tab := []
noncomputable def i79b : Tm := { sl := [(0, .v (.l (.i .u64)))], bx := [], bf := [] }
noncomputable def o79b : OT := (.ret { sl := [(0, .o 0)], bx := [], bf := [(.i .u64)] })
noncomputable def F79b (a0 : (List Int)) : Option ((Unit × Unit) × Unit × ((List Int) × Unit)) :=
  (nilBr (a0).length (some (((), ()), (), (([] : List Int), ()))) (bif (decide ((([] : List Int)).length + (a0).length < lim)) then (some (((), ()), (), ((([] : List Int) ++ a0), ()))) else none))
noncomputable def c79b : Con := ⟨i79b, o79b, fun x => F79b x.1.1⟩
theorem e79b (x : i79b.E) : vfn Try.prog C79b LO79b Try.f79 b79b i79b o79b x = F79b x.1.1 := by kernel_rfl
theorem c79b_ok : Con.OK Try.prog 79 c79b := (fn_ok C79b_ok (fun _ => rfl) Try.func79 body79b (loops_of (l := []) (by kernel_rfl) (show LoopsOK Try.prog Try.f79.ntmps [] LO79b from trivial)) i79b o79b).congr fun x => (e79b x).symm
noncomputable def F79h (a0 : (List Int)) : Option ((Unit × Unit) × (((List Int) × Unit) × Unit) × Unit) := (F79b a0).bind fun y => bif List.isEmpty (α := Int) y.2.2.1 then none else some (((), ()), (((y.2.2.1, ()), ()), ()))
noncomputable def c79h : Con := ⟨i79b, (.ret { sl := [(0, .m (.i .u64) 0)], bx := [[.r (.i .u64)]], bf := [] }), fun x => F79h x.1.1⟩
theorem c79h_ok : Con.OK Try.prog 79 c79h := heat (ik := .u64) rfl rfl c79b_ok
noncomputable def b76 : Code := (.seq (.region 0 (regOf Try.f76 0) false) (.seq (.region 1 (regOf Try.f76 1) false) .ret))
theorem body76 : Try.f76.body = some b76 := by kernel_rfl
noncomputable def C76 : Tab := [(91, c91)]
theorem C76_ok : TabOK Try.prog C76 := ⟨c91_ok, trivial⟩
noncomputable def LO76 : Tab := []
noncomputable def i76 : Tm := { sl := [(0, .v .s), (1, .fn 41)], bx := [], bf := [] }
noncomputable def o76 : OT := (.ret { sl := [(0, .v (.i .i64))], bx := [], bf := [] })
noncomputable def F76 (a0 : ByteArray) : Option ((Int × Unit) × Unit × Unit) :=
  ((F91 a0 true).bind fun y413 => (some ((y413.1.1, ()), (), ())))
noncomputable def c76 : Con := ⟨i76, o76, fun x => F76 x.1.1⟩
theorem e76 (x : i76.E) : vfn Try.prog C76 LO76 Try.f76 b76 i76 o76 x = F76 x.1.1 := by kernel_rfl
theorem c76_ok : Con.OK Try.prog 76 c76 := (fn_ok C76_ok (fun _ => rfl) Try.func76 body76 (loops_of (l := []) (by kernel_rfl) (show LoopsOK Try.prog Try.f76.ntmps [] LO76 from trivial)) i76 o76).congr fun x => (e76 x).symm
noncomputable def b40 : Code := (.seq (.region 0 (regOf Try.f40 0) false) (.seq (.region 1 (regOf Try.f40 1) false) .ret))
theorem body40 : Try.f40.body = some b40 := by kernel_rfl
noncomputable def C40 : Tab := [(76, c76)]
theorem C40_ok : TabOK Try.prog C40 := ⟨c76_ok, trivial⟩
noncomputable def LO40 : Tab := []
noncomputable def i40 : Tm := { sl := [(0, .v .s), (1, .fn 41)], bx := [], bf := [] }
noncomputable def o40 : OT := (.ret { sl := [(0, .v .b)], bx := [], bf := [] })
noncomputable def F40 (a0 : ByteArray) : Option ((Bool × Unit) × Unit × Unit) :=
  ((F76 a0).bind fun y414 => (some (((decide ((y414.1.1 : Int) ≥ 0)), ()), (), ())))
noncomputable def c40 : Con := ⟨i40, o40, fun x => F40 x.1.1⟩
theorem e40 (x : i40.E) : vfn Try.prog C40 LO40 Try.f40 b40 i40 o40 x = F40 x.1.1 := by kernel_rfl
theorem c40_ok : Con.OK Try.prog 40 c40 := (fn_ok C40_ok (fun _ => rfl) Try.func40 body40 (loops_of (l := []) (by kernel_rfl) (show LoopsOK Try.prog Try.f40.ntmps [] LO40 from trivial)) i40 o40).congr fun x => (e40 x).symm
noncomputable def b16 : Code := (.seq (.region 0 (regOf Try.f16 0) false) (.seq (.region 1 (regOf Try.f16 1) false) .ret))
theorem body16 : Try.f16.body = some b16 := by kernel_rfl
noncomputable def C16 : Tab := [(40, c40)]
theorem C16_ok : TabOK Try.prog C16 := ⟨c40_ok, trivial⟩
noncomputable def LO16 : Tab := []
noncomputable def i16 : Tm := { sl := [(0, .v .s)], bx := [], bf := [] }
noncomputable def o16 : OT := (.ret { sl := [(0, .v .b)], bx := [], bf := [] })
noncomputable def F16 (a0 : ByteArray) : Option ((Bool × Unit) × Unit × Unit) :=
  (bif (!((a0 : ByteArray).toList == ((⟨#[]⟩ : ByteArray) : ByteArray).toList)) then (bif (decide ((((a0.size : Nat) : Int) : Int) ≤ 48)) then ((F40 a0).bind fun y415 => (some (((!y415.1.1), ()), (), ()))) else (some ((false, ()), (), ()))) else (some ((false, ()), (), ())))
noncomputable def c16 : Con := ⟨i16, o16, fun x => F16 x.1.1⟩
theorem e16 (x : i16.E) : vfn Try.prog C16 LO16 Try.f16 b16 i16 o16 x = F16 x.1.1 := by kernel_rfl
theorem c16_ok : Con.OK Try.prog 16 c16 := (fn_ok C16_ok (fun _ => rfl) Try.func16 body16 (loops_of (l := []) (by kernel_rfl) (show LoopsOK Try.prog Try.f16.ntmps [] LO16 from trivial)) i16 o16).congr fun x => (e16 x).symm
noncomputable def l63_2 : Code := (.seq (.seq (.region 2 (regOf Try.f63 2) false) (.cond (.tmp 15) .skip (.exit 0))) (.seq (.block 1 (.seq (.region 4 (regOf Try.f63 4) false) (.cond (.tmp 24) (.seq (.region 5 (regOf Try.f63 5) false) .ret) .skip))) (.region 3 (regOf Try.f63 3) false)))
noncomputable def b63 : Code := (.seq (.region 0 (regOf Try.f63 0) false) (.seq (.seq (.region 1 (regOf Try.f63 1) false) (.block 0 (.loop l63_2))) (.seq (.region 6 (regOf Try.f63 6) false) .ret)))
theorem body63 : Try.f63.body = some b63 := by kernel_rfl
noncomputable def C63_2 : Tab := [(82, c82)]
theorem C63_2_ok : TabOK Try.prog C63_2 := ⟨c82_ok, trivial⟩
noncomputable def LO63_2 : Tab := []
noncomputable def i63_2 : Tm := { sl := [(0, .v (.l (.i .u64))), (1, .v (.l (.i .u64))), (5, .v (.i .i64))], bx := [], bf := [] }
noncomputable def o63_2 : OT := (.two (.ret { sl := [(4, .v .b)], bx := [], bf := [] }) (.exit 0 { sl := [], bx := [], bf := [] }))
noncomputable def T63_2 (a0 : (List Int)) (a1 : (List Int)) (a5 : Int) : Option ((((List Int) × ((List Int) × (Int × Unit))) × Unit × Unit) ⊕ (((Bool × Unit) × Unit × Unit) ⊕ (Unit × Unit × Unit))) :=
  (bif (decide ((a5 : Int) < (((a0).length : Nat) : Int))) then ((F82 a0 a5).bind fun y420 => ((F82 a1 a5).bind fun y421 => (bif ((y420.1.1 : Int) != y421.1.1) then (some (.inr (.inl ((false, ()), (), ())))) else (some (.inl ((a0, a1, (IntKind.wrap .i64 (a5 + 1)), ()), (), ())))))) else (bif (decide ((a5 : Int) < (((a1).length : Nat) : Int))) then ((F82 a0 a5).bind fun y422 => ((F82 a1 a5).bind fun y423 => (bif ((y422.1.1 : Int) != y423.1.1) then (some (.inr (.inl ((false, ()), (), ())))) else (some (.inl ((a0, a1, (IntKind.wrap .i64 (a5 + 1)), ()), (), ())))))) else (some (.inr (.inr ((), (), ()))))))
noncomputable def L63_2 (a0 : (List Int)) (a1 : (List Int)) (a5 : Int) : Option (((Bool × Unit) × Unit × Unit) ⊕ (Unit × Unit × Unit)) := loopF (fun x : (((List Int) × ((List Int) × (Int × Unit))) × Unit × Unit) => T63_2 x.1.1 x.1.2.1 x.1.2.2.1) ((a0, a1, a5, ()), (), ())
theorem L63_2_eq (a0 : (List Int)) (a1 : (List Int)) (a5 : Int) : L63_2 a0 a1 a5 = (T63_2 a0 a1 a5).bind (Sum.elim (fun x => L63_2 x.1.1 x.1.2.1 x.1.2.2.1) some) := loopF_eq _ _
noncomputable def k63_2 : Con := ⟨i63_2, o63_2, fun x => L63_2 x.1.1 x.1.2.1 x.1.2.2.1⟩
theorem e63_2 (x : i63_2.E) : vround Try.prog C63_2 LO63_2 Try.f63.ntmps l63_2 i63_2 o63_2 x = T63_2 x.1.1 x.1.2.1 x.1.2.2.1 := by kernel_rfl
theorem k63_2_ok : Con.LOK Try.prog Try.f63.ntmps l63_2 k63_2 := (loop_ok C63_2_ok (loops_of (l := []) (by kernel_rfl) (show LoopsOK Try.prog Try.f63.ntmps [] LO63_2 from trivial)) i63_2 o63_2).congr fun x => (congrArg (fun T => loopF T x) (funext e63_2)).symm
noncomputable def C63 : Tab := [(82, c82)]
theorem C63_ok : TabOK Try.prog C63 := ⟨c82_ok, trivial⟩
noncomputable def LO63 : Tab := [(2, k63_2)]
noncomputable def i63 : Tm := { sl := [(0, .v (.l (.i .u64))), (1, .v (.l (.i .u64)))], bx := [], bf := [] }
noncomputable def o63 : OT := (.ret { sl := [(0, .v .b)], bx := [], bf := [] })
noncomputable def F63 (a0 : (List Int)) (a1 : (List Int)) : Option ((Bool × Unit) × Unit × Unit) :=
  ((L63_2 a0 a1 0).bind fun y424 => (Sum.elim (fun y425 => (some ((y425.1.1, ()), (), ()))) (fun y425 => (some ((true, ()), (), ()))) y424))
noncomputable def c63 : Con := ⟨i63, o63, fun x => F63 x.1.1 x.1.2.1⟩
theorem e63 (x : i63.E) : vfn Try.prog C63 LO63 Try.f63 b63 i63 o63 x = F63 x.1.1 x.1.2.1 := by kernel_rfl
theorem c63_ok : Con.OK Try.prog 63 c63 := (fn_ok C63_ok (fun _ => rfl) Try.func63 body63 (loops_of (l := [l63_2]) (by kernel_rfl) (show LoopsOK Try.prog Try.f63.ntmps [l63_2] LO63 from ⟨k63_2_ok, trivial⟩)) i63 o63).congr fun x => (e63 x).symm
noncomputable def l54_4 : Code := (.seq (.seq (.region 4 (regOf Try.f54 4) false) (.cond (.tmp 21) .skip (.exit 0))) (.block 1 (.region 5 (regOf Try.f54 5) false)))
noncomputable def b54 : Code := (.seq (.region 0 (regOf Try.f54 0) false) (.seq (.seq (.region 1 (regOf Try.f54 1) false) (.cond (.tmp 13) (.seq (.region 2 (regOf Try.f54 2) false) .ret) .skip)) (.seq (.region 3 (regOf Try.f54 3) false) (.seq (.block 0 (.loop l54_4)) (.seq (.region 6 (regOf Try.f54 6) false) (.seq (.region 7 (regOf Try.f54 7) false) .ret))))))
theorem body54 : Try.f54.body = some b54 := by kernel_rfl
noncomputable def C54_4 : Tab := []
theorem C54_4_ok : TabOK Try.prog C54_4 := trivial
noncomputable def LO54_4 : Tab := []
noncomputable def i54_4 : Tm := { sl := [(1, .v (.i .i64)), (2, .v (.i .u64)), (7, .m (.i .u64) 0)], bx := [[.r (.i .u64)]], bf := [] }
noncomputable def o54_4 : OT := (.exit 0 { sl := [(7, .m (.i .u64) 1)], bx := [[.g], [.r (.i .u64)]], bf := [] })
noncomputable def T54_4 (a1 : Int) (a2 : Int) (b0_0 : (List Int)) : Option (((Int × (Int × (Unit × Unit))) × (((List Int) × Unit) × Unit) × Unit) ⊕ ((Unit × Unit) × ((Unit × Unit) × (((List Int) × Unit) × Unit)) × Unit)) :=
  (bif (decide (((((b0_0).length : Nat) : Int) : Int) ≤ a1)) then (bif (decide ((b0_0).length + ([0]).length < lim)) then (some (.inl ((a1, a2, (), ()), (((b0_0 ++ [0]), ()), ()), ()))) else none) else (some (.inr (((), ()), (((), ()), (b0_0, ()), ()), ()))))
noncomputable def L54_4 (a1 : Int) (a2 : Int) (b0_0 : (List Int)) : Option ((Unit × Unit) × ((Unit × Unit) × (((List Int) × Unit) × Unit)) × Unit) := loopF (fun x : ((Int × (Int × (Unit × Unit))) × (((List Int) × Unit) × Unit) × Unit) => T54_4 x.1.1 x.1.2.1 x.2.1.1.1) ((a1, a2, (), ()), ((b0_0, ()), ()), ())
theorem L54_4_eq (a1 : Int) (a2 : Int) (b0_0 : (List Int)) : L54_4 a1 a2 b0_0 = (T54_4 a1 a2 b0_0).bind (Sum.elim (fun x => L54_4 x.1.1 x.1.2.1 x.2.1.1.1) some) := loopF_eq _ _
noncomputable def k54_4 : Con := ⟨i54_4, o54_4, fun x => L54_4 x.1.1 x.1.2.1 x.2.1.1.1⟩
theorem e54_4 (x : i54_4.E) : vround Try.prog C54_4 LO54_4 Try.f54.ntmps l54_4 i54_4 o54_4 x = T54_4 x.1.1 x.1.2.1 x.2.1.1.1 := by kernel_rfl
theorem k54_4_ok : Con.LOK Try.prog Try.f54.ntmps l54_4 k54_4 := (loop_ok C54_4_ok (loops_of (l := []) (by kernel_rfl) (show LoopsOK Try.prog Try.f54.ntmps [] LO54_4 from trivial)) i54_4 o54_4).congr fun x => (congrArg (fun T => loopF T x) (funext e54_4)).symm
noncomputable def C54 : Tab := [(62, c62), (79, c79h)]
theorem C54_ok : TabOK Try.prog C54 := ⟨c62_ok, c79h_ok, trivial⟩
noncomputable def LO54 : Tab := [(4, k54_4)]
noncomputable def i54 : Tm := { sl := [(0, .v (.l (.i .u64))), (1, .v (.i .i64)), (2, .v (.i .u64))], bx := [], bf := [] }
noncomputable def o54 : OT := (.ret { sl := [(0, .v (.l (.i .u64)))], bx := [], bf := [] })
noncomputable def F54 (a0 : (List Int)) (a1 : Int) (a2 : Int) : Option (((List Int) × Unit) × Unit × Unit) :=
  (bif (decide ((a1 : Int) < 0)) then ((F62 a0).bind fun y426 => (some ((y426.1.1, ()), (), ()))) else (bif (decide ((a1 : Int) ≥ 64)) then ((F62 a0).bind fun y427 => (some ((y427.1.1, ()), (), ()))) else ((F79h a0).bind fun y428 => ((L54_4 a1 a2 y428.2.1.1.1).bind fun y429 => (bif (decide (0 ≤ (a1 : Int) ∧ (a1 : Int) < (((y429.2.1.2.1.1).length : Nat) : Int))) then (bif (decide ((a1 : Int).toNat < (y429.2.1.2.1.1).length)) then ((F62 ((y429.2.1.2.1.1).set (a1 : Int).toNat a2)).bind fun y430 => (some ((y430.1.1, ()), (), ()))) else none) else none)))))
noncomputable def c54 : Con := ⟨i54, o54, fun x => F54 x.1.1 x.1.2.1 x.1.2.2.1⟩
theorem e54 (x : i54.E) : vfn Try.prog C54 LO54 Try.f54 b54 i54 o54 x = F54 x.1.1 x.1.2.1 x.1.2.2.1 := by kernel_rfl
theorem c54_ok : Con.OK Try.prog 54 c54 := (fn_ok C54_ok (fun _ => rfl) Try.func54 body54 (loops_of (l := [l54_4]) (by kernel_rfl) (show LoopsOK Try.prog Try.f54.ntmps [l54_4] LO54 from ⟨k54_4_ok, trivial⟩)) i54 o54).congr fun x => (e54 x).symm
noncomputable def l24_6 : Code := (.seq (.seq (.region 6 (regOf Try.f24 6) false) (.cond (.tmp 26) .skip (.exit 0))) (.seq (.block 1 (.region 8 (regOf Try.f24 8) true)) (.region 7 (regOf Try.f24 7) false)))
noncomputable def b24 : Code := (.seq (.region 0 (regOf Try.f24 0) false) (.seq (.seq (.region 1 (regOf Try.f24 1) false) (.cond (.tmp 7) (.seq (.region 2 (regOf Try.f24 2) false) (.seq (.region 3 (regOf Try.f24 3) false) (.seq (.region 4 (regOf Try.f24 4) false) (.seq (.seq (.region 5 (regOf Try.f24 5) false) (.block 0 (.loop l24_6))) (.seq (.region 9 (regOf Try.f24 9) false) (.cond (.tmp 42) (.region 10 (regOf Try.f24 10) false) .skip)))))) .skip)) (.seq (.region 11 (regOf Try.f24 11) false) .ret)))
theorem body24 : Try.f24.body = some b24 := by kernel_rfl
noncomputable def C24_6 : Tab := [(54, c54), (55, c55)]
theorem C24_6_ok : TabOK Try.prog C24_6 := ⟨c54_ok, c55_ok, trivial⟩
noncomputable def LO24_6 : Tab := []
noncomputable def i24_6 : Tm := { sl := [(2, .p 0 0), (4, .p 1 0), (5, .v (.i .i64))], bx := [[.v (.i .i64), .v (.i .u64), .v (.l (.i .u64)), .v (.i .u64), .v .s], [.v (.i .i64), .v (.i .u64), .v (.l (.i .u64)), .v (.i .u64), .v .s]], bf := [] }
noncomputable def o24_6 : OT := (.exit 0 { sl := [], bx := [[.v (.i .i64), .v (.i .u64), .v (.l (.i .u64)), .v (.i .u64), .v .s], [.v (.i .i64), .v (.i .u64), .v (.l (.i .u64)), .v (.i .u64), .v .s]], bf := [] })
noncomputable def T24_6 (a5 : Int) (b0_0 : Int) (b0_1 : Int) (b0_2 : (List Int)) (b0_3 : Int) (b0_4 : ByteArray) (b1_0 : Int) (b1_1 : Int) (b1_2 : (List Int)) (b1_3 : Int) (b1_4 : ByteArray) : Option (((Unit × (Unit × (Int × Unit))) × (DMf × (DMf × Unit)) × Unit) ⊕ (Unit × (DMf × (DMf × Unit)) × Unit)) :=
  (bif (decide ((a5 : Int) < (((b0_2).length : Nat) : Int))) then ((F55 b0_2 a5).bind fun y433 => ((F54 b0_2 a5 ((y433.1.1 : Int).tmod 4611686018427387904)).bind fun y434 => (some (.inl (((), (), (IntKind.wrap .i64 (a5 + 1)), ()), ((b0_0, b0_1, y434.1.1, b0_3, b0_4, ()), (b1_0, b1_1, b1_2, b1_3, b1_4, ()), ()), ()))))) else (some (.inr ((), ((b0_0, b0_1, b0_2, b0_3, b0_4, ()), (b1_0, b1_1, b1_2, b1_3, b1_4, ()), ()), ()))))
noncomputable def L24_6 (a5 : Int) (b0_0 : Int) (b0_1 : Int) (b0_2 : (List Int)) (b0_3 : Int) (b0_4 : ByteArray) (b1_0 : Int) (b1_1 : Int) (b1_2 : (List Int)) (b1_3 : Int) (b1_4 : ByteArray) : Option (Unit × (DMf × (DMf × Unit)) × Unit) := loopF (fun x : ((Unit × (Unit × (Int × Unit))) × (DMf × (DMf × Unit)) × Unit) => T24_6 x.1.2.2.1 x.2.1.1.1 x.2.1.1.2.1 x.2.1.1.2.2.1 x.2.1.1.2.2.2.1 x.2.1.1.2.2.2.2.1 x.2.1.2.1.1 x.2.1.2.1.2.1 x.2.1.2.1.2.2.1 x.2.1.2.1.2.2.2.1 x.2.1.2.1.2.2.2.2.1) (((), (), a5, ()), ((b0_0, b0_1, b0_2, b0_3, b0_4, ()), (b1_0, b1_1, b1_2, b1_3, b1_4, ()), ()), ())
theorem L24_6_eq (a5 : Int) (b0_0 : Int) (b0_1 : Int) (b0_2 : (List Int)) (b0_3 : Int) (b0_4 : ByteArray) (b1_0 : Int) (b1_1 : Int) (b1_2 : (List Int)) (b1_3 : Int) (b1_4 : ByteArray) : L24_6 a5 b0_0 b0_1 b0_2 b0_3 b0_4 b1_0 b1_1 b1_2 b1_3 b1_4 = (T24_6 a5 b0_0 b0_1 b0_2 b0_3 b0_4 b1_0 b1_1 b1_2 b1_3 b1_4).bind (Sum.elim (fun x => L24_6 x.1.2.2.1 x.2.1.1.1 x.2.1.1.2.1 x.2.1.1.2.2.1 x.2.1.1.2.2.2.1 x.2.1.1.2.2.2.2.1 x.2.1.2.1.1 x.2.1.2.1.2.1 x.2.1.2.1.2.2.1 x.2.1.2.1.2.2.2.1 x.2.1.2.1.2.2.2.2.1) some) := loopF_eq _ _
noncomputable def k24_6 : Con := ⟨i24_6, o24_6, fun x => L24_6 x.1.2.2.1 x.2.1.1.1 x.2.1.1.2.1 x.2.1.1.2.2.1 x.2.1.1.2.2.2.1 x.2.1.1.2.2.2.2.1 x.2.1.2.1.1 x.2.1.2.1.2.1 x.2.1.2.1.2.2.1 x.2.1.2.1.2.2.2.1 x.2.1.2.1.2.2.2.2.1⟩
theorem e24_6 (x : i24_6.E) : vround Try.prog C24_6 LO24_6 Try.f24.ntmps l24_6 i24_6 o24_6 x = T24_6 x.1.2.2.1 x.2.1.1.1 x.2.1.1.2.1 x.2.1.1.2.2.1 x.2.1.1.2.2.2.1 x.2.1.1.2.2.2.2.1 x.2.1.2.1.1 x.2.1.2.1.2.1 x.2.1.2.1.2.2.1 x.2.1.2.1.2.2.2.1 x.2.1.2.1.2.2.2.2.1 := by kernel_rfl
theorem k24_6_ok : Con.LOK Try.prog Try.f24.ntmps l24_6 k24_6 := (loop_ok C24_6_ok (loops_of (l := []) (by kernel_rfl) (show LoopsOK Try.prog Try.f24.ntmps [] LO24_6 from trivial)) i24_6 o24_6).congr fun x => (congrArg (fun T => loopF T x) (funext e24_6)).symm
noncomputable def C24 : Tab := [(16, c16), (54, c54), (55, c55)]
theorem C24_ok : TabOK Try.prog C24 := ⟨c16_ok, c54_ok, c55_ok, trivial⟩
noncomputable def LO24 : Tab := [(6, k24_6)]
noncomputable def i24 : Tm := { sl := [(0, .v tDMf), (1, .v (.i .u8))], bx := [], bf := [] }
noncomputable def o24 : OT := (.ret { sl := [(0, .v tDMf)], bx := [], bf := [] })
noncomputable def F24 (a0 : DMf) (a1 : Int) : Option ((DMf × Unit) × Unit × Unit) :=
  (bif (decide ((a1 : Int) ≥ 64)) then ((L24_6 0 (IntKind.wrap .i64 (((IntKind.wrap .u64 a0.1) : Int).tmod 64)) ((a0.2.1 : Int).tmod 4611686018427387904) a0.2.2.1 ((a0.2.2.2.1 : Int).tmod 4611686018427387904) a0.2.2.2.2.1 0 0 ([] : List Int) 0 ByteArray.empty).bind fun y435 => ((F16 y435.2.1.1.2.2.2.2.1).bind fun y436 => (bif (!y436.1.1) then (some (((y435.2.1.1.1, (y435.2.1.1.2.1, (y435.2.1.1.2.2.1, (y435.2.1.1.2.2.2.1, ((⟨#[]⟩ : ByteArray), ()))))), ()), (), ())) else (some (((y435.2.1.1.1, (y435.2.1.1.2.1, (y435.2.1.1.2.2.1, (y435.2.1.1.2.2.2.1, (y435.2.1.1.2.2.2.2.1, ()))))), ()), (), ()))))) else (some (((a0.1, (a0.2.1, (a0.2.2.1, (a0.2.2.2.1, (a0.2.2.2.2.1, ()))))), ()), (), ())))
noncomputable def c24 : Con := ⟨i24, o24, fun x => F24 x.1.1 x.1.2.1⟩
theorem e24 (x : i24.E) : vfn Try.prog C24 LO24 Try.f24 b24 i24 o24 x = F24 x.1.1 x.1.2.1 := by kernel_rfl
theorem c24_ok : Con.OK Try.prog 24 c24 := (fn_ok C24_ok (fun _ => rfl) Try.func24 body24 (loops_of (l := [l24_6]) (by kernel_rfl) (show LoopsOK Try.prog Try.f24.ntmps [l24_6] LO24 from ⟨k24_6_ok, trivial⟩)) i24 o24).congr fun x => (e24 x).symm
noncomputable def l25_2 : Code := (.seq (.seq (.region 2 (regOf Try.f25 2) false) (.cond (.tmp 8) .skip (.exit 0))) (.seq (.block 1 (.seq (.region 4 (regOf Try.f25 4) false) (.cond (.tmp 16) (.seq (.region 5 (regOf Try.f25 5) false) .ret) .skip))) (.region 3 (regOf Try.f25 3) false)))
noncomputable def b25 : Code := (.seq (.region 0 (regOf Try.f25 0) false) (.seq (.seq (.region 1 (regOf Try.f25 1) false) (.block 0 (.loop l25_2))) (.seq (.region 6 (regOf Try.f25 6) false) .ret)))
theorem body25 : Try.f25.body = some b25 := by kernel_rfl
noncomputable def C25_2 : Tab := []
theorem C25_2_ok : TabOK Try.prog C25_2 := trivial
noncomputable def LO25_2 : Tab := []
noncomputable def i25_2 : Tm := { sl := [(1, .p 0 0), (3, .v (.i .i64))], bx := [[.v (.i .i64), .v (.i .u64), .v (.l (.i .u64)), .v (.i .u64), .v .s]], bf := [] }
noncomputable def o25_2 : OT := (.two (.ret { sl := [(2, .v .b)], bx := [[.v (.i .i64), .v (.i .u64), .v (.l (.i .u64)), .v (.i .u64), .v .s]], bf := [] }) (.exit 0 { sl := [], bx := [[.v (.i .i64), .v (.i .u64), .v (.l (.i .u64)), .v (.i .u64), .v .s]], bf := [] }))
noncomputable def T25_2 (a3 : Int) (b0_0 : Int) (b0_1 : Int) (b0_2 : (List Int)) (b0_3 : Int) (b0_4 : ByteArray) : Option (((Unit × (Int × Unit)) × (DMf × Unit) × Unit) ⊕ (((Bool × Unit) × (DMf × Unit) × Unit) ⊕ (Unit × (DMf × Unit) × Unit))) :=
  (bif (decide ((a3 : Int) < (((b0_2).length : Nat) : Int))) then (bif (decide (0 ≤ (a3 : Int) ∧ (a3 : Int) < (((b0_2).length : Nat) : Int))) then (bif (decide ((((b0_2).getD (a3 : Int).toNat (0 : Int)) : Int) > 9223372036854775807)) then (some (.inr (.inl ((false, ()), ((b0_0, b0_1, b0_2, b0_3, b0_4, ()), ()), ())))) else (some (.inl (((), (IntKind.wrap .i64 (a3 + 1)), ()), ((b0_0, b0_1, b0_2, b0_3, b0_4, ()), ()), ())))) else none) else (some (.inr (.inr ((), ((b0_0, b0_1, b0_2, b0_3, b0_4, ()), ()), ())))))
noncomputable def L25_2 (a3 : Int) (b0_0 : Int) (b0_1 : Int) (b0_2 : (List Int)) (b0_3 : Int) (b0_4 : ByteArray) : Option (((Bool × Unit) × (DMf × Unit) × Unit) ⊕ (Unit × (DMf × Unit) × Unit)) := loopF (fun x : ((Unit × (Int × Unit)) × (DMf × Unit) × Unit) => T25_2 x.1.2.1 x.2.1.1.1 x.2.1.1.2.1 x.2.1.1.2.2.1 x.2.1.1.2.2.2.1 x.2.1.1.2.2.2.2.1) (((), a3, ()), ((b0_0, b0_1, b0_2, b0_3, b0_4, ()), ()), ())
theorem L25_2_eq (a3 : Int) (b0_0 : Int) (b0_1 : Int) (b0_2 : (List Int)) (b0_3 : Int) (b0_4 : ByteArray) : L25_2 a3 b0_0 b0_1 b0_2 b0_3 b0_4 = (T25_2 a3 b0_0 b0_1 b0_2 b0_3 b0_4).bind (Sum.elim (fun x => L25_2 x.1.2.1 x.2.1.1.1 x.2.1.1.2.1 x.2.1.1.2.2.1 x.2.1.1.2.2.2.1 x.2.1.1.2.2.2.2.1) some) := loopF_eq _ _
noncomputable def k25_2 : Con := ⟨i25_2, o25_2, fun x => L25_2 x.1.2.1 x.2.1.1.1 x.2.1.1.2.1 x.2.1.1.2.2.1 x.2.1.1.2.2.2.1 x.2.1.1.2.2.2.2.1⟩
theorem e25_2 (x : i25_2.E) : vround Try.prog C25_2 LO25_2 Try.f25.ntmps l25_2 i25_2 o25_2 x = T25_2 x.1.2.1 x.2.1.1.1 x.2.1.1.2.1 x.2.1.1.2.2.1 x.2.1.1.2.2.2.1 x.2.1.1.2.2.2.2.1 := by kernel_rfl
theorem k25_2_ok : Con.LOK Try.prog Try.f25.ntmps l25_2 k25_2 := (loop_ok C25_2_ok (loops_of (l := []) (by kernel_rfl) (show LoopsOK Try.prog Try.f25.ntmps [] LO25_2 from trivial)) i25_2 o25_2).congr fun x => (congrArg (fun T => loopF T x) (funext e25_2)).symm
noncomputable def C25 : Tab := [(16, c16)]
theorem C25_ok : TabOK Try.prog C25 := ⟨c16_ok, trivial⟩
noncomputable def LO25 : Tab := [(2, k25_2)]
noncomputable def i25 : Tm := { sl := [(0, .v tDMf)], bx := [], bf := [] }
noncomputable def o25 : OT := (.ret { sl := [(0, .v .b)], bx := [], bf := [] })
noncomputable def F25 (a0 : DMf) : Option ((Bool × Unit) × Unit × Unit) :=
  ((L25_2 0 a0.1 a0.2.1 a0.2.2.1 a0.2.2.2.1 a0.2.2.2.2.1).bind fun y437 => (Sum.elim (fun y438 => (some ((y438.1.1, ()), (), ()))) (fun y438 => (bif (decide ((y438.2.1.1.1 : Int) ≥ 0)) then (bif (decide ((y438.2.1.1.1 : Int) < 64)) then (bif (decide ((y438.2.1.1.2.1 : Int) ≤ 9223372036854775807)) then (bif (decide ((y438.2.1.1.2.2.2.1 : Int) ≤ 9223372036854775807)) then (bif (decide (((((y438.2.1.1.2.2.1).length : Nat) : Int) : Int) ≤ 64)) then (bif ((y438.2.1.1.2.2.2.2.1 : ByteArray).toList == ((⟨#[]⟩ : ByteArray) : ByteArray).toList) then (some ((true, ()), (), ())) else ((F16 y438.2.1.1.2.2.2.2.1).bind fun y439 => (some ((y439.1.1, ()), (), ())))) else (some ((false, ()), (), ()))) else (some ((false, ()), (), ()))) else (some ((false, ()), (), ()))) else (some ((false, ()), (), ()))) else (some ((false, ()), (), ())))) y437))
noncomputable def c25 : Con := ⟨i25, o25, fun x => F25 x.1.1⟩
theorem e25 (x : i25.E) : vfn Try.prog C25 LO25 Try.f25 b25 i25 o25 x = F25 x.1.1 := by kernel_rfl
theorem c25_ok : Con.OK Try.prog 25 c25 := (fn_ok C25_ok (fun _ => rfl) Try.func25 body25 (loops_of (l := [l25_2]) (by kernel_rfl) (show LoopsOK Try.prog Try.f25.ntmps [l25_2] LO25 from ⟨k25_2_ok, trivial⟩)) i25 o25).congr fun x => (e25 x).symm
noncomputable def b30 : Code := (.seq (.region 0 (regOf Try.f30 0) false) (.seq (.region 1 (regOf Try.f30 1) false) .ret))
theorem body30 : Try.f30.body = some b30 := by kernel_rfl
noncomputable def C30 : Tab := [(63, c63)]
theorem C30_ok : TabOK Try.prog C30 := ⟨c63_ok, trivial⟩
noncomputable def LO30 : Tab := []
noncomputable def i30 : Tm := { sl := [(0, .v tDMf), (1, .v tDMf)], bx := [], bf := [] }
noncomputable def o30 : OT := (.ret { sl := [(0, .v .b)], bx := [], bf := [] })
noncomputable def F30 (a0 : DMf) (a1 : DMf) : Option ((Bool × Unit) × Unit × Unit) :=
  (bif ((a0.1 : Int) == a1.1) then (bif ((a0.2.1 : Int) == a1.2.1) then (bif ((a0.2.2.2.1 : Int) == a1.2.2.2.1) then (bif ((a0.2.2.2.2.1 : ByteArray).toList == (a1.2.2.2.2.1 : ByteArray).toList) then ((F63 a0.2.2.1 a1.2.2.1).bind fun y440 => (some ((y440.1.1, ()), (), ()))) else (some ((false, ()), (), ()))) else (some ((false, ()), (), ()))) else (some ((false, ()), (), ()))) else (some ((false, ()), (), ())))
noncomputable def c30 : Con := ⟨i30, o30, fun x => F30 x.1.1 x.1.2.1⟩
theorem e30 (x : i30.E) : vfn Try.prog C30 LO30 Try.f30 b30 i30 o30 x = F30 x.1.1 x.1.2.1 := by kernel_rfl
theorem c30_ok : Con.OK Try.prog 30 c30 := (fn_ok C30_ok (fun _ => rfl) Try.func30 body30 (loops_of (l := []) (by kernel_rfl) (show LoopsOK Try.prog Try.f30.ntmps [] LO30 from trivial)) i30 o30).congr fun x => (e30 x).symm
noncomputable def b21 : Code := (.seq (.region 0 (regOf Try.f21 0) false) (.seq (.region 1 (regOf Try.f21 1) true) (.seq (.region 2 (regOf Try.f21 2) true) .ret)))
theorem body21 : Try.f21.body = some b21 := by kernel_rfl
noncomputable def C21 : Tab := [(51, c51), (52, c52), (53, c53)]
theorem C21_ok : TabOK Try.prog C21 := ⟨c51_ok, c52_ok, c53_ok, trivial⟩
noncomputable def LO21 : Tab := []
noncomputable def i21 : Tm := { sl := [(0, .v tDMf)], bx := [], bf := [] }
noncomputable def o21 : OT := (.ret { sl := [(0, .o 0)], bx := [], bf := [(.i .u8)] })
noncomputable def F21 (a0 : DMf) : Option ((Unit × Unit) × Unit × ((List Int) × Unit)) :=
  ((F51 (IntKind.wrap .u64 a0.1) ([] : List Int)).bind fun y441 => ((F51 a0.2.1 y441.2.2.1).bind fun y442 => ((F53 a0.2.2.1 y442.2.2.1).bind fun y443 => ((F51 a0.2.2.2.1 y443.2.2.1).bind fun y444 => ((F52 (bytesL a0.2.2.2.2.1) y444.2.2.1).bind fun y445 => (some (((), ()), (), (y445.2.2.1, ()))))))))
noncomputable def c21 : Con := ⟨i21, o21, fun x => F21 x.1.1⟩
theorem e21 (x : i21.E) : vfn Try.prog C21 LO21 Try.f21 b21 i21 o21 x = F21 x.1.1 := by kernel_rfl
theorem c21_ok : Con.OK Try.prog 21 c21 := (fn_ok C21_ok (fun _ => rfl) Try.func21 body21 (loops_of (l := []) (by kernel_rfl) (show LoopsOK Try.prog Try.f21.ntmps [] LO21 from trivial)) i21 o21).congr fun x => (e21 x).symm
noncomputable def b29 : Code := (.seq (.region 0 (regOf Try.f29 0) false) (.seq (.region 1 (regOf Try.f29 1) false) (.seq (.region 2 (regOf Try.f29 2) false) (.seq (.region 3 (regOf Try.f29 3) false) (.seq (.region 4 (regOf Try.f29 4) false) (.seq (.seq (.region 5 (regOf Try.f29 5) true) (.cond (.tmp 41) (.seq (.region 6 (regOf Try.f29 6) false) .ret) .skip)) (.seq (.region 7 (regOf Try.f29 7) false) .ret)))))))
theorem body29 : Try.f29.body = some b29 := by kernel_rfl
noncomputable def C29 : Tab := [(16, c16), (57, c57), (58, c58), (59, c59), (60, c60), (61, c61), (62, c62)]
theorem C29_ok : TabOK Try.prog C29 := ⟨c16_ok, c57_ok, c58_ok, c59_ok, c60_ok, c61_ok, c62_ok, trivial⟩
noncomputable def LO29 : Tab := []
noncomputable def i29 : Tm := { sl := [(0, .v (.l (.i .u8)))], bx := [], bf := [] }
noncomputable def o29 : OT := (.ret { sl := [(0, .v tDMf), (1, .v (.i .i64))], bx := [], bf := [] })
noncomputable def F29 (a0 : (List Int)) : Option ((DMf × (Int × Unit)) × Unit × Unit) :=
  ((F57 a0).bind fun y446 => ((F58 63 y446.2.1.1.1).bind fun y447 => (Sum.elim (fun y448 => ((F58 9223372036854775807 y448.2.1.1.1).bind fun y449 => (Sum.elim (fun y450 => ((F59 y450.2.1.1.1).bind fun y451 => (Sum.elim (fun y452 => ((F58 9223372036854775807 y452.2.1.1.1).bind fun y453 => (Sum.elim (fun y454 => ((F60 48 y454.2.1.1.1).bind fun y455 => (Sum.elim (fun y456 => ((F61 y456.2.1.1.1).bind fun y457 => (Sum.elim (fun y458 => ((F62 y452.1.1).bind fun y459 => (bif (((((y459.1.1).length : Nat) : Int) : Int) != (((y452.1.1).length : Nat) : Int)) then (some (((0, (0, (([] : List Int), (0, (ByteArray.empty, ()))))), 4, ()), (), ())) else (bif (!(((strL y456.1.1) : ByteArray).toList == ((⟨#[]⟩ : ByteArray) : ByteArray).toList)) then ((F16 (strL y456.1.1)).bind fun y460 => (bif (!y460.1.1) then (some (((0, (0, (([] : List Int), (0, (ByteArray.empty, ()))))), 4, ()), (), ())) else (some ((((IntKind.wrap .i64 y448.1.1), (y450.1.1, (y452.1.1, (y454.1.1, ((strL y456.1.1), ()))))), 0, ()), (), ())))) else (some ((((IntKind.wrap .i64 y448.1.1), (y450.1.1, (y452.1.1, (y454.1.1, ((strL y456.1.1), ()))))), 0, ()), (), ())))))) (fun y458 => (some (((0, (0, (([] : List Int), (0, (ByteArray.empty, ()))))), y458.1, ()), (), ()))) y457))) (fun y456 => (some (((0, (0, (([] : List Int), (0, (ByteArray.empty, ()))))), y456.1, ()), (), ()))) y455))) (fun y454 => (some (((0, (0, (([] : List Int), (0, (ByteArray.empty, ()))))), y454.1, ()), (), ()))) y453))) (fun y452 => (some (((0, (0, (([] : List Int), (0, (ByteArray.empty, ()))))), y452.1, ()), (), ()))) y451))) (fun y450 => (some (((0, (0, (([] : List Int), (0, (ByteArray.empty, ()))))), y450.1, ()), (), ()))) y449))) (fun y448 => (some (((0, (0, (([] : List Int), (0, (ByteArray.empty, ()))))), y448.1, ()), (), ()))) y447)))
noncomputable def c29 : Con := ⟨i29, o29, fun x => F29 x.1.1⟩
theorem e29 (x : i29.E) : vfn Try.prog C29 LO29 Try.f29 b29 i29 o29 x = F29 x.1.1 := by kernel_rfl
theorem c29_ok : Con.OK Try.prog 29 c29 := (fn_ok C29_ok (fun _ => rfl) Try.func29 body29 (loops_of (l := []) (by kernel_rfl) (show LoopsOK Try.prog Try.f29.ntmps [] LO29 from trivial)) i29 o29).congr fun x => (e29 x).symm
noncomputable def l6_15 : Code := (.seq (.region 15 (regOf Try.f6 15) false) (.seq (.cond (.tmp 110) .skip (.exit 0)) (.seq (.block 1 (.seq (.region 16 (regOf Try.f6 16) false) (.seq (.region 17 (regOf Try.f6 17) false) (.seq (.region 18 (regOf Try.f6 18) true) (.cond (.tmp 141) (.seq (.region 19 (regOf Try.f6 19) false) .ret) .skip))))) (.region 20 (regOf Try.f6 20) false))))
noncomputable def b6 : Code := (.seq (.region 0 (regOf Try.f6 0) false) (.seq (.seq (.region 1 (regOf Try.f6 1) false) (.cond (.tmp 38) (.seq (.region 2 (regOf Try.f6 2) false) .ret) .skip)) (.seq (.region 3 (regOf Try.f6 3) false) (.seq (.seq (.region 4 (regOf Try.f6 4) false) (.cond (.tmp 45) (.seq (.region 5 (regOf Try.f6 5) false) .ret) .skip)) (.seq (.region 6 (regOf Try.f6 6) false) (.seq (.region 7 (regOf Try.f6 7) true) (.seq (.region 8 (regOf Try.f6 8) true) (.seq (.region 9 (regOf Try.f6 9) false) (.seq (.seq (.region 10 (regOf Try.f6 10) false) (.cond (.tmp 85) (.seq (.region 11 (regOf Try.f6 11) false) .ret) .skip)) (.seq (.region 12 (regOf Try.f6 12) false) (.seq (.region 13 (regOf Try.f6 13) true) (.seq (.seq (.region 14 (regOf Try.f6 14) false) (.block 0 (.loop l6_15))) (.seq (.region 21 (regOf Try.f6 21) false) .ret)))))))))))))
theorem body6 : Try.f6.body = some b6 := by kernel_rfl
noncomputable def C6_15 : Tab := [(21, c21), (25, c25), (29, c29), (900087, cHot), (800107, cHot)]
theorem C6_15_ok : TabOK Try.prog C6_15 := ⟨c21_ok, c25_ok, c29_ok, cHot_ok, cHot_ok, trivial⟩
noncomputable def LO6_15 : Tab := []
noncomputable def i6_15 : Tm := { sl := [(107, .v (.l (.l (.i .u8)))), (108, .v (.i .i64)), (109, .v (.i .i64))], bx := [], bf := [] }
noncomputable def o6_15 : OT := (.two (.ret { sl := [(10, .v .b)], bx := [], bf := [] }) (.exit 0 { sl := [], bx := [], bf := [] }))
noncomputable def T6_15 (a107 : (List (List Int))) (a108 : Int) (a109 : Int) : Option ((((List (List Int)) × (Int × (Int × Unit))) × Unit × Unit) ⊕ (((Bool × Unit) × Unit × Unit) ⊕ (Unit × Unit × Unit))) :=
  (bif (decide ((a109 : Int) < a108)) then (bif (decide (0 ≤ (a109 : Int) ∧ (a109 : Int) < (((a107).length : Nat) : Int))) then ((F29 ((a107).getD (a109 : Int).toNat [])).bind fun y479 => (bif ((y479.1.2.1 : Int) == 0) then ((F21 (y479.1.1.1, (y479.1.1.2.1, (y479.1.1.2.2.1, (y479.1.1.2.2.2.1, (y479.1.1.2.2.2.2.1, ())))))).bind fun y480 => (bif (!(((strL y480.2.2.1) : ByteArray).toList == ((strL ((a107).getD (a109 : Int).toNat [])) : ByteArray).toList)) then (some (.inr (.inl ((false, ()), (), ())))) else ((F25 (y479.1.1.1, (y479.1.1.2.1, (y479.1.1.2.2.1, (y479.1.1.2.2.2.1, (y479.1.1.2.2.2.2.1, ())))))).bind fun y481 => (bif (!y481.1.1) then (some (.inr (.inl ((false, ()), (), ())))) else (bif ((y479.1.2.1 : Int) != 0) then (bif ((y479.1.1.1 : Int) != 0) then (some (.inr (.inl ((false, ()), (), ())))) else (some (.inl ((a107, a108, (IntKind.wrap .i64 (a109 + 1)), ()), (), ())))) else (some (.inl ((a107, a108, (IntKind.wrap .i64 (a109 + 1)), ()), (), ())))))))) else (bif ((y479.1.2.1 : Int) != 0) then (bif ((y479.1.1.1 : Int) != 0) then (some (.inr (.inl ((false, ()), (), ())))) else (some (.inl ((a107, a108, (IntKind.wrap .i64 (a109 + 1)), ()), (), ())))) else (some (.inl ((a107, a108, (IntKind.wrap .i64 (a109 + 1)), ()), (), ())))))) else none) else (some (.inr (.inr ((), (), ())))))
noncomputable def L6_15 (a107 : (List (List Int))) (a108 : Int) (a109 : Int) : Option (((Bool × Unit) × Unit × Unit) ⊕ (Unit × Unit × Unit)) := loopF (fun x : (((List (List Int)) × (Int × (Int × Unit))) × Unit × Unit) => T6_15 x.1.1 x.1.2.1 x.1.2.2.1) ((a107, a108, a109, ()), (), ())
theorem L6_15_eq (a107 : (List (List Int))) (a108 : Int) (a109 : Int) : L6_15 a107 a108 a109 = (T6_15 a107 a108 a109).bind (Sum.elim (fun x => L6_15 x.1.1 x.1.2.1 x.1.2.2.1) some) := loopF_eq _ _
noncomputable def k6_15 : Con := ⟨i6_15, o6_15, fun x => L6_15 x.1.1 x.1.2.1 x.1.2.2.1⟩
theorem e6_15 (x : i6_15.E) : vround Try.prog C6_15 LO6_15 Try.f6.ntmps l6_15 i6_15 o6_15 x = T6_15 x.1.1 x.1.2.1 x.1.2.2.1 := by kernel_rfl
theorem k6_15_ok : Con.LOK Try.prog Try.f6.ntmps l6_15 k6_15 := (loop_ok C6_15_ok (loops_of (l := []) (by kernel_rfl) (show LoopsOK Try.prog Try.f6.ntmps [] LO6_15 from trivial)) i6_15 o6_15).congr fun x => (congrArg (fun T => loopF T x) (funext e6_15)).symm
noncomputable def C6 : Tab := [(14, c14), (21, c21), (24, c24), (25, c25), (26, c26), (27, c27), (28, c28), (29, c29), (30, c30), (900087, cHot), (800107, cHot)]
theorem C6_ok : TabOK Try.prog C6 := ⟨c14_ok, c21_ok, c24_ok, c25_ok, c26_ok, c27_ok, c28_ok, c29_ok, c30_ok, cHot_ok, cHot_ok, trivial⟩
noncomputable def LO6 : Tab := [(15, k6_15)]
noncomputable def i6 : Tm := { sl := [(0, .v tDMf), (1, .v (.i .u8)), (2, .v (.l (.i .u8))), (3, .v (.i .u16)), (4, .v (.i .u8))], bx := [], bf := [] }
noncomputable def o6 : OT := (.ret { sl := [(0, .v .b)], bx := [], bf := [] })
noncomputable def F6 (a0 : DMf) (a1 : Int) (a2 : (List Int)) (a3 : Int) (a4 : Int) : Option ((Bool × Unit) × Unit × Unit) :=
  ((F14).bind fun y461 => (bif (!y461.1.1) then ((F14).bind fun y462 => (some ((y462.1.1, ()), (), ()))) else (bif (decide (((((a0.2.2.1).length : Nat) : Int) : Int) > 64)) then ((F14).bind fun y463 => (some ((y463.1.1, ()), (), ()))) else (bif (decide ((((a0.2.2.2.2.1.size : Nat) : Int) : Int) > 60)) then ((F14).bind fun y464 => (some ((y464.1.1, ()), (), ()))) else (bif (decide (((((a2).length : Nat) : Int) : Int) > 300)) then ((F14).bind fun y465 => (some ((y465.1.1, ()), (), ()))) else ((F24 (a0.1, (a0.2.1, (a0.2.2.1, (a0.2.2.2.1, (a0.2.2.2.2.1, ()))))) a1).bind fun y466 => ((F25 (y466.1.1.1, (y466.1.1.2.1, (y466.1.1.2.2.1, (y466.1.1.2.2.2.1, (y466.1.1.2.2.2.2.1, ())))))).bind fun y467 => (bif (!y467.1.1) then (some ((true, ()), (), ())) else ((F21 (y466.1.1.1, (y466.1.1.2.1, (y466.1.1.2.2.1, (y466.1.1.2.2.2.1, (y466.1.1.2.2.2.2.1, ())))))).bind fun y468 => ((F26 ([] : List Int) (IntKind.wrap .u64 y466.1.1.1)).bind fun y469 => ((F26 y469.2.2.1 y466.1.1.2.1).bind fun y470 => ((F28 y470.2.2.1 y466.1.1.2.2.1).bind fun y471 => ((F26 y471.2.2.1 y466.1.1.2.2.2.1).bind fun y472 => ((F27 y472.2.2.1 (bytesL y466.1.1.2.2.2.2.1)).bind fun y473 => ((F29 y468.2.2.1).bind fun y474 => (bif (!(((strL y468.2.2.1) : ByteArray).toList == ((strL y473.2.2.1) : ByteArray).toList)) then (some ((false, ()), (), ())) else (bif ((y474.1.2.1 : Int) != 0) then (some ((false, ()), (), ())) else ((F30 (y474.1.1.1, (y474.1.1.2.1, (y474.1.1.2.2.1, (y474.1.1.2.2.2.1, (y474.1.1.2.2.2.2.1, ()))))) (y466.1.1.1, (y466.1.1.2.1, (y466.1.1.2.2.1, (y466.1.1.2.2.2.1, (y466.1.1.2.2.2.2.1, ())))))).bind fun y475 => (bif (!y475.1.1) then (some ((false, ()), (), ())) else (bif (decide ((y468.2.2.1).length < lim)) then (bif (decide (((((y468.2.2.1).length : Nat) : Int) : Int) ≠ 0)) then (bif (decide (((((y468.2.2.1).length : Nat) : Int) : Int) ≠ 0)) then (bif (decide (0 ≤ ((((IntKind.wrap .i64 a3) : Int).tmod (((y468.2.2.1).length : Nat) : Int)) : Int) ∧ ((((IntKind.wrap .i64 a3) : Int).tmod (((y468.2.2.1).length : Nat) : Int)) : Int) < (((y468.2.2.1).length : Nat) : Int))) then (bif (decide (((((IntKind.wrap .i64 a3) : Int).tmod (((y468.2.2.1).length : Nat) : Int)) : Int).toNat < (y468.2.2.1).length)) then (bif (decide (0 ≤ ((((IntKind.wrap .i64 a3) : Int).tmod (((y468.2.2.1).length : Nat) : Int)) : Int) ∧ ((((IntKind.wrap .i64 a3) : Int).tmod (((y468.2.2.1).length : Nat) : Int)) : Int) < (((y468.2.2.1).length : Nat) : Int))) then (bif (decide (((((IntKind.wrap .i64 a3) : Int).tmod (((y468.2.2.1).length : Nat) : Int)) : Int).toNat < (y468.2.2.1).length)) then ((L6_15 [a2, ((y468.2.2.1).set ((((IntKind.wrap .i64 a3) : Int).tmod (((y468.2.2.1).length : Nat) : Int)) : Int).toNat (iXor .u8 ((y468.2.2.1).getD ((((IntKind.wrap .i64 a3) : Int).tmod (((y468.2.2.1).length : Nat) : Int)) : Int).toNat (0 : Int)) a4))] ((([a2, ((y468.2.2.1).set ((((IntKind.wrap .i64 a3) : Int).tmod (((y468.2.2.1).length : Nat) : Int)) : Int).toNat (iXor .u8 ((y468.2.2.1).getD ((((IntKind.wrap .i64 a3) : Int).tmod (((y468.2.2.1).length : Nat) : Int)) : Int).toNat (0 : Int)) a4))]).length : Nat) : Int) 0).bind fun y482 => (Sum.elim (fun y483 => (some ((y483.1.1, ()), (), ()))) (fun y483 => (some ((true, ()), (), ()))) y482)) else none) else none) else none) else none) else none) else none) else none))))))))))))))))))))
noncomputable def c6 : Con := ⟨i6, o6, fun x => F6 x.1.1 x.1.2.1 x.1.2.2.1 x.1.2.2.2.1 x.1.2.2.2.2.1⟩
theorem e6 (x : i6.E) : vfn Try.prog C6 LO6 Try.f6 b6 i6 o6 x = F6 x.1.1 x.1.2.1 x.1.2.2.1 x.1.2.2.2.1 x.1.2.2.2.2.1 := by kernel_rfl
theorem c6_ok : Con.OK Try.prog 6 c6 := (fn_ok C6_ok (fun _ => rfl) Try.func6 body6 (loops_of (l := [l6_15]) (by kernel_rfl) (show LoopsOK Try.prog Try.f6.ntmps [l6_15] LO6 from ⟨k6_15_ok, trivial⟩)) i6 o6).congr fun x => (e6 x).symm
end Go.IM.V
set_option linter.unusedSimpArgs false
namespace Go.IM.V
open Go Go.IM Go.Proofs
def isEmp (s : ByteArray) : Bool := s.toList == (⟨#[]⟩ : ByteArray).toList
def nmd (s : ByteArray) : Bool := (!(isEmp s)) && decide (((s.size : Nat) : Int) ≤ 48) && !(decide (idx (hasBadF s (s.size + 1) 0) ≥ 0))
theorem F16_eq (s : ByteArray) : F16 s = some (r1 (nmd s)) := by
  unfold F16 F40 F76 F91 nmd isEmp
  simp only [cond_true, Option.bind_some]
  cases (s.toList == (⟨#[]⟩ : ByteArray).toList) <;> cases decide (((s.size : Nat) : Int) ≤ 48) <;> rfl
theorem nmd_le {s : ByteArray} (h : nmd s = true) : s.size ≤ 48 := by
  unfold nmd at h
  simp only [Bool.and_eq_true, decide_eq_true_eq] at h
  have := h.1.2
  omega
structure MOK (m : DMf) : Prop where
  n0 : 0 ≤ m.1
  n1 : m.1 ≤ 63
  s0 : 0 ≤ m.2.1
  s1 : m.2.1 ≤ 9223372036854775807
  f : Sml m.2.2.1
  fl : m.2.2.1.length ≤ 64
  t0 : 0 ≤ m.2.2.2.1
  t1 : m.2.2.2.1 ≤ 9223372036854775807
  d : isEmp m.2.2.2.2.1 = true ∨ nmd m.2.2.2.2.1 = true
structure MTy (m : DMf) : Prop where
  s0 : 0 ≤ m.2.1
  s1 : m.2.1 < 18446744073709551616
  f : Vok m.2.2.1
  fl : m.2.2.1.length ≤ 64
  t0 : 0 ≤ m.2.2.2.1
  t1 : m.2.2.2.1 < 18446744073709551616
theorem L25_run (n s t : Int) (v : List Int) (fd : ByteArray) (hl : v.length ≤ 64) : ∀ (d k : Nat), k + d = v.length →
    L25_2 (k : Nat) n s v t fd = some (if ∀ x ∈ v.drop k, x ≤ 9223372036854775807 then .inr ((), ((n, s, v, t, fd, ()), ()), ()) else .inl ((false, ()), ((n, s, v, t, fd, ()), ()), ())) := by
  intro d
  induction d with
  | zero =>
    intro k hk
    rw [L25_2_eq]
    unfold T25_2
    rw [decide_eq_false (by omega), List.drop_eq_nil_of_le (by omega)]
    simp
  | succ d ih =>
    intro k hk
    have hlt : k < v.length := by omega
    have hg : v.getD (k : Int).toNat 0 = v[k] := by rw [Int.toNat_natCast, List.getD_eq_getElem?_getD, List.getElem?_eq_getElem hlt]; rfl
    rw [L25_2_eq]
    unfold T25_2
    rw [decide_eq_true (show (k : Int) < ((v.length : Nat) : Int) by omega), decide_eq_true (show 0 ≤ (k : Int) ∧ (k : Int) < ((v.length : Nat) : Int) by omega), hg]
    simp only [cond_true]
    rw [List.drop_eq_getElem_cons hlt]
    by_cases hx : v[k] > 9223372036854775807
    · rw [decide_eq_true hx]
      simp only [cond_true, Option.bind_some, Sum.elim_inr]
      rw [if_neg (by intro q; have := q v[k] (List.mem_cons_self ..); omega)]
    · rw [decide_eq_false hx]
      simp only [cond_false, Option.bind_some, Sum.elim_inl]
      rw [show IntKind.wrap .i64 ((k : Int) + 1) = ((k + 1 : Nat) : Int) by rw [w64 (by omega) (by omega)]; omega, ih (k + 1) (by omega)]
      congr 1
      by_cases hq : ∀ x ∈ v.drop (k + 1), x ≤ 9223372036854775807
      · rw [if_pos hq, if_pos (by intro x hxx; rcases List.mem_cons.1 hxx with rfl | hxx; · omega
                                  · exact hq x hxx)]
      · rw [if_neg hq, if_neg (by intro q; exact hq fun x hxx => q x (List.mem_cons_of_mem _ hxx))]
theorem F25_eq (m : DMf) (h : MTy m) : ∃ b, F25 m = some (r1 b) ∧ (b = true ↔ MOK m) := by
  have hr := L25_run m.1 m.2.1 m.2.2.2.1 m.2.2.1 m.2.2.2.2.1 h.fl m.2.2.1.length 0 (by omega)
  unfold F25
  rw [show ((0 : Nat) : Int) = 0 from rfl] at hr
  rw [hr]
  by_cases hq : ∀ x ∈ m.2.2.1.drop 0, x ≤ 9223372036854775807
  · rw [if_pos hq]
    simp only [Option.bind_some, Sum.elim_inr]
    rw [F16_eq]
    have hf : Sml m.2.2.1 := fun x hx => ⟨(h.f x hx).1, hq x (by simpa using hx)⟩
    by_cases h1 : m.1 ≥ 0
    · rw [decide_eq_true h1]
      by_cases h2 : m.1 < 64
      · rw [decide_eq_true h2]
        by_cases h3 : m.2.1 ≤ 9223372036854775807
        · rw [decide_eq_true h3]
          by_cases h4 : m.2.2.2.1 ≤ 9223372036854775807
          · rw [decide_eq_true h4, decide_eq_true (show ((m.2.2.1.length : Nat) : Int) ≤ 64 by have := h.fl; omega)]
            simp only [cond_true, Option.bind_some]
            cases he : ((m.2.2.2.2.1 : ByteArray).toList == ((⟨#[]⟩ : ByteArray) : ByteArray).toList) with
            | true => exact ⟨true, rfl, fun _ => ⟨h1, by omega, h.s0, h3, hf, h.fl, h.t0, h4, .inl he⟩, fun _ => rfl⟩
            | false => exact ⟨_, rfl, fun q => ⟨h1, by omega, h.s0, h3, hf, h.fl, h.t0, h4, .inr q⟩, fun q => by
                rcases q.d with q | q
                · unfold isEmp at q; rw [he] at q; cases q
                · exact q⟩
          · rw [decide_eq_false h4]; exact ⟨false, rfl, fun q => (by cases q), fun q => absurd q.t1 h4⟩
        · rw [decide_eq_false h3]; exact ⟨false, rfl, fun q => (by cases q), fun q => absurd q.s1 h3⟩
      · rw [decide_eq_false h2]; exact ⟨false, rfl, fun q => (by cases q), fun q => by have := q.n1; omega⟩
    · rw [decide_eq_false h1]; exact ⟨false, rfl, fun q => (by cases q), fun q => absurd q.n0 h1⟩
  · rw [if_neg hq]
    exact ⟨false, rfl, fun q => (by cases q), fun q => absurd (fun x hx => (q.f x (by simpa using hx)).2) hq⟩
theorem F79h_eq (v : List Int) (h0 : 0 < v.length) (hl : v.length < 2 ^ 39) : F79h v = some (((), ()), (((v, ()), ()), ())) := by
  unfold F79h F79b nilBr
  rw [decide_eq_true h0, decide_eq_true (show (([] : List Int)).length + v.length < lim by unfold lim; simp; omega)]
  cases v with
  | nil => cases h0
  | cons a l => rfl
theorem F54_eq (v : List Int) (k : Nat) (x : Int) (hk : k < v.length) (hl : v.length ≤ 64) : F54 v (k : Int) x = some (r1 (trim (v.set k x))) := by
  unfold F54
  rw [decide_eq_false (show ¬ (k : Int) < 0 by omega), decide_eq_false (show ¬ (k : Int) ≥ 64 by omega), F79h_eq v (by omega) (by omega)]
  simp only [cond_false, Option.bind_some]
  have hL : L54_4 (k : Int) x v = some (((), ()), (((), ()), (v, ()), ()), ()) := by
    rw [L54_4_eq]
    unfold T54_4
    rw [decide_eq_false (show ¬ ((v.length : Nat) : Int) ≤ (k : Int) by omega)]
    rfl
  rw [hL]
  simp only [Option.bind_some]
  rw [decide_eq_true (show 0 ≤ (k : Int) ∧ (k : Int) < ((v.length : Nat) : Int) by omega), decide_eq_true (show (k : Int).toNat < v.length by omega)]
  simp only [cond_true, Int.toNat_natCast]
  rw [F62_eq _ (by rw [List.length_set]; omega)]
  rfl
theorem Vok.set {v : List Int} (h : Vok v) {x : Int} (hx : 0 ≤ x ∧ x < 18446744073709551616) (k : Nat) : Vok (v.set k x) := fun y hy => by
  rcases List.mem_or_eq_of_mem_set hy with q | q
  · exact h y q
  · rw [q]; exact hx
theorem Vok.trim {v : List Int} (h : Vok v) : Vok (trim v) := fun x hx => h x (trim_sub v x hx)
theorem L24_run (n s t : Int) (fd : ByteArray) (n' s' t' : Int) (v' : List Int) (fd' : ByteArray) : ∀ (d k : Nat) (v : List Int), k + d = 65 → v.length ≤ 64 → Vok v →
    ∃ w, L24_6 (k : Nat) n s v t fd n' s' v' t' fd' = some ((), ((n, s, w, t, fd, ()), ((n', s', v', t', fd', ()), ())), ()) ∧ w.length ≤ 64 ∧ Vok w := by
  intro d
  induction d with
  | zero =>
    intro k v hk hl hv
    rw [L24_6_eq]
    unfold T24_6
    rw [decide_eq_false (show ¬ (k : Int) < ((v.length : Nat) : Int) by omega)]
    exact ⟨v, rfl, hl, hv⟩
  | succ d ih =>
    intro k v hk hl hv
    rw [L24_6_eq]
    unfold T24_6
    by_cases h : (k : Int) < ((v.length : Nat) : Int)
    · rw [decide_eq_true h, F55_nat]
      simp only [cond_true, Option.bind_some]
      rw [F54_eq v k _ (by omega) hl]
      simp only [Option.bind_some, Sum.elim_inl]
      rw [show IntKind.wrap .i64 ((k : Int) + 1) = ((k + 1 : Nat) : Int) by rw [w64 (by omega) (by omega)]; omega]
      have hg := hv.gv k
      have hm : 0 ≤ (gv v k).tmod 4611686018427387904 ∧ (gv v k).tmod 4611686018427387904 < 18446744073709551616 := by
        rw [Int.tmod_eq_emod_of_nonneg hg.1]; omega
      refine ih (k + 1) _ (by omega) ?_ ((hv.set hm k).trim)
      have := trim_le (v.set k ((gv v k).tmod 4611686018427387904))
      rw [List.length_set] at this
      omega
    · rw [decide_eq_false h]
      exact ⟨v, rfl, hl, hv⟩
theorem F24_eq (m : DMf) (h : MTy m) (how : Int) : ∃ m', F24 m how = some (r1 m') ∧ MTy m' ∧ (m'.2.2.2.2.1 = m.2.2.2.2.1 ∨ m'.2.2.2.2.1 = ⟨#[]⟩) := by
  unfold F24
  by_cases hw : how ≥ 64
  · rw [decide_eq_true hw]
    obtain ⟨w, h1, h2, h3⟩ := L24_run (IntKind.wrap .i64 ((IntKind.wrap .u64 m.1).tmod 64)) (m.2.1.tmod 4611686018427387904) (m.2.2.2.1.tmod 4611686018427387904) m.2.2.2.2.1 0 0 0 ([] : List Int) ByteArray.empty 65 0 m.2.2.1 (by omega) h.fl h.f
    rw [show ((0 : Nat) : Int) = 0 from rfl] at h1
    simp only [cond_true]
    rw [h1]
    simp only [Option.bind_some]
    rw [F16_eq]
    have hs : 0 ≤ m.2.1.tmod 4611686018427387904 ∧ m.2.1.tmod 4611686018427387904 < 18446744073709551616 := by
      rw [Int.tmod_eq_emod_of_nonneg h.s0]; omega
    have ht : 0 ≤ m.2.2.2.1.tmod 4611686018427387904 ∧ m.2.2.2.1.tmod 4611686018427387904 < 18446744073709551616 := by
      rw [Int.tmod_eq_emod_of_nonneg h.t0]; omega
    cases nmd m.2.2.2.2.1 with
    | true => exact ⟨_, rfl, ⟨hs.1, hs.2, h3, h2, ht.1, ht.2⟩, .inl rfl⟩
    | false => exact ⟨_, rfl, ⟨hs.1, hs.2, h3, h2, ht.1, ht.2⟩, .inr rfl⟩
  · rw [decide_eq_false hw]
    exact ⟨m, rfl, h, .inl rfl⟩
def encM (m : DMf) : List Int := dg m.1 ++ dg m.2.1 ++ encV m.2.2.1 ++ dg m.2.2.2.1 ++ dgT (bytesL m.2.2.2.2.1)
theorem encM_len (m : DMf) (h : MOK m) (hd : m.2.2.2.2.1.size ≤ 60) : (encM m).length ≤ 800 := by
  have h1 := dg_len m.1; have h2 := dg_len m.2.1; have h3 := encV_len h.fl; have h4 := dg_len m.2.2.2.1
  have h5 := dgT_len (bytesL m.2.2.2.2.1); rw [bytesL_len] at h5
  unfold encM
  simp only [List.length_append]
  omega
theorem F21_eq (m : DMf) (h : MOK m) (hd : m.2.2.2.2.1.size ≤ 60) : F21 m = some (ro (encM m)) := by
  have h1 := dg_len m.1; have h2 := dg_len m.2.1; have h3 := encV_len h.fl; have h4 := dg_len m.2.2.2.1
  have hfl := h.fl
  have := h.n0; have := h.n1; have := h.s0; have := h.s1; have := h.t0; have := h.t1
  unfold F21
  rw [wu64 (by omega) (by omega), F51_eq m.1 [] (by omega) (by omega) (lt_lim (by simp))]
  simp only [Option.bind_some, List.nil_append]
  rw [F51_eq m.2.1 _ (by omega) (by omega) (lt_lim (by omega))]
  simp only [Option.bind_some]
  rw [F53_eq _ _ h.f.vk (by omega) (lt_lim (by simp only [List.length_append]; omega))]
  simp only [Option.bind_some]
  rw [F51_eq m.2.2.2.1 _ (by omega) (by omega) (lt_lim (by simp only [List.length_append]; omega))]
  simp only [Option.bind_some]
  rw [F52_eq _ _ (by rw [bytesL_len]; omega) (lt_lim (by simp only [List.length_append, bytesL_len]; omega))]
  rfl
end Go.IM.V
namespace Go.IM.V
open Go Go.IM Go.Proofs
abbrev END : Int := 9223372036854775807
abbrev zM : DMf := (0, (0, (([] : List Int), (0, (ByteArray.empty, ())))))
def decM (s : List Int) : DMf ⊕ Int :=
  match tnum 63 s with
  | .inr e => .inr e
  | .inl (n, r1) => match tnum END r1 with
    | .inr e => .inr e
    | .inl (sr, r2) => match rdV r2 with
      | .inr (e, _) => .inr e
      | .inl (l, r3) => match tnum END r3 with
        | .inr e => .inr e
        | .inl (t, r4) => match tkT 48 r4 with
          | .inr e => .inr e
          | .inl (x, r5) => match r5 with
            | _ :: _ => .inr 4
            | [] => if (trim l).length = l.length ∧ (isEmp (strL x) = true ∨ nmd (strL x) = true) then .inl (n, sr, l, t, strL x, ()) else .inr 4
theorem F29_eq (s : List Int) (hb : Bys s) (hl : s.length < 2 ^ 40) : F29 s = some (match decM s with | .inl m => ((m, 0, ()), (), ()) | .inr e => ((zM, e, ()), (), ())) := by
  unfold F29 F57 decM
  simp only [Option.bind_some]
  rw [F58_eq _ _ hb]
  cases h1 : tnum 63 s with
  | inr e => simp only [Option.bind_some, Sum.elim_inr]
  | inl q1 =>
    obtain ⟨n, r1⟩ := q1
    have hb1 := tnum_byte hb h1
    have hl1 := tnum_len hb h1
    obtain ⟨_, n0, _, n1⟩ := tnum_some hb h1
    simp only [Option.bind_some, Sum.elim_inl]
    rw [F58_eq _ _ hb1]
    cases h2 : tnum END r1 with
    | inr e => simp only [Option.bind_some, Sum.elim_inr]
    | inl q2 =>
      obtain ⟨sr, r2⟩ := q2
      have hb2 := tnum_byte hb1 h2
      have hl2 := tnum_len hb1 h2
      simp only [Option.bind_some, Sum.elim_inl]
      rw [F59_eq _ hb2]
      cases h3 : rdV r2 with
      | inr q3 => obtain ⟨e, r⟩ := q3; simp only [Option.bind_some, Sum.elim_inr]
      | inl q3 =>
        obtain ⟨l, r3⟩ := q3
        obtain ⟨_, s3, l3, hb3⟩ := rdV_some hb2 h3
        have hl3 := rdV_len hb2 h3
        simp only [Option.bind_some, Sum.elim_inl]
        rw [F58_eq _ _ hb3]
        cases h4 : tnum END r3 with
        | inr e => simp only [Option.bind_some, Sum.elim_inr]
        | inl q4 =>
          obtain ⟨t, r4⟩ := q4
          have hb4 := tnum_byte hb3 h4
          have hl4 := tnum_len hb3 h4
          simp only [Option.bind_some, Sum.elim_inl]
          rw [F60_eq _ _ hb4 (by omega) (by unfold lim; decide)]
          cases h5 : tkT 48 r4 with
          | inr e => simp only [Option.bind_some, Sum.elim_inr]
          | inl q5 =>
            obtain ⟨x, r5⟩ := q5
            simp only [Option.bind_some, Sum.elim_inl]
            rw [F61_eq]
            cases r5 with
            | cons a r => simp only [Option.bind_some, Sum.elim_inr]
            | nil =>
              simp only [Option.bind_some, Sum.elim_inl]
              rw [F62_eq l (by omega), F16_eq]
              simp only [Option.bind_some]
              rw [w64 (n := n) (by omega) (by omega)]
              by_cases he : (trim l).length = l.length
              · rw [show ((((trim l).length : Nat) : Int) != ((l.length : Nat) : Int)) = false by rw [he]; simp]
                simp only [cond_false]
                cases hq : ((strL x : ByteArray).toList == ((⟨#[]⟩ : ByteArray) : ByteArray).toList) with
                | true =>
                  rw [if_pos ⟨he, .inl hq⟩]
                  rfl
                | false =>
                  simp only [Bool.not_false, cond_true]
                  cases hn : nmd (strL x) with
                  | true =>
                    rw [if_pos ⟨he, .inr rfl⟩]
                    rfl
                  | false =>
                    rw [if_neg (fun q => by rcases q.2 with q | q
                                            · unfold isEmp at q; rw [hq] at q; cases q
                                            · cases q)]
                    rfl
              · rw [show ((((trim l).length : Nat) : Int) != ((l.length : Nat) : Int)) = true by rw [bne_iff_ne]; omega]
                rw [if_neg (fun q => he q.1)]
                rfl
theorem decM_err {s : List Int} {e : Int} (h : decM s = .inr e) : e ≠ 0 := by
  unfold decM at h
  split at h
  · rename_i h1; cases h; exact ne3 (tnum_err h1)
  · split at h
    · rename_i h1; cases h; exact ne3 (tnum_err h1)
    · split at h
      · rename_i h1; cases h; exact ne3 (rdV_err h1)
      · split at h
        · rename_i h1; cases h; exact ne3 (tnum_err h1)
        · split at h
          · rename_i h1; cases h; exact ne3 (tkT_err' h1)
          · split at h
            · cases h; decide
            · split at h
              · cases h
              · cases h; decide
theorem isEmp_eq {s : ByteArray} (h : isEmp s = true) : s.size = 0 := by
  unfold isEmp at h
  rw [beq_iff_eq, toListB, toListB] at h
  have : s.size = s.data.toList.length := by simp
  rw [this, h]; rfl
theorem MOK.dl {m : DMf} (h : MOK m) : m.2.2.2.2.1.size ≤ 48 := by
  rcases h.d with q | q
  · rw [isEmp_eq q]; omega
  · exact nmd_le q
theorem decM_some {s : List Int} {m : DMf} (hb : Bys s) (h : decM s = .inl m) : encM m = s ∧ MOK m ∧ (trim m.2.2.1).length = m.2.2.1.length := by
  unfold decM at h
  split at h
  · cases h
  rename_i n r1 h1
  obtain ⟨e1, n0, _, n1⟩ := tnum_some hb h1
  have hb1 := tnum_byte hb h1
  split at h
  · cases h
  rename_i sr r2 h2
  obtain ⟨e2, s0, _, s1⟩ := tnum_some hb1 h2
  have hb2 := tnum_byte hb1 h2
  split at h
  · cases h
  rename_i l r3 h3
  obtain ⟨e3, s3, l3, hb3⟩ := rdV_some hb2 h3
  split at h
  · cases h
  rename_i t r4 h4
  obtain ⟨e4, t0, _, t1⟩ := tnum_some hb3 h4
  have hb4 := tnum_byte hb3 h4
  split at h
  · cases h
  rename_i x r5 h5
  obtain ⟨e5, x0⟩ := tkT_some hb4 h5
  have hbx := (tkT_byte hb4 h5).1
  split at h
  · cases h
  split at h
  · rename_i hc
    cases h
    refine ⟨?_, ⟨n0, n1, s0, s1, s3, l3, t0, t1, hc.2⟩, hc.1⟩
    show dg n ++ dg sr ++ encV l ++ dg t ++ dgT (bytesL (strL x)) = s
    rw [bytesL_strL hbx, e1, e2, e3, e4, e5, List.append_nil]
    unfold encV
    rw [trim_of_len hc.1]
    simp only [List.append_assoc]
  · cases h
theorem decM_app (m : DMf) (h : MOK m) : decM (encM m) = .inl (m.1, m.2.1, trim m.2.2.1, m.2.2.2.1, m.2.2.2.2.1, ()) := by
  have hd := h.dl
  have hfl := h.fl
  have := h.n0; have := h.n1; have := h.s0; have := h.s1; have := h.t0; have := h.t1
  have htl := trim_le m.2.2.1
  have e : encM m = dg m.1 ++ (dg m.2.1 ++ (encL (trim m.2.2.1) ++ (dg m.2.2.2.1 ++ (dgT (bytesL m.2.2.2.2.1) ++ [])))) := by
    unfold encM encV
    simp only [List.append_assoc, List.append_nil]
  unfold decM
  rw [e, tnum_app (by omega) (by omega) (by omega)]
  dsimp only
  rw [tnum_app (by omega) (by omega) (by omega)]
  dsimp only
  rw [rdV_app _ _ h.f.trim (by omega)]
  dsimp only
  rw [tnum_app (by omega) (by omega) (by omega)]
  dsimp only
  rw [tkT_app (by rw [bytesL_len]; omega) (by rw [bytesL_len]; omega)]
  dsimp only
  rw [strL_bytesL, if_pos ⟨by rw [trim_idem], h.d⟩]
theorem L63_run (a b : List Int) (ha : a.length ≤ 64) (hb : b.length ≤ 64) (h : ∀ k, gv a k = gv b k) : ∀ (d k : Nat), k + d = 65 → L63_2 a b (k : Nat) = some (.inr ((), (), ())) := by
  intro d
  induction d with
  | zero =>
    intro k hk
    rw [L63_2_eq]
    unfold T63_2
    rw [decide_eq_false (show ¬ (k : Int) < ((a.length : Nat) : Int) by omega), decide_eq_false (show ¬ (k : Int) < ((b.length : Nat) : Int) by omega)]
    rfl
  | succ d ih =>
    intro k hk
    rw [L63_2_eq]
    unfold T63_2
    rw [F82_nat, F82_nat]
    simp only [Option.bind_some]
    rw [show (gv a k != gv b k) = false by rw [h k]; simp]
    simp only [cond_false]
    have hw : IntKind.wrap .i64 ((k : Int) + 1) = ((k + 1 : Nat) : Int) := by rw [w64 (by omega) (by omega)]; omega
    cases decide ((k : Int) < ((a.length : Nat) : Int)) with
    | true => simp only [cond_true, Option.bind_some, Sum.elim_inl]; rw [hw]; exact ih (k + 1) (by omega)
    | false =>
      simp only [cond_false]
      cases decide ((k : Int) < ((b.length : Nat) : Int)) with
      | true => simp only [cond_true, Option.bind_some, Sum.elim_inl]; rw [hw]; exact ih (k + 1) (by omega)
      | false => rfl
theorem F30_eq (m : DMf) (h : MOK m) : F30 (m.1, m.2.1, trim m.2.2.1, m.2.2.2.1, m.2.2.2.2.1, ()) m = some (r1 true) := by
  have hfl := h.fl
  have htl := trim_le m.2.2.1
  unfold F30 F63
  have hr := L63_run (trim m.2.2.1) m.2.2.1 (by omega) hfl (gv_trim _) 65 0 (by omega)
  rw [show ((0 : Nat) : Int) = 0 from rfl] at hr
  rw [hr]
  simp only [BEq.rfl, cond_true, Option.bind_some, Sum.elim_inr]
theorem L6_one (q : List Int) (hb : Bys q) (hl : q.length < 2 ^ 40) (ls : List (List Int)) (k : Nat) (hk : k < ls.length) (h3 : ls.length = 2) (hq : ls.getD k [] = q) :
    L6_15 ls 2 (k : Int) = L6_15 ls 2 ((k + 1 : Nat) : Int) := by
  conv => lhs; rw [L6_15_eq]
  unfold T6_15
  rw [decide_eq_true (show (k : Int) < 2 by omega), decide_eq_true (show 0 ≤ (k : Int) ∧ (k : Int) < ((ls.length : Nat) : Int) by omega)]
  simp only [cond_true, Int.toNat_natCast]
  rw [hq, F29_eq q hb hl]
  have hw : IntKind.wrap .i64 ((k : Int) + 1) = ((k + 1 : Nat) : Int) := by rw [w64 (by omega) (by omega)]; omega
  cases hd : decM q with
  | inr e =>
    have he := decM_err hd
    simp only [Option.bind_some]
    rw [show ((e : Int) == 0) = false by simpa using he, show ((e : Int) != 0) = true by simpa using he]
    simp only [cond_false, cond_true]
    rw [show ((0 : Int) != 0) = false from rfl]
    simp only [cond_false, Option.bind_some, Sum.elim_inl]
    rw [hw]
  | inl m =>
    obtain ⟨e1, hm, _⟩ := decM_some hb hd
    have hmd := hm.dl
    simp only [Option.bind_some]
    rw [show ((0 : Int) == 0) = true from rfl, show ((0 : Int) != 0) = false from rfl]
    simp only [cond_false, cond_true]
    rw [show (m.1, m.2.1, m.2.2.1, m.2.2.2.1, m.2.2.2.2.1, ()) = m from rfl, F21_eq m hm (by omega)]
    simp only [Option.bind_some]
    rw [e1]
    simp only [BEq.rfl, Bool.not_true, cond_false]
    have hty : MTy m := ⟨hm.s0, by have := hm.s1; omega, hm.f.vk, hm.fl, hm.t0, by have := hm.t1; omega⟩
    obtain ⟨b, hb1, hb2⟩ := F25_eq m hty
    rw [hb1, hb2.2 hm]
    simp only [Option.bind_some, Bool.not_true, cond_false, Sum.elim_inl]
    rw [hw]
theorem L6_all (p c : List Int) (hp : Bys p) (hpl : p.length < 2 ^ 40) (hc : Bys c) (hcl : c.length < 2 ^ 40) : L6_15 [p, c] 2 0 = some (.inr ((), (), ())) := by
  have h1 := L6_one p hp hpl [p, c] 0 (by simp) rfl rfl
  have h2 := L6_one c hc hcl [p, c] 1 (by simp) rfl rfl
  rw [show ((0 : Nat) : Int) = 0 from rfl] at h1
  rw [h1]
  rw [show ((0 + 1 : Nat) : Int) = ((1 : Nat) : Int) from rfl, h2, L6_15_eq]
  unfold T6_15
  rfl
end Go.IM.V
namespace Go.IM.V
open Go Go.IM Go.Proofs
theorem encM_byte (m : DMf) (h : MOK m) : Bys (encM m) := by
  have := h.n0; have := h.n1; have := h.s0; have := h.s1; have := h.t0; have := h.t1; have := h.dl
  unfold encM
  exact ((((dg_byte (by omega) (by omega)).app (dg_byte (by omega) (by omega))).app (encV_byte h.f h.fl)).app (dg_byte (by omega) (by omega))).app (dgT_byte (bytesL_byte _) (by rw [bytesL_len]; omega))
theorem dg_pos (n : Int) : 0 < (dg n).length := by
  unfold dg dgF
  split <;> simp
theorem xor8m (a b : Int) : 0 ≤ iXor .u8 a b ∧ iXor .u8 a b < 256 := by
  unfold iXor
  have e : ∀ n : Int, IntKind.wrap .u8 n = n % 256 := fun n => by simp [IntKind.wrap, IntKind.signed, IntKind.bits]
  rw [e]
  omega
theorem manifestBytes_pure (a0 : DMf) (h : 0 ≤ a0.2.1 ∧ a0.2.1 < 18446744073709551616) (hf : Vok a0.2.2.1) (ht : 0 ≤ a0.2.2.2.1 ∧ a0.2.2.2.1 < 18446744073709551616) (a1 : Int) (a2 : List Int) (hp : Bys a2) (a3 : Int) (h3 : 0 ≤ a3 ∧ a3 < 65536) (a4 : Int) (h4 : 0 ≤ a4 ∧ a4 < 256) : F6 a0 a1 a2 a3 a4 = some (r1 true) := by
  unfold F6 F14
  simp only [Option.bind_some, Bool.not_true, cond_false]
  by_cases g1 : ((a0.2.2.1.length : Nat) : Int) > 64
  · rw [decide_eq_true g1]; rfl
  rw [decide_eq_false g1]
  by_cases g2 : ((a0.2.2.2.2.1.size : Nat) : Int) > 60
  · rw [decide_eq_true g2]; rfl
  rw [decide_eq_false g2]
  by_cases g3 : ((a2.length : Nat) : Int) > 300
  · rw [decide_eq_true g3]; rfl
  rw [decide_eq_false g3]
  simp only [cond_false]
  rw [show (a0.1, (a0.2.1, (a0.2.2.1, (a0.2.2.2.1, (a0.2.2.2.2.1, ()))))) = a0 from rfl]
  obtain ⟨m, e1, hm, hmd⟩ := F24_eq a0 ⟨h.1, h.2, hf, by omega, ht.1, ht.2⟩ a1
  have hsz : m.2.2.2.2.1.size ≤ 60 := by
    rcases hmd with q | q
    · rw [q]; omega
    · rw [q]; decide
  rw [e1]
  simp only [Option.bind_some]
  rw [show (m.1, (m.2.1, (m.2.2.1, (m.2.2.2.1, (m.2.2.2.2.1, ()))))) = m from rfl]
  obtain ⟨b, e2, hb⟩ := F25_eq m hm
  rw [e2]
  cases b with
  | false => rfl
  | true =>
    have hM := hb.1 rfl
    have hB := encM_byte m hM
    have hL := encM_len m hM hsz
    have hpos : 0 < (encM m).length := by
      have := dg_pos m.1
      unfold encM
      simp only [List.length_append]
      omega
    simp only [Option.bind_some, Bool.not_true, cond_false]
    rw [F21_eq m hM hsz]
    simp only [Option.bind_some]
    have q1 := dg_len m.1; have q2 := dg_len m.2.1; have q3 := encV_len hM.fl; have q4 := dg_len m.2.2.2.1
    have hfl := hM.fl
    have := hM.n0; have := hM.n1; have := hM.s0; have := hM.s1; have := hM.t0; have := hM.t1
    rw [wu64 (n := m.1) (by omega) (by omega), F26_eq [] m.1 (by omega) (by omega) (lt_lim (by simp))]
    simp only [Option.bind_some, List.nil_append]
    rw [F26_eq _ m.2.1 (by omega) (by omega) (lt_lim (by omega))]
    simp only [Option.bind_some]
    rw [F28_eq _ _ hM.f.vk (by omega) (lt_lim (by simp only [List.length_append]; omega))]
    simp only [Option.bind_some]
    rw [F26_eq _ m.2.2.2.1 (by omega) (by omega) (lt_lim (by simp only [List.length_append]; omega))]
    simp only [Option.bind_some]
    rw [F27_eq _ _ (by rw [bytesL_len]; omega) (lt_lim (by simp only [List.length_append, bytesL_len]; omega))]
    simp only [Option.bind_some]
    rw [show dg m.1 ++ dg m.2.1 ++ encV m.2.2.1 ++ dg m.2.2.2.1 ++ dgT (bytesL m.2.2.2.2.1) = encM m from rfl]
    rw [F29_eq _ hB (by omega), decM_app m hM]
    simp only [Option.bind_some, BEq.rfl, Bool.not_true, cond_false]
    rw [show ((0 : Int) != 0) = false from rfl]
    simp only [cond_false]
    rw [F30_eq m hM]
    simp only [Option.bind_some, Bool.not_true, cond_false]
    rw [w64 (n := a3) (by omega) (by omega)]
    generalize hi : a3.tmod ((((encM m).length : Nat) : Int)) = i
    have hi' : 0 ≤ i ∧ i < (((encM m).length : Nat) : Int) := by
      rw [← hi, Int.tmod_eq_emod_of_nonneg h3.1]
      exact ⟨Int.emod_nonneg _ (by omega), Int.emod_lt_of_pos _ (by omega)⟩
    rw [decide_eq_true (lt_lim (by omega)), decide_eq_true (show (((encM m).length : Nat) : Int) ≠ 0 by omega), decide_eq_true hi', decide_eq_true (show i.toNat < (encM m).length by omega)]
    simp only [cond_true]
    generalize hx : iXor .u8 ((encM m).getD i.toNat 0) a4 = x
    have hxb : 0 ≤ x ∧ x < 256 := by
      rw [← hx]
      exact xor8m _ _
    have hc : Bys ((encM m).set i.toNat x) := fun y hy => by
      rcases List.mem_or_eq_of_mem_set hy with q | q
      · exact hB y q
      · rw [q]; exact hxb
    have hall := L6_all a2 ((encM m).set i.toNat x) hp (by omega) hc (by rw [List.length_set]; omega)
    rw [show ((([a2, (encM m).set i.toNat x].length : Nat) : Int)) = 2 from rfl, hall]
    rfl
end Go.IM.V