/- What the code of a law comes to, and what that tells: part 1. Lemmas alone; no conditions. -/
import Derived.Test.YtjoedmfdfbgfeaaProg
import Derived.KernelRfl
import Derived.Test.YtjoedmfdfbgfeaaImM4
/- Events: what the code comes to. -/
set_option linter.unusedVariables false
set_option linter.constructorNameAsVariable false
namespace Go.IM.V
open Go Go.IM Go.Proofs

noncomputable def b66 : Code := (.seq (.region 0 (regOf Try.f66 0) false) (.seq (.region 1 (regOf Try.f66 1) false) .ret))
theorem body66 : Try.f66.body = some b66 := by kernel_rfl
noncomputable def C66 : Tab := []
theorem C66_ok : TabOK Try.prog C66 := trivial
noncomputable def LO66 : Tab := []
noncomputable def i66 : Tm := { sl := [(0, .v (.i .u64))], bx := [], bf := [] }
noncomputable def o66 : OT := (.ret { sl := [(0, .v .b)], bx := [], bf := [] })
/-- cmp.isNaN[uint64] -/
noncomputable def F66 (a0 : Int) : Option ((Bool × Unit) × Unit × Unit) :=
  (some ((((a0 : Int) != a0), ()), (), ()))
noncomputable def c66 : Con := ⟨i66, o66, fun x => F66 x.1.1⟩
theorem e66 (x : i66.E) : vfn Try.prog C66 LO66 Try.f66 b66 i66 o66 x = F66 x.1.1 := by kernel_rfl
theorem c66_ok : Con.OK Try.prog 66 c66 := (fn_ok C66_ok Try.func66 body66 (loops_of (l := []) (by kernel_rfl) (show LoopsOK Try.prog Try.f66.ntmps [] LO66 from trivial)) i66 o66).congr fun x => (e66 x).symm
noncomputable def b67 : Code := (.seq (.region 0 (regOf Try.f67 0) false) (.seq (.region 1 (regOf Try.f67 1) false) .ret))
theorem body67 : Try.f67.body = some b67 := by kernel_rfl
noncomputable def C67 : Tab := []
theorem C67_ok : TabOK Try.prog C67 := trivial
noncomputable def LO67 : Tab := []
noncomputable def i67 : Tm := { sl := [(0, .v (.i .i64))], bx := [], bf := [] }
noncomputable def o67 : OT := (.ret { sl := [(0, .v .b)], bx := [], bf := [] })
/-- cmp.isNaN[int] -/
noncomputable def F67 (a0 : Int) : Option ((Bool × Unit) × Unit × Unit) :=
  (some ((((a0 : Int) != a0), ()), (), ()))
noncomputable def c67 : Con := ⟨i67, o67, fun x => F67 x.1.1⟩
theorem e67 (x : i67.E) : vfn Try.prog C67 LO67 Try.f67 b67 i67 o67 x = F67 x.1.1 := by kernel_rfl
theorem c67_ok : Con.OK Try.prog 67 c67 := (fn_ok C67_ok Try.func67 body67 (loops_of (l := []) (by kernel_rfl) (show LoopsOK Try.prog Try.f67.ntmps [] LO67 from trivial)) i67 o67).congr fun x => (e67 x).symm
noncomputable def b49 : Code := (.seq (.region 0 (regOf Try.f49 0) false) (.seq (.region 1 (regOf Try.f49 1) false) (.seq (.region 2 (regOf Try.f49 2) false) (.seq (.seq (.region 3 (regOf Try.f49 3) false) (.cond (.tmp 11) (.seq (.seq (.region 4 (regOf Try.f49 4) false) (.cond (.tmp 12) (.seq (.region 5 (regOf Try.f49 5) false) .ret) .skip)) (.seq (.region 6 (regOf Try.f49 6) false) .ret)) .skip)) (.seq (.seq (.region 7 (regOf Try.f49 7) false) (.cond (.tmp 13) (.seq (.region 8 (regOf Try.f49 8) false) .ret) .skip)) (.seq (.seq (.region 9 (regOf Try.f49 9) false) (.cond (.tmp 16) (.seq (.region 10 (regOf Try.f49 10) false) .ret) .skip)) (.seq (.seq (.region 11 (regOf Try.f49 11) false) (.cond (.tmp 19) (.seq (.region 12 (regOf Try.f49 12) false) .ret) .skip)) (.seq (.region 13 (regOf Try.f49 13) false) .ret))))))))
theorem body49 : Try.f49.body = some b49 := by kernel_rfl
noncomputable def C49 : Tab := [(66, c66)]
theorem C49_ok : TabOK Try.prog C49 := ⟨c66_ok, trivial⟩
noncomputable def LO49 : Tab := []
noncomputable def i49 : Tm := { sl := [(0, .v (.i .u64)), (1, .v (.i .u64))], bx := [], bf := [] }
noncomputable def o49 : OT := (.ret { sl := [(0, .v (.i .i64))], bx := [], bf := [] })
/-- cmp.Compare[uint64] -/
noncomputable def F49 (a0 : Int) (a1 : Int) : Option ((Int × Unit) × Unit × Unit) :=
  ((F66 a0).bind fun y1 => ((F66 a1).bind fun y2 => (bif y1.1.1 then (bif y2.1.1 then (some ((0, ()), (), ())) else (some (((-1), ()), (), ()))) else (bif y2.1.1 then (some ((1, ()), (), ())) else (bif (decide ((a0 : Int) < a1)) then (some (((-1), ()), (), ())) else (bif (decide ((a0 : Int) > a1)) then (some ((1, ()), (), ())) else (some ((0, ()), (), ()))))))))
noncomputable def c49 : Con := ⟨i49, o49, fun x => F49 x.1.1 x.1.2.1⟩
theorem e49 (x : i49.E) : vfn Try.prog C49 LO49 Try.f49 b49 i49 o49 x = F49 x.1.1 x.1.2.1 := by kernel_rfl
theorem c49_ok : Con.OK Try.prog 49 c49 := (fn_ok C49_ok Try.func49 body49 (loops_of (l := []) (by kernel_rfl) (show LoopsOK Try.prog Try.f49.ntmps [] LO49 from trivial)) i49 o49).congr fun x => (e49 x).symm
noncomputable def b50 : Code := (.seq (.region 0 (regOf Try.f50 0) false) (.seq (.region 1 (regOf Try.f50 1) false) (.seq (.region 2 (regOf Try.f50 2) false) (.seq (.seq (.region 3 (regOf Try.f50 3) false) (.cond (.tmp 11) (.seq (.seq (.region 4 (regOf Try.f50 4) false) (.cond (.tmp 12) (.seq (.region 5 (regOf Try.f50 5) false) .ret) .skip)) (.seq (.region 6 (regOf Try.f50 6) false) .ret)) .skip)) (.seq (.seq (.region 7 (regOf Try.f50 7) false) (.cond (.tmp 13) (.seq (.region 8 (regOf Try.f50 8) false) .ret) .skip)) (.seq (.seq (.region 9 (regOf Try.f50 9) false) (.cond (.tmp 16) (.seq (.region 10 (regOf Try.f50 10) false) .ret) .skip)) (.seq (.seq (.region 11 (regOf Try.f50 11) false) (.cond (.tmp 19) (.seq (.region 12 (regOf Try.f50 12) false) .ret) .skip)) (.seq (.region 13 (regOf Try.f50 13) false) .ret))))))))
theorem body50 : Try.f50.body = some b50 := by kernel_rfl
noncomputable def C50 : Tab := [(67, c67)]
theorem C50_ok : TabOK Try.prog C50 := ⟨c67_ok, trivial⟩
noncomputable def LO50 : Tab := []
noncomputable def i50 : Tm := { sl := [(0, .v (.i .i64)), (1, .v (.i .i64))], bx := [], bf := [] }
noncomputable def o50 : OT := (.ret { sl := [(0, .v (.i .i64))], bx := [], bf := [] })
/-- cmp.Compare[int] -/
noncomputable def F50 (a0 : Int) (a1 : Int) : Option ((Int × Unit) × Unit × Unit) :=
  ((F67 a0).bind fun y3 => ((F67 a1).bind fun y4 => (bif y3.1.1 then (bif y4.1.1 then (some ((0, ()), (), ())) else (some (((-1), ()), (), ()))) else (bif y4.1.1 then (some ((1, ()), (), ())) else (bif (decide ((a0 : Int) < a1)) then (some (((-1), ()), (), ())) else (bif (decide ((a0 : Int) > a1)) then (some ((1, ()), (), ())) else (some ((0, ()), (), ()))))))))
noncomputable def c50 : Con := ⟨i50, o50, fun x => F50 x.1.1 x.1.2.1⟩
theorem e50 (x : i50.E) : vfn Try.prog C50 LO50 Try.f50 b50 i50 o50 x = F50 x.1.1 x.1.2.1 := by kernel_rfl
theorem c50_ok : Con.OK Try.prog 50 c50 := (fn_ok C50_ok Try.func50 body50 (loops_of (l := []) (by kernel_rfl) (show LoopsOK Try.prog Try.f50.ntmps [] LO50 from trivial)) i50 o50).congr fun x => (e50 x).symm
noncomputable def l48_3 : Code := (.seq (.region 3 (regOf Try.f48 3) false) (.seq (.cond (.tmp 9) .skip (.exit 0)) (.seq (.block 1 (.seq (.region 4 (regOf Try.f48 4) false) (.seq (.region 5 (regOf Try.f48 5) false) (.cond (.tmp 14) (.seq (.region 6 (regOf Try.f48 6) false) .ret) .skip)))) (.region 7 (regOf Try.f48 7) false))))
noncomputable def b48 : Code := (.seq (.region 0 (regOf Try.f48 0) false) (.seq (.region 1 (regOf Try.f48 1) false) (.seq (.seq (.region 2 (regOf Try.f48 2) false) (.block 0 (.loop l48_3))) (.seq (.region 8 (regOf Try.f48 8) false) .ret))))
theorem body48 : Try.f48.body = some b48 := by kernel_rfl
noncomputable def C48_3 : Tab := []
theorem C48_3_ok : TabOK Try.prog C48_3 := trivial
noncomputable def LO48_3 : Tab := []
noncomputable def i48_3 : Tm := { sl := [(3, .v (.i .i64)), (6, .v (.l (.i .i64))), (7, .v (.i .i64)), (8, .v (.i .i64))], bx := [], bf := [] }
noncomputable def o48_3 : OT := (.two (.ret { sl := [(2, .v (.i .i64))], bx := [], bf := [] }) (.exit 0 { sl := [], bx := [], bf := [] }))
noncomputable def T48_3 (a3 : Int) (a6 : (List Int)) (a7 : Int) (a8 : Int) : Option (((Int × ((List Int) × (Int × (Int × Unit)))) × Unit × Unit) ⊕ (((Int × Unit) × Unit × Unit) ⊕ (Unit × Unit × Unit))) :=
  (bif (decide ((a8 : Int) < a7)) then (bif (decide (0 ≤ (a8 : Int) ∧ (a8 : Int) < (((a6).length : Nat) : Int))) then (bif ((((a6).getD (a8 : Int).toNat (0 : Int)) : Int) != a3) then (some (.inr (.inl ((((a6).getD (a8 : Int).toNat (0 : Int)), ()), (), ())))) else (some (.inl ((a3, a6, a7, (IntKind.wrap .i64 (a8 + 1)), ()), (), ())))) else none) else (some (.inr (.inr ((), (), ())))))
noncomputable def L48_3 (a3 : Int) (a6 : (List Int)) (a7 : Int) (a8 : Int) : Option (((Int × Unit) × Unit × Unit) ⊕ (Unit × Unit × Unit)) := loopF (fun x : ((Int × ((List Int) × (Int × (Int × Unit)))) × Unit × Unit) => T48_3 x.1.1 x.1.2.1 x.1.2.2.1 x.1.2.2.2.1) ((a3, a6, a7, a8, ()), (), ())
theorem L48_3_eq (a3 : Int) (a6 : (List Int)) (a7 : Int) (a8 : Int) : L48_3 a3 a6 a7 a8 = (T48_3 a3 a6 a7 a8).bind (Sum.elim (fun x => L48_3 x.1.1 x.1.2.1 x.1.2.2.1 x.1.2.2.2.1) some) := loopF_eq _ _
noncomputable def k48_3 : Con := ⟨i48_3, o48_3, fun x => L48_3 x.1.1 x.1.2.1 x.1.2.2.1 x.1.2.2.2.1⟩
theorem e48_3 (x : i48_3.E) : vround Try.prog C48_3 LO48_3 Try.f48.ntmps l48_3 i48_3 o48_3 x = T48_3 x.1.1 x.1.2.1 x.1.2.2.1 x.1.2.2.2.1 := by kernel_rfl
theorem k48_3_ok : Con.LOK Try.prog Try.f48.ntmps l48_3 k48_3 := (loop_ok C48_3_ok (loops_of (l := []) (by kernel_rfl) (show LoopsOK Try.prog Try.f48.ntmps [] LO48_3 from trivial)) i48_3 o48_3).congr fun x => (congrArg (fun T => loopF T x) (funext e48_3)).symm
noncomputable def C48 : Tab := []
theorem C48_ok : TabOK Try.prog C48 := trivial
noncomputable def LO48 : Tab := [(3, k48_3)]
noncomputable def i48 : Tm := { sl := [(0, .v (.l (.i .i64)))], bx := [], bf := [] }
noncomputable def o48 : OT := (.ret { sl := [(0, .v (.i .i64))], bx := [], bf := [] })
/-- cmp.Or[int] -/
noncomputable def F48 (a0 : (List Int)) : Option ((Int × Unit) × Unit × Unit) :=
  ((L48_3 0 a0 (((a0).length : Nat) : Int) 0).bind fun y5 => (Sum.elim (fun y6 => (some ((y6.1.1, ()), (), ()))) (fun y6 => (some ((0, ()), (), ()))) y5))
noncomputable def c48 : Con := ⟨i48, o48, fun x => F48 x.1.1⟩
theorem e48 (x : i48.E) : vfn Try.prog C48 LO48 Try.f48 b48 i48 o48 x = F48 x.1.1 := by kernel_rfl
theorem c48_ok : Con.OK Try.prog 48 c48 := (fn_ok C48_ok Try.func48 body48 (loops_of (l := [l48_3]) (by kernel_rfl) (show LoopsOK Try.prog Try.f48.ntmps [l48_3] LO48 from ⟨k48_3_ok, trivial⟩)) i48 o48).congr fun x => (e48 x).symm
noncomputable def b30 : Code := (.seq (.region 0 (regOf Try.f30 0) false) (.seq (.region 1 (regOf Try.f30 1) true) .ret))
theorem body30 : Try.f30.body = some b30 := by kernel_rfl
noncomputable def C30 : Tab := [(48, c48), (49, c49), (50, c50)]
theorem C30_ok : TabOK Try.prog C30 := ⟨c48_ok, c49_ok, c50_ok, trivial⟩
noncomputable def LO30 : Tab := []
noncomputable def i30 : Tm := { sl := [(0, .v (.p (.i .u64) (.p (.i .i64) .u))), (1, .v (.p (.i .u64) (.p (.i .i64) .u)))], bx := [], bf := [] }
noncomputable def o30 : OT := (.ret { sl := [(0, .v (.i .i64))], bx := [], bf := [] })
/-- anabranch/event.Compare -/
noncomputable def F30 (a0 : (Int × (Int × Unit))) (a1 : (Int × (Int × Unit))) : Option ((Int × Unit) × Unit × Unit) :=
  ((F49 a0.1 a1.1).bind fun y7 => ((F50 a0.2.1 a1.2.1).bind fun y8 => ((F48 [y7.1.1, y8.1.1]).bind fun y9 => (some ((y9.1.1, ()), (), ())))))
noncomputable def c30 : Con := ⟨i30, o30, fun x => F30 x.1.1 x.1.2.1⟩
theorem e30 (x : i30.E) : vfn Try.prog C30 LO30 Try.f30 b30 i30 o30 x = F30 x.1.1 x.1.2.1 := by kernel_rfl
theorem c30_ok : Con.OK Try.prog 30 c30 := (fn_ok C30_ok Try.func30 body30 (loops_of (l := []) (by kernel_rfl) (show LoopsOK Try.prog Try.f30.ntmps [] LO30 from trivial)) i30 o30).congr fun x => (e30 x).symm
noncomputable def b31 : Code := (.seq (.region 0 (regOf Try.f31 0) false) (.seq (.region 1 (regOf Try.f31 1) false) .ret))
theorem body31 : Try.f31.body = some b31 := by kernel_rfl
noncomputable def C31 : Tab := []
theorem C31_ok : TabOK Try.prog C31 := trivial
noncomputable def LO31 : Tab := []
noncomputable def i31 : Tm := { sl := [(0, .v (.p (.i .u64) (.p (.i .i64) .u))), (1, .v (.p (.i .u64) (.p (.i .i64) .u)))], bx := [], bf := [] }
noncomputable def o31 : OT := (.ret { sl := [(0, .v .b)], bx := [], bf := [] })
/-- anabranch/anabranchref06.Ahead -/
noncomputable def F31 (a0 : (Int × (Int × Unit))) (a1 : (Int × (Int × Unit))) : Option ((Bool × Unit) × Unit × Unit) :=
  (bif (decide ((a0.1 : Int) < a1.1)) then (some ((true, ()), (), ())) else (bif ((a0.1 : Int) == a1.1) then (some (((decide ((a0.2.1 : Int) < a1.2.1)), ()), (), ())) else (some ((false, ()), (), ()))))
noncomputable def c31 : Con := ⟨i31, o31, fun x => F31 x.1.1 x.1.2.1⟩
theorem e31 (x : i31.E) : vfn Try.prog C31 LO31 Try.f31 b31 i31 o31 x = F31 x.1.1 x.1.2.1 := by kernel_rfl
theorem c31_ok : Con.OK Try.prog 31 c31 := (fn_ok C31_ok Try.func31 body31 (loops_of (l := []) (by kernel_rfl) (show LoopsOK Try.prog Try.f31.ntmps [] LO31 from trivial)) i31 o31).congr fun x => (e31 x).symm
noncomputable def b41 : Code := (.seq (.region 0 (regOf Try.f41 0) false) (.seq (.region 1 (regOf Try.f41 1) false) .ret))
theorem body41 : Try.f41.body = some b41 := by kernel_rfl
noncomputable def C41 : Tab := []
theorem C41_ok : TabOK Try.prog C41 := trivial
noncomputable def LO41 : Tab := []
noncomputable def i41 : Tm := { sl := [(0, .v (.p (.i .i64) (.p (.i .u64) (.p (.i .u64) (.p (.i .u8) (.p .s (.p (.l (.i .u8)) (.p (.f .f64) (.p (.i .i64) .u)))))))))], bx := [], bf := [] }
noncomputable def o41 : OT := (.ret { sl := [(0, .v (.p (.i .u64) (.p (.i .i64) .u)))], bx := [], bf := [] })
/-- anabranch/event.At -/
noncomputable def F41 (a0 : (Int × (Int × (Int × (Int × (ByteArray × ((List Int) × (Nat × (Int × Unit))))))))) : Option (((Int × (Int × Unit)) × Unit) × Unit × Unit) :=
  (some (((a0.2.2.1, (a0.1, ())), ()), (), ()))
noncomputable def c41 : Con := ⟨i41, o41, fun x => F41 x.1.1⟩
theorem e41 (x : i41.E) : vfn Try.prog C41 LO41 Try.f41 b41 i41 o41 x = F41 x.1.1 := by kernel_rfl
theorem c41_ok : Con.OK Try.prog 41 c41 := (fn_ok C41_ok Try.func41 body41 (loops_of (l := []) (by kernel_rfl) (show LoopsOK Try.prog Try.f41.ntmps [] LO41 from trivial)) i41 o41).congr fun x => (e41 x).symm
noncomputable def b42 : Code := (.seq (.region 0 (regOf Try.f42 0) false) (.seq (.region 1 (regOf Try.f42 1) false) .ret))
theorem body42 : Try.f42.body = some b42 := by kernel_rfl
noncomputable def C42 : Tab := []
theorem C42_ok : TabOK Try.prog C42 := trivial
noncomputable def LO42 : Tab := []
noncomputable def i42 : Tm := { sl := [(0, .v (.p (.i .i64) (.p (.i .u64) (.p (.i .u64) (.p (.i .u8) (.p .s (.p (.l (.i .u8)) (.p (.f .f64) (.p (.i .i64) .u)))))))))], bx := [], bf := [] }
noncomputable def o42 : OT := (.ret { sl := [(0, .v (.p (.i .u64) (.p (.i .i64) .u)))], bx := [], bf := [] })
/-- anabranch/anabranchref06.At -/
noncomputable def F42 (a0 : (Int × (Int × (Int × (Int × (ByteArray × ((List Int) × (Nat × (Int × Unit))))))))) : Option (((Int × (Int × Unit)) × Unit) × Unit × Unit) :=
  (some (((a0.2.2.1, (a0.1, ())), ()), (), ()))
noncomputable def c42 : Con := ⟨i42, o42, fun x => F42 x.1.1⟩
theorem e42 (x : i42.E) : vfn Try.prog C42 LO42 Try.f42 b42 i42 o42 x = F42 x.1.1 := by kernel_rfl
theorem c42_ok : Con.OK Try.prog 42 c42 := (fn_ok C42_ok Try.func42 body42 (loops_of (l := []) (by kernel_rfl) (show LoopsOK Try.prog Try.f42.ntmps [] LO42 from trivial)) i42 o42).congr fun x => (e42 x).symm
noncomputable def b46 : Code := (.seq (.region 0 (regOf Try.f46 0) false) (.seq (.region 1 (regOf Try.f46 1) false) .ret))
theorem body46 : Try.f46.body = some b46 := by kernel_rfl
noncomputable def C46 : Tab := []
theorem C46_ok : TabOK Try.prog C46 := trivial
noncomputable def LO46 : Tab := []
noncomputable def i46 : Tm := { sl := [(0, .v (.i .i64))], bx := [], bf := [] }
noncomputable def o46 : OT := (.ret { sl := [(0, .v .b)], bx := [], bf := [] })
/-- anabranch/event.node -/
noncomputable def F46 (a0 : Int) : Option ((Bool × Unit) × Unit × Unit) :=
  (bif (decide ((a0 : Int) ≥ 0)) then (some (((decide ((a0 : Int) < 64)), ()), (), ())) else (some ((false, ()), (), ())))
noncomputable def c46 : Con := ⟨i46, o46, fun x => F46 x.1.1⟩
theorem e46 (x : i46.E) : vfn Try.prog C46 LO46 Try.f46 b46 i46 o46 x = F46 x.1.1 := by kernel_rfl
theorem c46_ok : Con.OK Try.prog 46 c46 := (fn_ok C46_ok Try.func46 body46 (loops_of (l := []) (by kernel_rfl) (show LoopsOK Try.prog Try.f46.ntmps [] LO46 from trivial)) i46 o46).congr fun x => (e46 x).symm
noncomputable def l56_1 : Code := (.seq (.seq (.region 1 (regOf Try.f56 1) false) (.cond (.tmp 6) .skip (.exit 0))) (.seq (.block 1 (.region 3 (regOf Try.f56 3) false)) (.region 2 (regOf Try.f56 2) false)))
noncomputable def b56 : Code := (.seq (.region 0 (regOf Try.f56 0) false) (.seq (.block 0 (.loop l56_1)) (.seq (.region 4 (regOf Try.f56 4) false) .ret)))
theorem body56 : Try.f56.body = some b56 := by kernel_rfl
noncomputable def C56_1 : Tab := []
theorem C56_1_ok : TabOK Try.prog C56_1 := trivial
noncomputable def LO56_1 : Tab := []
noncomputable def i56_1 : Tm := { sl := [(0, .o 0), (1, .v (.i .u64))], bx := [], bf := [(.i .u8)] }
noncomputable def o56_1 : OT := (.exit 0 { sl := [(0, .o 0), (1, .v (.i .u64))], bx := [], bf := [(.i .u8)] })
noncomputable def T56_1 (a1 : Int) (q0 : (List Int)) : Option (((Unit × (Int × Unit)) × Unit × ((List Int) × Unit)) ⊕ ((Unit × (Int × Unit)) × Unit × ((List Int) × Unit))) :=
  (bif (decide ((a1 : Int) ≥ 128)) then (bif (decide ((q0).length + ([(iOr .u8 (IntKind.wrap .u8 a1) 128)]).length < lim)) then (some (.inl (((), (iShr .u64 a1 7), ()), (), ((q0 ++ [(iOr .u8 (IntKind.wrap .u8 a1) 128)]), ())))) else none) else (some (.inr (((), a1, ()), (), (q0, ())))))
noncomputable def L56_1 (a1 : Int) (q0 : (List Int)) : Option ((Unit × (Int × Unit)) × Unit × ((List Int) × Unit)) := loopF (fun x : ((Unit × (Int × Unit)) × Unit × ((List Int) × Unit)) => T56_1 x.1.2.1 x.2.2.1) (((), a1, ()), (), (q0, ()))
theorem L56_1_eq (a1 : Int) (q0 : (List Int)) : L56_1 a1 q0 = (T56_1 a1 q0).bind (Sum.elim (fun x => L56_1 x.1.2.1 x.2.2.1) some) := loopF_eq _ _
noncomputable def k56_1 : Con := ⟨i56_1, o56_1, fun x => L56_1 x.1.2.1 x.2.2.1⟩
theorem e56_1 (x : i56_1.E) : vround Try.prog C56_1 LO56_1 Try.f56.ntmps l56_1 i56_1 o56_1 x = T56_1 x.1.2.1 x.2.2.1 := by kernel_rfl
theorem k56_1_ok : Con.LOK Try.prog Try.f56.ntmps l56_1 k56_1 := (loop_ok C56_1_ok (loops_of (l := []) (by kernel_rfl) (show LoopsOK Try.prog Try.f56.ntmps [] LO56_1 from trivial)) i56_1 o56_1).congr fun x => (congrArg (fun T => loopF T x) (funext e56_1)).symm
noncomputable def C56 : Tab := []
theorem C56_ok : TabOK Try.prog C56 := trivial
noncomputable def LO56 : Tab := [(1, k56_1)]
noncomputable def i56 : Tm := { sl := [(0, .o 0), (1, .v (.i .u64))], bx := [], bf := [(.i .u8)] }
noncomputable def o56 : OT := (.ret { sl := [(0, .o 0)], bx := [], bf := [(.i .u8)] })
/-- anabranch/digits.Lay -/
noncomputable def F56 (a1 : Int) (q0 : (List Int)) : Option ((Unit × Unit) × Unit × ((List Int) × Unit)) :=
  ((L56_1 a1 q0).bind fun y10 => (bif (decide ((y10.2.2.1).length + ([(IntKind.wrap .u8 y10.1.2.1)]).length < lim)) then (some (((), ()), (), ((y10.2.2.1 ++ [(IntKind.wrap .u8 y10.1.2.1)]), ()))) else none))
noncomputable def c56 : Con := ⟨i56, o56, fun x => F56 x.1.2.1 x.2.2.1⟩
theorem e56 (x : i56.E) : vfn Try.prog C56 LO56 Try.f56 b56 i56 o56 x = F56 x.1.2.1 x.2.2.1 := by kernel_rfl
theorem c56_ok : Con.OK Try.prog 56 c56 := (fn_ok C56_ok Try.func56 body56 (loops_of (l := [l56_1]) (by kernel_rfl) (show LoopsOK Try.prog Try.f56.ntmps [l56_1] LO56 from ⟨k56_1_ok, trivial⟩)) i56 o56).congr fun x => (e56 x).symm
noncomputable def l57_3 : Code := (.seq (.seq (.region 3 (regOf Try.f57 3) false) (.cond (.tmp 10) .skip (.exit 0))) (.block 1 (.seq (.region 4 (regOf Try.f57 4) false) (.region 5 (regOf Try.f57 5) false))))
noncomputable def b57 : Code := (.seq (.region 0 (regOf Try.f57 0) false) (.seq (.region 1 (regOf Try.f57 1) false) (.seq (.region 2 (regOf Try.f57 2) false) (.seq (.block 0 (.loop l57_3)) (.seq (.region 6 (regOf Try.f57 6) false) .ret)))))
theorem body57 : Try.f57.body = some b57 := by kernel_rfl
noncomputable def C57_3 : Tab := []
theorem C57_3_ok : TabOK Try.prog C57_3 := trivial
noncomputable def LO57_3 : Tab := []
noncomputable def i57_3 : Tm := { sl := [(1, .v (.i .u64)), (5, .o 0)], bx := [], bf := [(.i .u8)] }
noncomputable def o57_3 : OT := (.exit 0 { sl := [(1, .v (.i .u64)), (5, .o 0)], bx := [], bf := [(.i .u8)] })
noncomputable def T57_3 (a1 : Int) (q0 : (List Int)) : Option (((Int × (Unit × Unit)) × Unit × ((List Int) × Unit)) ⊕ ((Int × (Unit × Unit)) × Unit × ((List Int) × Unit))) :=
  (bif (decide ((a1 : Int) > 127)) then (bif (decide ((q0).length + ([(IntKind.wrap .u8 (IntKind.wrap .u64 (128 + ((a1 : Int).tmod 128))))]).length < lim)) then (some (.inl (((IntKind.wrap .u64 ((a1 : Int).tdiv 128)), (), ()), (), ((q0 ++ [(IntKind.wrap .u8 (IntKind.wrap .u64 (128 + ((a1 : Int).tmod 128))))]), ())))) else none) else (some (.inr ((a1, (), ()), (), (q0, ())))))
noncomputable def L57_3 (a1 : Int) (q0 : (List Int)) : Option ((Int × (Unit × Unit)) × Unit × ((List Int) × Unit)) := loopF (fun x : ((Int × (Unit × Unit)) × Unit × ((List Int) × Unit)) => T57_3 x.1.1 x.2.2.1) ((a1, (), ()), (), (q0, ()))
theorem L57_3_eq (a1 : Int) (q0 : (List Int)) : L57_3 a1 q0 = (T57_3 a1 q0).bind (Sum.elim (fun x => L57_3 x.1.1 x.2.2.1) some) := loopF_eq _ _
noncomputable def k57_3 : Con := ⟨i57_3, o57_3, fun x => L57_3 x.1.1 x.2.2.1⟩
theorem e57_3 (x : i57_3.E) : vround Try.prog C57_3 LO57_3 Try.f57.ntmps l57_3 i57_3 o57_3 x = T57_3 x.1.1 x.2.2.1 := by kernel_rfl
theorem k57_3_ok : Con.LOK Try.prog Try.f57.ntmps l57_3 k57_3 := (loop_ok C57_3_ok (loops_of (l := []) (by kernel_rfl) (show LoopsOK Try.prog Try.f57.ntmps [] LO57_3 from trivial)) i57_3 o57_3).congr fun x => (congrArg (fun T => loopF T x) (funext e57_3)).symm
noncomputable def C57 : Tab := []
theorem C57_ok : TabOK Try.prog C57 := trivial
noncomputable def LO57 : Tab := [(3, k57_3)]
noncomputable def i57 : Tm := { sl := [(0, .v (.l (.i .u8))), (1, .v (.i .u64))], bx := [], bf := [] }
noncomputable def o57 : OT := (.ret { sl := [(0, .o 0)], bx := [], bf := [(.i .u8)] })
/-- anabranch/anabranchref01.Lay -/
noncomputable def F57 (a0 : (List Int)) (a1 : Int) : Option ((Unit × Unit) × Unit × ((List Int) × Unit)) :=
  (bif (decide ((a0).length < lim)) then ((L57_3 a1 a0).bind fun y11 => (bif (decide ((y11.2.2.1).length + ([(IntKind.wrap .u8 y11.1.1)]).length < lim)) then (some (((), ()), (), ((y11.2.2.1 ++ [(IntKind.wrap .u8 y11.1.1)]), ()))) else none)) else none)
noncomputable def c57 : Con := ⟨i57, o57, fun x => F57 x.1.1 x.1.2.1⟩
theorem e57 (x : i57.E) : vfn Try.prog C57 LO57 Try.f57 b57 i57 o57 x = F57 x.1.1 x.1.2.1 := by kernel_rfl
theorem c57_ok : Con.OK Try.prog 57 c57 := (fn_ok C57_ok Try.func57 body57 (loops_of (l := [l57_3]) (by kernel_rfl) (show LoopsOK Try.prog Try.f57.ntmps [l57_3] LO57 from ⟨k57_3_ok, trivial⟩)) i57 o57).congr fun x => (e57 x).symm
noncomputable def b62 : Code := (.seq (.region 0 (regOf Try.f62 0) false) (.seq (.region 1 (regOf Try.f62 1) false) .ret))
theorem body62 : Try.f62.body = some b62 := by kernel_rfl
noncomputable def C62 : Tab := [(56, c56)]
theorem C62_ok : TabOK Try.prog C62 := ⟨c56_ok, trivial⟩
noncomputable def LO62 : Tab := []
noncomputable def i62 : Tm := { sl := [(0, .o 0), (1, .v (.l (.i .u8)))], bx := [], bf := [(.i .u8)] }
noncomputable def o62 : OT := (.ret { sl := [(0, .o 0)], bx := [], bf := [(.i .u8)] })
/-- anabranch/digits.LayText -/
noncomputable def F62 (a1 : (List Int)) (q0 : (List Int)) : Option ((Unit × Unit) × Unit × ((List Int) × Unit)) :=
  ((F56 (IntKind.wrap .u64 (((a1).length : Nat) : Int)) q0).bind fun y12 => (bif (decide ((y12.2.2.1).length + (a1).length < lim)) then (some (((), ()), (), ((y12.2.2.1 ++ a1), ()))) else none))
noncomputable def c62 : Con := ⟨i62, o62, fun x => F62 x.1.2.1 x.2.2.1⟩
theorem e62 (x : i62.E) : vfn Try.prog C62 LO62 Try.f62 b62 i62 o62 x = F62 x.1.2.1 x.2.2.1 := by kernel_rfl
theorem c62_ok : Con.OK Try.prog 62 c62 := (fn_ok C62_ok Try.func62 body62 (loops_of (l := []) (by kernel_rfl) (show LoopsOK Try.prog Try.f62.ntmps [] LO62 from trivial)) i62 o62).congr fun x => (e62 x).symm
noncomputable def l63_2 : Code := (.seq (.seq (.region 2 (regOf Try.f63 2) false) (.cond (.tmp 7) .skip (.exit 0))) (.seq (.block 1 (.region 4 (regOf Try.f63 4) false)) (.region 3 (regOf Try.f63 3) false)))
noncomputable def b63 : Code := (.seq (.region 0 (regOf Try.f63 0) false) (.seq (.seq (.region 1 (regOf Try.f63 1) false) (.block 0 (.loop l63_2))) (.seq (.region 5 (regOf Try.f63 5) false) .ret)))
theorem body63 : Try.f63.body = some b63 := by kernel_rfl
noncomputable def C63_2 : Tab := []
theorem C63_2_ok : TabOK Try.prog C63_2 := trivial
noncomputable def LO63_2 : Tab := []
noncomputable def i63_2 : Tm := { sl := [(0, .o 0), (1, .v (.i .u64)), (5, .v (.i .i64))], bx := [], bf := [(.i .u8)] }
noncomputable def o63_2 : OT := (.exit 0 { sl := [(0, .o 0)], bx := [], bf := [(.i .u8)] })
noncomputable def T63_2 (a1 : Int) (a5 : Int) (q0 : (List Int)) : Option (((Unit × (Int × (Int × Unit))) × Unit × ((List Int) × Unit)) ⊕ ((Unit × Unit) × Unit × ((List Int) × Unit))) :=
  (bif (decide ((a5 : Int) ≥ 0)) then (bif (decide ((0 : Int) ≤ (IntKind.wrap .i64 (8 * a5)))) then (bif (decide ((q0).length + ([(IntKind.wrap .u8 (iShr .u64 a1 (IntKind.wrap .i64 (8 * a5))))]).length < lim)) then (some (.inl (((), a1, (IntKind.wrap .i64 (a5 - 1)), ()), (), ((q0 ++ [(IntKind.wrap .u8 (iShr .u64 a1 (IntKind.wrap .i64 (8 * a5))))]), ())))) else none) else none) else (some (.inr (((), ()), (), (q0, ())))))
noncomputable def L63_2 (a1 : Int) (a5 : Int) (q0 : (List Int)) : Option ((Unit × Unit) × Unit × ((List Int) × Unit)) := loopF (fun x : ((Unit × (Int × (Int × Unit))) × Unit × ((List Int) × Unit)) => T63_2 x.1.2.1 x.1.2.2.1 x.2.2.1) (((), a1, a5, ()), (), (q0, ()))
theorem L63_2_eq (a1 : Int) (a5 : Int) (q0 : (List Int)) : L63_2 a1 a5 q0 = (T63_2 a1 a5 q0).bind (Sum.elim (fun x => L63_2 x.1.2.1 x.1.2.2.1 x.2.2.1) some) := loopF_eq _ _
noncomputable def k63_2 : Con := ⟨i63_2, o63_2, fun x => L63_2 x.1.2.1 x.1.2.2.1 x.2.2.1⟩
theorem e63_2 (x : i63_2.E) : vround Try.prog C63_2 LO63_2 Try.f63.ntmps l63_2 i63_2 o63_2 x = T63_2 x.1.2.1 x.1.2.2.1 x.2.2.1 := by kernel_rfl
theorem k63_2_ok : Con.LOK Try.prog Try.f63.ntmps l63_2 k63_2 := (loop_ok C63_2_ok (loops_of (l := []) (by kernel_rfl) (show LoopsOK Try.prog Try.f63.ntmps [] LO63_2 from trivial)) i63_2 o63_2).congr fun x => (congrArg (fun T => loopF T x) (funext e63_2)).symm
noncomputable def C63 : Tab := []
theorem C63_ok : TabOK Try.prog C63 := trivial
noncomputable def LO63 : Tab := [(2, k63_2)]
noncomputable def i63 : Tm := { sl := [(0, .o 0), (1, .v (.i .u64))], bx := [], bf := [(.i .u8)] }
noncomputable def o63 : OT := (.ret { sl := [(0, .o 0)], bx := [], bf := [(.i .u8)] })
/-- anabranch/digits.LayFixed -/
noncomputable def F63 (a1 : Int) (q0 : (List Int)) : Option ((Unit × Unit) × Unit × ((List Int) × Unit)) :=
  ((L63_2 a1 7 q0).bind fun y13 => (some (((), ()), (), (y13.2.2.1, ()))))
noncomputable def c63 : Con := ⟨i63, o63, fun x => F63 x.1.2.1 x.2.2.1⟩
theorem e63 (x : i63.E) : vfn Try.prog C63 LO63 Try.f63 b63 i63 o63 x = F63 x.1.2.1 x.2.2.1 := by kernel_rfl
theorem c63_ok : Con.OK Try.prog 63 c63 := (fn_ok C63_ok Try.func63 body63 (loops_of (l := [l63_2]) (by kernel_rfl) (show LoopsOK Try.prog Try.f63.ntmps [l63_2] LO63 from ⟨k63_2_ok, trivial⟩)) i63 o63).congr fun x => (e63 x).symm
noncomputable def b58 : Code := (.seq (.region 0 (regOf Try.f58 0) false) (.seq (.region 1 (regOf Try.f58 1) false) .ret))
theorem body58 : Try.f58.body = some b58 := by kernel_rfl
noncomputable def C58 : Tab := [(57, c57)]
theorem C58_ok : TabOK Try.prog C58 := ⟨c57_ok, trivial⟩
noncomputable def LO58 : Tab := []
noncomputable def i58 : Tm := { sl := [(0, .v (.l (.i .u8))), (1, .v (.l (.i .u8)))], bx := [], bf := [] }
noncomputable def o58 : OT := (.ret { sl := [(0, .o 0)], bx := [], bf := [(.i .u8)] })
/-- anabranch/anabranchref01.Text -/
noncomputable def F58 (a0 : (List Int)) (a1 : (List Int)) : Option ((Unit × Unit) × Unit × ((List Int) × Unit)) :=
  ((F57 a0 (IntKind.wrap .u64 (((a1).length : Nat) : Int))).bind fun y14 => (bif (decide ((y14.2.2.1).length + (a1).length < lim)) then (some (((), ()), (), ((y14.2.2.1 ++ a1), ()))) else none))
noncomputable def c58 : Con := ⟨i58, o58, fun x => F58 x.1.1 x.1.2.1⟩
theorem e58 (x : i58.E) : vfn Try.prog C58 LO58 Try.f58 b58 i58 o58 x = F58 x.1.1 x.1.2.1 := by kernel_rfl
theorem c58_ok : Con.OK Try.prog 58 c58 := (fn_ok C58_ok Try.func58 body58 (loops_of (l := []) (by kernel_rfl) (show LoopsOK Try.prog Try.f58.ntmps [] LO58 from trivial)) i58 o58).congr fun x => (e58 x).symm
noncomputable def l59_4 : Code := (.seq (.seq (.region 4 (regOf Try.f59 4) false) (.cond (.tmp 11) .skip (.exit 0))) (.seq (.block 1 (.region 6 (regOf Try.f59 6) false)) (.region 5 (regOf Try.f59 5) false)))
noncomputable def b59 : Code := (.seq (.region 0 (regOf Try.f59 0) false) (.seq (.region 1 (regOf Try.f59 1) false) (.seq (.region 2 (regOf Try.f59 2) false) (.seq (.seq (.region 3 (regOf Try.f59 3) false) (.block 0 (.loop l59_4))) (.seq (.region 7 (regOf Try.f59 7) false) .ret)))))
theorem body59 : Try.f59.body = some b59 := by kernel_rfl
noncomputable def C59_4 : Tab := []
theorem C59_4_ok : TabOK Try.prog C59_4 := trivial
noncomputable def LO59_4 : Tab := []
noncomputable def i59_4 : Tm := { sl := [(1, .v (.i .u64)), (5, .o 0), (6, .v (.i .i64))], bx := [], bf := [(.i .u8)] }
noncomputable def o59_4 : OT := (.exit 0 { sl := [(5, .o 0)], bx := [], bf := [(.i .u8)] })
noncomputable def T59_4 (a1 : Int) (a6 : Int) (q0 : (List Int)) : Option (((Int × (Unit × (Int × Unit))) × Unit × ((List Int) × Unit)) ⊕ ((Unit × Unit) × Unit × ((List Int) × Unit))) :=
  (bif (decide ((a6 : Int) < 8)) then (bif (decide ((0 : Int) ≤ (IntKind.wrap .i64 (56 - (IntKind.wrap .i64 (8 * a6)))))) then (bif (decide ((q0).length + ([(IntKind.wrap .u8 (iShr .u64 a1 (IntKind.wrap .i64 (56 - (IntKind.wrap .i64 (8 * a6))))))]).length < lim)) then (some (.inl ((a1, (), (IntKind.wrap .i64 (a6 + 1)), ()), (), ((q0 ++ [(IntKind.wrap .u8 (iShr .u64 a1 (IntKind.wrap .i64 (56 - (IntKind.wrap .i64 (8 * a6))))))]), ())))) else none) else none) else (some (.inr (((), ()), (), (q0, ())))))
noncomputable def L59_4 (a1 : Int) (a6 : Int) (q0 : (List Int)) : Option ((Unit × Unit) × Unit × ((List Int) × Unit)) := loopF (fun x : ((Int × (Unit × (Int × Unit))) × Unit × ((List Int) × Unit)) => T59_4 x.1.1 x.1.2.2.1 x.2.2.1) ((a1, (), a6, ()), (), (q0, ()))
theorem L59_4_eq (a1 : Int) (a6 : Int) (q0 : (List Int)) : L59_4 a1 a6 q0 = (T59_4 a1 a6 q0).bind (Sum.elim (fun x => L59_4 x.1.1 x.1.2.2.1 x.2.2.1) some) := loopF_eq _ _
noncomputable def k59_4 : Con := ⟨i59_4, o59_4, fun x => L59_4 x.1.1 x.1.2.2.1 x.2.2.1⟩
theorem e59_4 (x : i59_4.E) : vround Try.prog C59_4 LO59_4 Try.f59.ntmps l59_4 i59_4 o59_4 x = T59_4 x.1.1 x.1.2.2.1 x.2.2.1 := by kernel_rfl
theorem k59_4_ok : Con.LOK Try.prog Try.f59.ntmps l59_4 k59_4 := (loop_ok C59_4_ok (loops_of (l := []) (by kernel_rfl) (show LoopsOK Try.prog Try.f59.ntmps [] LO59_4 from trivial)) i59_4 o59_4).congr fun x => (congrArg (fun T => loopF T x) (funext e59_4)).symm
noncomputable def C59 : Tab := []
theorem C59_ok : TabOK Try.prog C59 := trivial
noncomputable def LO59 : Tab := [(4, k59_4)]
noncomputable def i59 : Tm := { sl := [(0, .v (.l (.i .u8))), (1, .v (.i .u64))], bx := [], bf := [] }
noncomputable def o59 : OT := (.ret { sl := [(0, .o 0)], bx := [], bf := [(.i .u8)] })
/-- anabranch/anabranchref01.Fixed -/
noncomputable def F59 (a0 : (List Int)) (a1 : Int) : Option ((Unit × Unit) × Unit × ((List Int) × Unit)) :=
  (bif (decide ((a0).length < lim)) then ((L59_4 a1 0 a0).bind fun y15 => (some (((), ()), (), (y15.2.2.1, ())))) else none)
noncomputable def c59 : Con := ⟨i59, o59, fun x => F59 x.1.1 x.1.2.1⟩
theorem e59 (x : i59.E) : vfn Try.prog C59 LO59 Try.f59 b59 i59 o59 x = F59 x.1.1 x.1.2.1 := by kernel_rfl
theorem c59_ok : Con.OK Try.prog 59 c59 := (fn_ok C59_ok Try.func59 body59 (loops_of (l := [l59_4]) (by kernel_rfl) (show LoopsOK Try.prog Try.f59.ntmps [l59_4] LO59 from ⟨k59_4_ok, trivial⟩)) i59 o59).congr fun x => (e59 x).symm
noncomputable def b71 : Code := (.seq (.region 0 (regOf Try.f71 0) false) (.seq (.region 1 (regOf Try.f71 1) false) .ret))
theorem body71 : Try.f71.body = some b71 := by kernel_rfl
noncomputable def C71 : Tab := []
theorem C71_ok : TabOK Try.prog C71 := trivial
noncomputable def LO71 : Tab := []
noncomputable def i71 : Tm := { sl := [(0, .v (.f .f64))], bx := [], bf := [] }
noncomputable def o71 : OT := (.ret { sl := [(0, .v .b)], bx := [], bf := [] })
/-- anabranch/anabranchref01.Void -/
noncomputable def F71 (a0 : Nat) : Option ((Bool × Unit) × Unit × Unit) :=
  (some ((((FloatKind.f64).format.order (a0) (a0) != some Ordering.eq), ()), (), ()))
noncomputable def c71 : Con := ⟨i71, o71, fun x => F71 x.1.1⟩
theorem e71 (x : i71.E) : vfn Try.prog C71 LO71 Try.f71 b71 i71 o71 x = F71 x.1.1 := by kernel_rfl
theorem c71_ok : Con.OK Try.prog 71 c71 := (fn_ok C71_ok Try.func71 body71 (loops_of (l := []) (by kernel_rfl) (show LoopsOK Try.prog Try.f71.ntmps [] LO71 from trivial)) i71 o71).congr fun x => (e71 x).symm
noncomputable def b77 : Code := (.seq (.region 0 (regOf Try.f77 0) false) (.seq (.region 1 (regOf Try.f77 1) false) .ret))
theorem body77 : Try.f77.body = some b77 := by kernel_rfl
noncomputable def C77 : Tab := []
theorem C77_ok : TabOK Try.prog C77 := trivial
noncomputable def LO77 : Tab := []
noncomputable def i77 : Tm := { sl := [(0, .v (.f .f64))], bx := [], bf := [] }
noncomputable def o77 : OT := (.ret { sl := [(0, .v .b)], bx := [], bf := [] })
/-- math.IsNaN -/
noncomputable def F77 (a0 : Nat) : Option ((Bool × Unit) × Unit × Unit) :=
  (some ((((FloatKind.f64).format.order (a0) (a0) != some Ordering.eq), ()), (), ()))
noncomputable def c77 : Con := ⟨i77, o77, fun x => F77 x.1.1⟩
theorem e77 (x : i77.E) : vfn Try.prog C77 LO77 Try.f77 b77 i77 o77 x = F77 x.1.1 := by kernel_rfl
theorem c77_ok : Con.OK Try.prog 77 c77 := (fn_ok C77_ok Try.func77 body77 (loops_of (l := []) (by kernel_rfl) (show LoopsOK Try.prog Try.f77.ntmps [] LO77 from trivial)) i77 o77).congr fun x => (e77 x).symm
noncomputable def b60 : Code := (.seq (.region 0 (regOf Try.f60 0) false) (.seq (.seq (.region 1 (regOf Try.f60 1) false) (.cond (.tmp 4) (.seq (.region 2 (regOf Try.f60 2) false) .ret) .skip)) (.seq (.region 3 (regOf Try.f60 3) false) .ret)))
theorem body60 : Try.f60.body = some b60 := by kernel_rfl
noncomputable def C60 : Tab := [(71, c71)]
theorem C60_ok : TabOK Try.prog C60 := ⟨c71_ok, trivial⟩
noncomputable def LO60 : Tab := []
noncomputable def i60 : Tm := { sl := [(0, .v (.f .f64))], bx := [], bf := [] }
noncomputable def o60 : OT := (.ret { sl := [(0, .v (.i .u64))], bx := [], bf := [] })
/-- anabranch/anabranchref01.Bits -/
noncomputable def F60 (a0 : Nat) : Option ((Int × Unit) × Unit × Unit) :=
  ((F71 a0).bind fun y16 => (bif y16.1.1 then (some ((9221120237041090561, ()), (), ())) else (some (((((a0) : Nat) : Int), ()), (), ()))))
noncomputable def c60 : Con := ⟨i60, o60, fun x => F60 x.1.1⟩
theorem e60 (x : i60.E) : vfn Try.prog C60 LO60 Try.f60 b60 i60 o60 x = F60 x.1.1 := by kernel_rfl
theorem c60_ok : Con.OK Try.prog 60 c60 := (fn_ok C60_ok Try.func60 body60 (loops_of (l := []) (by kernel_rfl) (show LoopsOK Try.prog Try.f60.ntmps [] LO60 from trivial)) i60 o60).congr fun x => (e60 x).symm
noncomputable def b64 : Code := (.seq (.region 0 (regOf Try.f64 0) false) (.seq (.seq (.region 1 (regOf Try.f64 1) false) (.cond (.tmp 4) (.seq (.region 2 (regOf Try.f64 2) false) .ret) .skip)) (.seq (.region 3 (regOf Try.f64 3) false) .ret)))
theorem body64 : Try.f64.body = some b64 := by kernel_rfl
noncomputable def C64 : Tab := [(77, c77)]
theorem C64_ok : TabOK Try.prog C64 := ⟨c77_ok, trivial⟩
noncomputable def LO64 : Tab := []
noncomputable def i64 : Tm := { sl := [(0, .v (.f .f64))], bx := [], bf := [] }
noncomputable def o64 : OT := (.ret { sl := [(0, .v (.i .u64))], bx := [], bf := [] })
/-- anabranch/quantity.Bits -/
noncomputable def F64 (a0 : Nat) : Option ((Int × Unit) × Unit × Unit) :=
  ((F77 a0).bind fun y17 => (bif y17.1.1 then (some ((9221120237041090561, ()), (), ())) else (some (((((a0) : Nat) : Int), ()), (), ()))))
noncomputable def c64 : Con := ⟨i64, o64, fun x => F64 x.1.1⟩
theorem e64 (x : i64.E) : vfn Try.prog C64 LO64 Try.f64 b64 i64 o64 x = F64 x.1.1 := by kernel_rfl
theorem c64_ok : Con.OK Try.prog 64 c64 := (fn_ok C64_ok Try.func64 body64 (loops_of (l := []) (by kernel_rfl) (show LoopsOK Try.prog Try.f64.ntmps [] LO64 from trivial)) i64 o64).congr fun x => (e64 x).symm
noncomputable def b47 : Code := (.seq (.region 0 (regOf Try.f47 0) false) (.seq (.region 1 (regOf Try.f47 1) false) .ret))
theorem body47 : Try.f47.body = some b47 := by kernel_rfl
noncomputable def C47 : Tab := [(64, c64)]
theorem C47_ok : TabOK Try.prog C47 := ⟨c64_ok, trivial⟩
noncomputable def LO47 : Tab := []
noncomputable def i47 : Tm := { sl := [(0, .v (.f .f64))], bx := [], bf := [] }
noncomputable def o47 : OT := (.ret { sl := [(0, .v (.f .f64))], bx := [], bf := [] })
/-- anabranch/quantity.Plain -/
noncomputable def F47 (a0 : Nat) : Option ((Nat × Unit) × Unit × Unit) :=
  ((F64 a0).bind fun y18 => (some (((y18.1.1 : Int).toNat, ()), (), ())))
noncomputable def c47 : Con := ⟨i47, o47, fun x => F47 x.1.1⟩
theorem e47 (x : i47.E) : vfn Try.prog C47 LO47 Try.f47 b47 i47 o47 x = F47 x.1.1 := by kernel_rfl
theorem c47_ok : Con.OK Try.prog 47 c47 := (fn_ok C47_ok Try.func47 body47 (loops_of (l := []) (by kernel_rfl) (show LoopsOK Try.prog Try.f47.ntmps [] LO47 from trivial)) i47 o47).congr fun x => (e47 x).symm
noncomputable def b25 : Code := (.seq (.region 0 (regOf Try.f25 0) false) (.seq (.region 1 (regOf Try.f25 1) false) (.seq (.block 0 (.seq (.region 2 (regOf Try.f25 2) false) (.cond (.tmp 12) (.seq (.region 3 (regOf Try.f25 3) false) .ret) (.seq (.region 4 (regOf Try.f25 4) false) (.cond (.tmp 48) (.seq (.region 5 (regOf Try.f25 5) false) .ret) (.seq (.region 6 (regOf Try.f25 6) false) (.cond (.tmp 73) (.seq (.region 7 (regOf Try.f25 7) false) .ret) .skip))))))) (.seq (.region 8 (regOf Try.f25 8) false) .ret))))
theorem body25 : Try.f25.body = some b25 := by kernel_rfl
noncomputable def C25 : Tab := [(46, c46)]
theorem C25_ok : TabOK Try.prog C25 := ⟨c46_ok, trivial⟩
noncomputable def LO25 : Tab := []
noncomputable def i25 : Tm := { sl := [(0, .v (.p (.i .i64) (.p (.i .u64) (.p (.i .u64) (.p (.i .u8) (.p .s (.p (.l (.i .u8)) (.p (.f .f64) (.p (.i .i64) .u)))))))))], bx := [], bf := [] }
noncomputable def o25 : OT := (.ret { sl := [(0, .v (.i .i64))], bx := [], bf := [] })
/-- anabranch/event.Right -/
noncomputable def F25 (a0 : (Int × (Int × (Int × (Int × (ByteArray × ((List Int) × (Nat × (Int × Unit))))))))) : Option ((Int × Unit) × Unit × Unit) :=
  (bif (decide ((a0.2.2.2.1 : Int) ≥ 1)) then ((F46 a0.1).bind fun y19 => (bif (!y19.1.1) then (some ((1, ()), (), ())) else (bif ((a0.2.1 : Int) == 0) then (some ((1, ()), (), ())) else (bif ((a0.2.2.1 : Int) == 0) then (some ((1, ()), (), ())) else (bif (decide ((a0.2.2.2.1 : Int) < 1)) then (some ((1, ()), (), ())) else (bif (decide ((a0.2.2.2.1 : Int) > 6)) then (some ((1, ()), (), ())) else (bif ((a0.2.2.2.1 : Int) == 5) then ((F46 a0.2.2.2.2.2.2.2.1).bind fun y20 => (bif (!y20.1.1) then (some ((1, ()), (), ())) else (bif (decide ((a0.2.2.2.1 : Int) ≤ 4)) then (bif ((((a0.2.2.2.2.1.size : Nat) : Int) : Int) == 0) then (some ((6, ()), (), ())) else (bif (decide ((((a0.2.2.2.2.1.size : Nat) : Int) : Int) > 64)) then (some ((6, ()), (), ())) else (bif ((a0.2.2.2.1 : Int) == 1) then (bif (decide (((((a0.2.2.2.2.2.1).length : Nat) : Int) : Int) > 1048576)) then (some ((6, ()), (), ())) else (bif (decide ((a0.2.1 : Int) > 9223372036854775807)) then (some ((8, ()), (), ())) else (bif (decide ((a0.2.2.1 : Int) > 9223372036854775807)) then (some ((8, ()), (), ())) else (some ((0, ()), (), ()))))) else (bif (decide ((a0.2.1 : Int) > 9223372036854775807)) then (some ((8, ()), (), ())) else (bif (decide ((a0.2.2.1 : Int) > 9223372036854775807)) then (some ((8, ()), (), ())) else (some ((0, ()), (), ()))))))) else (bif ((a0.2.2.2.1 : Int) == 1) then (bif (decide (((((a0.2.2.2.2.2.1).length : Nat) : Int) : Int) > 1048576)) then (some ((6, ()), (), ())) else (bif (decide ((a0.2.1 : Int) > 9223372036854775807)) then (some ((8, ()), (), ())) else (bif (decide ((a0.2.2.1 : Int) > 9223372036854775807)) then (some ((8, ()), (), ())) else (some ((0, ()), (), ()))))) else (bif (decide ((a0.2.1 : Int) > 9223372036854775807)) then (some ((8, ()), (), ())) else (bif (decide ((a0.2.2.1 : Int) > 9223372036854775807)) then (some ((8, ()), (), ())) else (some ((0, ()), (), ())))))))) else (bif (decide ((a0.2.2.2.1 : Int) ≤ 4)) then (bif ((((a0.2.2.2.2.1.size : Nat) : Int) : Int) == 0) then (some ((6, ()), (), ())) else (bif (decide ((((a0.2.2.2.2.1.size : Nat) : Int) : Int) > 64)) then (some ((6, ()), (), ())) else (bif ((a0.2.2.2.1 : Int) == 1) then (bif (decide (((((a0.2.2.2.2.2.1).length : Nat) : Int) : Int) > 1048576)) then (some ((6, ()), (), ())) else (bif (decide ((a0.2.1 : Int) > 9223372036854775807)) then (some ((8, ()), (), ())) else (bif (decide ((a0.2.2.1 : Int) > 9223372036854775807)) then (some ((8, ()), (), ())) else (some ((0, ()), (), ()))))) else (bif (decide ((a0.2.1 : Int) > 9223372036854775807)) then (some ((8, ()), (), ())) else (bif (decide ((a0.2.2.1 : Int) > 9223372036854775807)) then (some ((8, ()), (), ())) else (some ((0, ()), (), ()))))))) else (bif ((a0.2.2.2.1 : Int) == 1) then (bif (decide (((((a0.2.2.2.2.2.1).length : Nat) : Int) : Int) > 1048576)) then (some ((6, ()), (), ())) else (bif (decide ((a0.2.1 : Int) > 9223372036854775807)) then (some ((8, ()), (), ())) else (bif (decide ((a0.2.2.1 : Int) > 9223372036854775807)) then (some ((8, ()), (), ())) else (some ((0, ()), (), ()))))) else (bif (decide ((a0.2.1 : Int) > 9223372036854775807)) then (some ((8, ()), (), ())) else (bif (decide ((a0.2.2.1 : Int) > 9223372036854775807)) then (some ((8, ()), (), ())) else (some ((0, ()), (), ()))))))))))))) else ((F46 a0.1).bind fun y21 => (bif (!y21.1.1) then (some ((1, ()), (), ())) else (bif ((a0.2.1 : Int) == 0) then (some ((1, ()), (), ())) else (bif ((a0.2.2.1 : Int) == 0) then (some ((1, ()), (), ())) else (bif (decide ((a0.2.2.2.1 : Int) < 1)) then (some ((1, ()), (), ())) else (bif (decide ((a0.2.2.2.1 : Int) > 6)) then (some ((1, ()), (), ())) else (bif ((a0.2.2.2.1 : Int) == 5) then ((F46 a0.2.2.2.2.2.2.2.1).bind fun y22 => (bif (!y22.1.1) then (some ((1, ()), (), ())) else (bif ((a0.2.2.2.1 : Int) == 1) then (bif (decide (((((a0.2.2.2.2.2.1).length : Nat) : Int) : Int) > 1048576)) then (some ((6, ()), (), ())) else (bif (decide ((a0.2.1 : Int) > 9223372036854775807)) then (some ((8, ()), (), ())) else (bif (decide ((a0.2.2.1 : Int) > 9223372036854775807)) then (some ((8, ()), (), ())) else (some ((0, ()), (), ()))))) else (bif (decide ((a0.2.1 : Int) > 9223372036854775807)) then (some ((8, ()), (), ())) else (bif (decide ((a0.2.2.1 : Int) > 9223372036854775807)) then (some ((8, ()), (), ())) else (some ((0, ()), (), ()))))))) else (bif ((a0.2.2.2.1 : Int) == 1) then (bif (decide (((((a0.2.2.2.2.2.1).length : Nat) : Int) : Int) > 1048576)) then (some ((6, ()), (), ())) else (bif (decide ((a0.2.1 : Int) > 9223372036854775807)) then (some ((8, ()), (), ())) else (bif (decide ((a0.2.2.1 : Int) > 9223372036854775807)) then (some ((8, ()), (), ())) else (some ((0, ()), (), ()))))) else (bif (decide ((a0.2.1 : Int) > 9223372036854775807)) then (some ((8, ()), (), ())) else (bif (decide ((a0.2.2.1 : Int) > 9223372036854775807)) then (some ((8, ()), (), ())) else (some ((0, ()), (), ())))))))))))))
noncomputable def c25 : Con := ⟨i25, o25, fun x => F25 x.1.1⟩
theorem e25 (x : i25.E) : vfn Try.prog C25 LO25 Try.f25 b25 i25 o25 x = F25 x.1.1 := by kernel_rfl
theorem c25_ok : Con.OK Try.prog 25 c25 := (fn_ok C25_ok Try.func25 body25 (loops_of (l := []) (by kernel_rfl) (show LoopsOK Try.prog Try.f25.ntmps [] LO25 from trivial)) i25 o25).congr fun x => (e25 x).symm
noncomputable def b26 : Code := (.seq (.region 0 (regOf Try.f26 0) false) (.seq (.seq (.region 1 (regOf Try.f26 1) false) (.cond (.tmp 30) (.seq (.region 2 (regOf Try.f26 2) false) .ret) .skip)) (.seq (.seq (.region 3 (regOf Try.f26 3) false) (.cond (.tmp 43) (.seq (.region 4 (regOf Try.f26 4) false) .ret) .skip)) (.seq (.seq (.region 5 (regOf Try.f26 5) false) (.cond (.tmp 58) (.seq (.region 6 (regOf Try.f26 6) false) .ret) .skip)) (.seq (.seq (.region 7 (regOf Try.f26 7) false) (.cond (.tmp 67) (.seq (.region 8 (regOf Try.f26 8) false) .ret) .skip)) (.seq (.seq (.region 9 (regOf Try.f26 9) false) (.cond (.tmp 75) (.seq (.region 10 (regOf Try.f26 10) false) .ret) .skip)) (.seq (.region 11 (regOf Try.f26 11) false) .ret)))))))
theorem body26 : Try.f26.body = some b26 := by kernel_rfl
noncomputable def C26 : Tab := []
theorem C26_ok : TabOK Try.prog C26 := trivial
noncomputable def LO26 : Tab := []
noncomputable def i26 : Tm := { sl := [(0, .v (.p (.i .i64) (.p (.i .u64) (.p (.i .u64) (.p (.i .u8) (.p .s (.p (.l (.i .u8)) (.p (.f .f64) (.p (.i .i64) .u)))))))))], bx := [], bf := [] }
noncomputable def o26 : OT := (.ret { sl := [(0, .v (.i .i64))], bx := [], bf := [] })
/-- anabranch/anabranchref06.Right -/
noncomputable def F26 (a0 : (Int × (Int × (Int × (Int × (ByteArray × ((List Int) × (Nat × (Int × Unit))))))))) : Option ((Int × Unit) × Unit × Unit) :=
  (bif (decide ((a0.1 : Int) < 0)) then (some ((1, ()), (), ())) else (bif (decide ((a0.1 : Int) > 63)) then (some ((1, ()), (), ())) else (bif ((a0.2.1 : Int) == 0) then (some ((1, ()), (), ())) else (bif ((a0.2.2.1 : Int) == 0) then (some ((1, ()), (), ())) else (bif (decide ((a0.2.2.2.1 : Int) < 1)) then (some ((1, ()), (), ())) else (bif (decide ((a0.2.2.2.1 : Int) > 6)) then (some ((1, ()), (), ())) else (bif ((a0.2.2.2.1 : Int) == 5) then (bif (decide ((a0.2.2.2.2.2.2.2.1 : Int) < 0)) then (some ((1, ()), (), ())) else (bif (decide ((a0.2.2.2.2.2.2.2.1 : Int) > 63)) then (some ((1, ()), (), ())) else (bif (decide ((a0.2.2.2.1 : Int) ≤ 4)) then (bif ((((a0.2.2.2.2.1.size : Nat) : Int) : Int) == 0) then (some ((6, ()), (), ())) else (bif (decide ((((a0.2.2.2.2.1.size : Nat) : Int) : Int) > 64)) then (some ((6, ()), (), ())) else (bif ((a0.2.2.2.1 : Int) == 1) then (bif (decide (((((a0.2.2.2.2.2.1).length : Nat) : Int) : Int) > 1048576)) then (some ((6, ()), (), ())) else (bif (decide ((a0.2.1 : Int) ≥ 9223372036854775808)) then (some ((8, ()), (), ())) else (bif (decide ((a0.2.2.1 : Int) ≥ 9223372036854775808)) then (some ((8, ()), (), ())) else (some ((0, ()), (), ()))))) else (bif (decide ((a0.2.1 : Int) ≥ 9223372036854775808)) then (some ((8, ()), (), ())) else (bif (decide ((a0.2.2.1 : Int) ≥ 9223372036854775808)) then (some ((8, ()), (), ())) else (some ((0, ()), (), ()))))))) else (bif ((a0.2.2.2.1 : Int) == 1) then (bif (decide (((((a0.2.2.2.2.2.1).length : Nat) : Int) : Int) > 1048576)) then (some ((6, ()), (), ())) else (bif (decide ((a0.2.1 : Int) ≥ 9223372036854775808)) then (some ((8, ()), (), ())) else (bif (decide ((a0.2.2.1 : Int) ≥ 9223372036854775808)) then (some ((8, ()), (), ())) else (some ((0, ()), (), ()))))) else (bif (decide ((a0.2.1 : Int) ≥ 9223372036854775808)) then (some ((8, ()), (), ())) else (bif (decide ((a0.2.2.1 : Int) ≥ 9223372036854775808)) then (some ((8, ()), (), ())) else (some ((0, ()), (), ())))))))) else (bif (decide ((a0.2.2.2.1 : Int) ≤ 4)) then (bif ((((a0.2.2.2.2.1.size : Nat) : Int) : Int) == 0) then (some ((6, ()), (), ())) else (bif (decide ((((a0.2.2.2.2.1.size : Nat) : Int) : Int) > 64)) then (some ((6, ()), (), ())) else (bif ((a0.2.2.2.1 : Int) == 1) then (bif (decide (((((a0.2.2.2.2.2.1).length : Nat) : Int) : Int) > 1048576)) then (some ((6, ()), (), ())) else (bif (decide ((a0.2.1 : Int) ≥ 9223372036854775808)) then (some ((8, ()), (), ())) else (bif (decide ((a0.2.2.1 : Int) ≥ 9223372036854775808)) then (some ((8, ()), (), ())) else (some ((0, ()), (), ()))))) else (bif (decide ((a0.2.1 : Int) ≥ 9223372036854775808)) then (some ((8, ()), (), ())) else (bif (decide ((a0.2.2.1 : Int) ≥ 9223372036854775808)) then (some ((8, ()), (), ())) else (some ((0, ()), (), ()))))))) else (bif ((a0.2.2.2.1 : Int) == 1) then (bif (decide (((((a0.2.2.2.2.2.1).length : Nat) : Int) : Int) > 1048576)) then (some ((6, ()), (), ())) else (bif (decide ((a0.2.1 : Int) ≥ 9223372036854775808)) then (some ((8, ()), (), ())) else (bif (decide ((a0.2.2.1 : Int) ≥ 9223372036854775808)) then (some ((8, ()), (), ())) else (some ((0, ()), (), ()))))) else (bif (decide ((a0.2.1 : Int) ≥ 9223372036854775808)) then (some ((8, ()), (), ())) else (bif (decide ((a0.2.2.1 : Int) ≥ 9223372036854775808)) then (some ((8, ()), (), ())) else (some ((0, ()), (), ())))))))))))))
noncomputable def c26 : Con := ⟨i26, o26, fun x => F26 x.1.1⟩
theorem e26 (x : i26.E) : vfn Try.prog C26 LO26 Try.f26 b26 i26 o26 x = F26 x.1.1 := by kernel_rfl
theorem c26_ok : Con.OK Try.prog 26 c26 := (fn_ok C26_ok Try.func26 body26 (loops_of (l := []) (by kernel_rfl) (show LoopsOK Try.prog Try.f26.ntmps [] LO26 from trivial)) i26 o26).congr fun x => (e26 x).symm
noncomputable def b40 : Code := (.seq (.region 0 (regOf Try.f40 0) false) (.seq (.region 1 (regOf Try.f40 1) false) (.seq (.region 2 (regOf Try.f40 2) true) (.seq (.seq (.region 3 (regOf Try.f40 3) false) (.cond (.tmp 26) (.region 4 (regOf Try.f40 4) false) .skip)) (.seq (.seq (.region 5 (regOf Try.f40 5) false) (.block 0 (.seq (.region 6 (regOf Try.f40 6) false) (.cond (.tmp 34) (.region 7 (regOf Try.f40 7) false) (.seq (.seq (.region 8 (regOf Try.f40 8) false) (.cond (.tmp 40) .skip (.region 9 (regOf Try.f40 9) false))) (.cond (.tmp 40) (.region 10 (regOf Try.f40 10) false) (.seq (.region 11 (regOf Try.f40 11) false) (.cond (.tmp 48) (.region 12 (regOf Try.f40 12) false) .skip)))))))) (.seq (.region 13 (regOf Try.f40 13) false) .ret))))))
theorem body40 : Try.f40.body = some b40 := by kernel_rfl
noncomputable def C40 : Tab := [(56, c56), (62, c62), (63, c63), (64, c64)]
theorem C40_ok : TabOK Try.prog C40 := ⟨c56_ok, c62_ok, c63_ok, c64_ok, trivial⟩
noncomputable def LO40 : Tab := []
noncomputable def i40 : Tm := { sl := [(0, .v (.p (.i .i64) (.p (.i .u64) (.p (.i .u64) (.p (.i .u8) (.p .s (.p (.l (.i .u8)) (.p (.f .f64) (.p (.i .i64) .u)))))))))], bx := [], bf := [] }
noncomputable def o40 : OT := (.ret { sl := [(0, .o 0)], bx := [], bf := [(.i .u8)] })
/-- anabranch/event.Encode -/
noncomputable def F40 (a0 : (Int × (Int × (Int × (Int × (ByteArray × ((List Int) × (Nat × (Int × Unit))))))))) : Option ((Unit × Unit) × Unit × ((List Int) × Unit)) :=
  ((F56 (IntKind.wrap .u64 a0.1) ([] : List Int)).bind fun y23 => ((F56 a0.2.1 y23.2.2.1).bind fun y24 => ((F56 a0.2.2.1 y24.2.2.1).bind fun y25 => (bif (decide ((y25.2.2.1).length + ([a0.2.2.2.1]).length < lim)) then (bif (decide ((a0.2.2.2.1 : Int) ≥ 1)) then (bif (decide ((a0.2.2.2.1 : Int) ≤ 4)) then ((F62 (bytesL a0.2.2.2.2.1) (y25.2.2.1 ++ [a0.2.2.2.1])).bind fun y26 => (bif ((a0.2.2.2.1 : Int) == 1) then ((F62 a0.2.2.2.2.2.1 y26.2.2.1).bind fun y27 => (some (((), ()), (), (y27.2.2.1, ())))) else (bif ((a0.2.2.2.1 : Int) == 2) then ((F64 a0.2.2.2.2.2.2.1).bind fun y28 => ((F63 y28.1.1 y26.2.2.1).bind fun y29 => (some (((), ()), (), (y29.2.2.1, ()))))) else (bif ((a0.2.2.2.1 : Int) == 3) then ((F64 a0.2.2.2.2.2.2.1).bind fun y30 => ((F63 y30.1.1 y26.2.2.1).bind fun y31 => (some (((), ()), (), (y31.2.2.1, ()))))) else (bif ((a0.2.2.2.1 : Int) == 5) then ((F56 (IntKind.wrap .u64 a0.2.2.2.2.2.2.2.1) y26.2.2.1).bind fun y32 => (some (((), ()), (), (y32.2.2.1, ())))) else (some (((), ()), (), (y26.2.2.1, ())))))))) else (bif ((a0.2.2.2.1 : Int) == 1) then ((F62 a0.2.2.2.2.2.1 (y25.2.2.1 ++ [a0.2.2.2.1])).bind fun y33 => (some (((), ()), (), (y33.2.2.1, ())))) else (bif ((a0.2.2.2.1 : Int) == 2) then ((F64 a0.2.2.2.2.2.2.1).bind fun y34 => ((F63 y34.1.1 (y25.2.2.1 ++ [a0.2.2.2.1])).bind fun y35 => (some (((), ()), (), (y35.2.2.1, ()))))) else (bif ((a0.2.2.2.1 : Int) == 3) then ((F64 a0.2.2.2.2.2.2.1).bind fun y36 => ((F63 y36.1.1 (y25.2.2.1 ++ [a0.2.2.2.1])).bind fun y37 => (some (((), ()), (), (y37.2.2.1, ()))))) else (bif ((a0.2.2.2.1 : Int) == 5) then ((F56 (IntKind.wrap .u64 a0.2.2.2.2.2.2.2.1) (y25.2.2.1 ++ [a0.2.2.2.1])).bind fun y38 => (some (((), ()), (), (y38.2.2.1, ())))) else (some (((), ()), (), ((y25.2.2.1 ++ [a0.2.2.2.1]), ())))))))) else (bif ((a0.2.2.2.1 : Int) == 1) then ((F62 a0.2.2.2.2.2.1 (y25.2.2.1 ++ [a0.2.2.2.1])).bind fun y39 => (some (((), ()), (), (y39.2.2.1, ())))) else (bif ((a0.2.2.2.1 : Int) == 2) then ((F64 a0.2.2.2.2.2.2.1).bind fun y40 => ((F63 y40.1.1 (y25.2.2.1 ++ [a0.2.2.2.1])).bind fun y41 => (some (((), ()), (), (y41.2.2.1, ()))))) else (bif ((a0.2.2.2.1 : Int) == 3) then ((F64 a0.2.2.2.2.2.2.1).bind fun y42 => ((F63 y42.1.1 (y25.2.2.1 ++ [a0.2.2.2.1])).bind fun y43 => (some (((), ()), (), (y43.2.2.1, ()))))) else (bif ((a0.2.2.2.1 : Int) == 5) then ((F56 (IntKind.wrap .u64 a0.2.2.2.2.2.2.2.1) (y25.2.2.1 ++ [a0.2.2.2.1])).bind fun y44 => (some (((), ()), (), (y44.2.2.1, ())))) else (some (((), ()), (), ((y25.2.2.1 ++ [a0.2.2.2.1]), ())))))))) else none))))
noncomputable def c40 : Con := ⟨i40, o40, fun x => F40 x.1.1⟩
theorem e40 (x : i40.E) : vfn Try.prog C40 LO40 Try.f40 b40 i40 o40 x = F40 x.1.1 := by kernel_rfl
theorem c40_ok : Con.OK Try.prog 40 c40 := (fn_ok C40_ok Try.func40 body40 (loops_of (l := []) (by kernel_rfl) (show LoopsOK Try.prog Try.f40.ntmps [] LO40 from trivial)) i40 o40).congr fun x => (e40 x).symm
noncomputable def b38 : Code := (.seq (.region 0 (regOf Try.f38 0) false) (.seq (.region 1 (regOf Try.f38 1) true) (.seq (.region 2 (regOf Try.f38 2) false) (.seq (.seq (.region 3 (regOf Try.f38 3) false) (.cond (.tmp 21) (.region 4 (regOf Try.f38 4) false) .skip)) (.seq (.seq (.region 5 (regOf Try.f38 5) false) (.cond (.tmp 29) (.region 6 (regOf Try.f38 6) false) .skip)) (.seq (.seq (.region 7 (regOf Try.f38 7) false) (.cond (.tmp 41) (.region 8 (regOf Try.f38 8) false) .skip)) (.seq (.seq (.region 9 (regOf Try.f38 9) false) (.cond (.tmp 49) (.region 10 (regOf Try.f38 10) false) .skip)) (.seq (.region 11 (regOf Try.f38 11) false) .ret))))))))
theorem body38 : Try.f38.body = some b38 := by kernel_rfl
noncomputable def C38 : Tab := [(57, c57), (58, c58), (59, c59), (60, c60)]
theorem C38_ok : TabOK Try.prog C38 := ⟨c57_ok, c58_ok, c59_ok, c60_ok, trivial⟩
noncomputable def LO38 : Tab := []
noncomputable def i38 : Tm := { sl := [(0, .v (.p (.i .i64) (.p (.i .u64) (.p (.i .u64) (.p (.i .u8) (.p .s (.p (.l (.i .u8)) (.p (.f .f64) (.p (.i .i64) .u)))))))))], bx := [], bf := [] }
noncomputable def o38 : OT := (.ret { sl := [(0, .o 0)], bx := [], bf := [(.i .u8)] })
/-- anabranch/anabranchref06.Encode -/
noncomputable def F38 (a0 : (Int × (Int × (Int × (Int × (ByteArray × ((List Int) × (Nat × (Int × Unit))))))))) : Option ((Unit × Unit) × Unit × ((List Int) × Unit)) :=
  ((F57 [] (IntKind.wrap .u64 a0.1)).bind fun y45 => ((F57 y45.2.2.1 a0.2.1).bind fun y46 => ((F57 y46.2.2.1 a0.2.2.1).bind fun y47 => (bif (decide ((y47.2.2.1).length + ([a0.2.2.2.1]).length < lim)) then (bif (decide ((a0.2.2.2.1 : Int) ≤ 4)) then ((F58 (y47.2.2.1 ++ [a0.2.2.2.1]) (bytesL a0.2.2.2.2.1)).bind fun y48 => (bif ((a0.2.2.2.1 : Int) == 1) then ((F58 y48.2.2.1 a0.2.2.2.2.2.1).bind fun y49 => (bif ((a0.2.2.2.1 : Int) == 2) then ((F60 a0.2.2.2.2.2.2.1).bind fun y50 => ((F59 y49.2.2.1 y50.1.1).bind fun y51 => (bif ((a0.2.2.2.1 : Int) == 5) then ((F57 y51.2.2.1 (IntKind.wrap .u64 a0.2.2.2.2.2.2.2.1)).bind fun y52 => (some (((), ()), (), (y52.2.2.1, ())))) else (some (((), ()), (), (y51.2.2.1, ())))))) else (bif ((a0.2.2.2.1 : Int) == 3) then ((F60 a0.2.2.2.2.2.2.1).bind fun y53 => ((F59 y49.2.2.1 y53.1.1).bind fun y54 => (bif ((a0.2.2.2.1 : Int) == 5) then ((F57 y54.2.2.1 (IntKind.wrap .u64 a0.2.2.2.2.2.2.2.1)).bind fun y55 => (some (((), ()), (), (y55.2.2.1, ())))) else (some (((), ()), (), (y54.2.2.1, ())))))) else (bif ((a0.2.2.2.1 : Int) == 5) then ((F57 y49.2.2.1 (IntKind.wrap .u64 a0.2.2.2.2.2.2.2.1)).bind fun y56 => (some (((), ()), (), (y56.2.2.1, ())))) else (some (((), ()), (), (y49.2.2.1, ()))))))) else (bif ((a0.2.2.2.1 : Int) == 2) then ((F60 a0.2.2.2.2.2.2.1).bind fun y57 => ((F59 y48.2.2.1 y57.1.1).bind fun y58 => (bif ((a0.2.2.2.1 : Int) == 5) then ((F57 y58.2.2.1 (IntKind.wrap .u64 a0.2.2.2.2.2.2.2.1)).bind fun y59 => (some (((), ()), (), (y59.2.2.1, ())))) else (some (((), ()), (), (y58.2.2.1, ())))))) else (bif ((a0.2.2.2.1 : Int) == 3) then ((F60 a0.2.2.2.2.2.2.1).bind fun y60 => ((F59 y48.2.2.1 y60.1.1).bind fun y61 => (bif ((a0.2.2.2.1 : Int) == 5) then ((F57 y61.2.2.1 (IntKind.wrap .u64 a0.2.2.2.2.2.2.2.1)).bind fun y62 => (some (((), ()), (), (y62.2.2.1, ())))) else (some (((), ()), (), (y61.2.2.1, ())))))) else (bif ((a0.2.2.2.1 : Int) == 5) then ((F57 y48.2.2.1 (IntKind.wrap .u64 a0.2.2.2.2.2.2.2.1)).bind fun y63 => (some (((), ()), (), (y63.2.2.1, ())))) else (some (((), ()), (), (y48.2.2.1, ())))))))) else (bif ((a0.2.2.2.1 : Int) == 1) then ((F58 (y47.2.2.1 ++ [a0.2.2.2.1]) a0.2.2.2.2.2.1).bind fun y64 => (bif ((a0.2.2.2.1 : Int) == 2) then ((F60 a0.2.2.2.2.2.2.1).bind fun y65 => ((F59 y64.2.2.1 y65.1.1).bind fun y66 => (bif ((a0.2.2.2.1 : Int) == 5) then ((F57 y66.2.2.1 (IntKind.wrap .u64 a0.2.2.2.2.2.2.2.1)).bind fun y67 => (some (((), ()), (), (y67.2.2.1, ())))) else (some (((), ()), (), (y66.2.2.1, ())))))) else (bif ((a0.2.2.2.1 : Int) == 3) then ((F60 a0.2.2.2.2.2.2.1).bind fun y68 => ((F59 y64.2.2.1 y68.1.1).bind fun y69 => (bif ((a0.2.2.2.1 : Int) == 5) then ((F57 y69.2.2.1 (IntKind.wrap .u64 a0.2.2.2.2.2.2.2.1)).bind fun y70 => (some (((), ()), (), (y70.2.2.1, ())))) else (some (((), ()), (), (y69.2.2.1, ())))))) else (bif ((a0.2.2.2.1 : Int) == 5) then ((F57 y64.2.2.1 (IntKind.wrap .u64 a0.2.2.2.2.2.2.2.1)).bind fun y71 => (some (((), ()), (), (y71.2.2.1, ())))) else (some (((), ()), (), (y64.2.2.1, ()))))))) else (bif ((a0.2.2.2.1 : Int) == 2) then ((F60 a0.2.2.2.2.2.2.1).bind fun y72 => ((F59 (y47.2.2.1 ++ [a0.2.2.2.1]) y72.1.1).bind fun y73 => (bif ((a0.2.2.2.1 : Int) == 5) then ((F57 y73.2.2.1 (IntKind.wrap .u64 a0.2.2.2.2.2.2.2.1)).bind fun y74 => (some (((), ()), (), (y74.2.2.1, ())))) else (some (((), ()), (), (y73.2.2.1, ())))))) else (bif ((a0.2.2.2.1 : Int) == 3) then ((F60 a0.2.2.2.2.2.2.1).bind fun y75 => ((F59 (y47.2.2.1 ++ [a0.2.2.2.1]) y75.1.1).bind fun y76 => (bif ((a0.2.2.2.1 : Int) == 5) then ((F57 y76.2.2.1 (IntKind.wrap .u64 a0.2.2.2.2.2.2.2.1)).bind fun y77 => (some (((), ()), (), (y77.2.2.1, ())))) else (some (((), ()), (), (y76.2.2.1, ())))))) else (bif ((a0.2.2.2.1 : Int) == 5) then ((F57 (y47.2.2.1 ++ [a0.2.2.2.1]) (IntKind.wrap .u64 a0.2.2.2.2.2.2.2.1)).bind fun y78 => (some (((), ()), (), (y78.2.2.1, ())))) else (some (((), ()), (), ((y47.2.2.1 ++ [a0.2.2.2.1]), ())))))))) else none))))
noncomputable def c38 : Con := ⟨i38, o38, fun x => F38 x.1.1⟩
theorem e38 (x : i38.E) : vfn Try.prog C38 LO38 Try.f38 b38 i38 o38 x = F38 x.1.1 := by kernel_rfl
theorem c38_ok : Con.OK Try.prog 38 c38 := (fn_ok C38_ok Try.func38 body38 (loops_of (l := []) (by kernel_rfl) (show LoopsOK Try.prog Try.f38.ntmps [] LO38 from trivial)) i38 o38).congr fun x => (e38 x).symm
noncomputable def b27 : Code := (.seq (.region 0 (regOf Try.f27 0) false) (.seq (.region 1 (regOf Try.f27 1) true) .ret))
theorem body27 : Try.f27.body = some b27 := by kernel_rfl
noncomputable def C27 : Tab := [(40, c40)]
theorem C27_ok : TabOK Try.prog C27 := ⟨c40_ok, trivial⟩
noncomputable def LO27 : Tab := []
noncomputable def i27 : Tm := { sl := [(0, .v (.p (.i .i64) (.p (.i .u64) (.p (.i .u64) (.p (.i .u8) (.p .s (.p (.l (.i .u8)) (.p (.f .f64) (.p (.i .i64) .u))))))))), (1, .v (.p (.i .i64) (.p (.i .u64) (.p (.i .u64) (.p (.i .u8) (.p .s (.p (.l (.i .u8)) (.p (.f .f64) (.p (.i .i64) .u)))))))))], bx := [], bf := [] }
noncomputable def o27 : OT := (.ret { sl := [(0, .v .b)], bx := [], bf := [] })
/-- anabranch/event.Same -/
noncomputable def F27 (a0 : (Int × (Int × (Int × (Int × (ByteArray × ((List Int) × (Nat × (Int × Unit))))))))) (a1 : (Int × (Int × (Int × (Int × (ByteArray × ((List Int) × (Nat × (Int × Unit))))))))) : Option ((Bool × Unit) × Unit × Unit) :=
  ((F40 (a0.1, (a0.2.1, (a0.2.2.1, (a0.2.2.2.1, (a0.2.2.2.2.1, (a0.2.2.2.2.2.1, (a0.2.2.2.2.2.2.1, (a0.2.2.2.2.2.2.2.1, ()))))))))).bind fun y79 => ((F40 (a1.1, (a1.2.1, (a1.2.2.1, (a1.2.2.2.1, (a1.2.2.2.2.1, (a1.2.2.2.2.2.1, (a1.2.2.2.2.2.2.1, (a1.2.2.2.2.2.2.2.1, ()))))))))).bind fun y80 => (some (((((strL y79.2.2.1) : ByteArray).toList == ((strL y80.2.2.1) : ByteArray).toList), ()), (), ()))))
noncomputable def c27 : Con := ⟨i27, o27, fun x => F27 x.1.1 x.1.2.1⟩
theorem e27 (x : i27.E) : vfn Try.prog C27 LO27 Try.f27 b27 i27 o27 x = F27 x.1.1 x.1.2.1 := by kernel_rfl
theorem c27_ok : Con.OK Try.prog 27 c27 := (fn_ok C27_ok Try.func27 body27 (loops_of (l := []) (by kernel_rfl) (show LoopsOK Try.prog Try.f27.ntmps [] LO27 from trivial)) i27 o27).congr fun x => (e27 x).symm
noncomputable def b28 : Code := (.seq (.region 0 (regOf Try.f28 0) false) (.seq (.region 1 (regOf Try.f28 1) true) .ret))
theorem body28 : Try.f28.body = some b28 := by kernel_rfl
noncomputable def C28 : Tab := [(38, c38)]
theorem C28_ok : TabOK Try.prog C28 := ⟨c38_ok, trivial⟩
noncomputable def LO28 : Tab := []
noncomputable def i28 : Tm := { sl := [(0, .v (.p (.i .i64) (.p (.i .u64) (.p (.i .u64) (.p (.i .u8) (.p .s (.p (.l (.i .u8)) (.p (.f .f64) (.p (.i .i64) .u))))))))), (1, .v (.p (.i .i64) (.p (.i .u64) (.p (.i .u64) (.p (.i .u8) (.p .s (.p (.l (.i .u8)) (.p (.f .f64) (.p (.i .i64) .u)))))))))], bx := [], bf := [] }
noncomputable def o28 : OT := (.ret { sl := [(0, .v .b)], bx := [], bf := [] })
/-- anabranch/anabranchref06.Same -/
noncomputable def F28 (a0 : (Int × (Int × (Int × (Int × (ByteArray × ((List Int) × (Nat × (Int × Unit))))))))) (a1 : (Int × (Int × (Int × (Int × (ByteArray × ((List Int) × (Nat × (Int × Unit))))))))) : Option ((Bool × Unit) × Unit × Unit) :=
  ((F38 (a0.1, (a0.2.1, (a0.2.2.1, (a0.2.2.2.1, (a0.2.2.2.2.1, (a0.2.2.2.2.2.1, (a0.2.2.2.2.2.2.1, (a0.2.2.2.2.2.2.2.1, ()))))))))).bind fun y81 => ((F38 (a1.1, (a1.2.1, (a1.2.2.1, (a1.2.2.2.1, (a1.2.2.2.2.1, (a1.2.2.2.2.2.1, (a1.2.2.2.2.2.2.1, (a1.2.2.2.2.2.2.2.1, ()))))))))).bind fun y82 => (some (((((strL y81.2.2.1) : ByteArray).toList == ((strL y82.2.2.1) : ByteArray).toList), ()), (), ()))))
noncomputable def c28 : Con := ⟨i28, o28, fun x => F28 x.1.1 x.1.2.1⟩
theorem e28 (x : i28.E) : vfn Try.prog C28 LO28 Try.f28 b28 i28 o28 x = F28 x.1.1 x.1.2.1 := by kernel_rfl
theorem c28_ok : Con.OK Try.prog 28 c28 := (fn_ok C28_ok Try.func28 body28 (loops_of (l := []) (by kernel_rfl) (show LoopsOK Try.prog Try.f28.ntmps [] LO28 from trivial)) i28 o28).congr fun x => (e28 x).symm
noncomputable def b29 : Code := (.seq (.region 0 (regOf Try.f29 0) false) (.seq (.region 1 (regOf Try.f29 1) false) (.seq (.seq (.region 2 (regOf Try.f29 2) false) (.cond (.tmp 20) (.region 3 (regOf Try.f29 3) false) .skip)) (.seq (.seq (.region 4 (regOf Try.f29 4) false) (.block 0 (.seq (.region 5 (regOf Try.f29 5) false) (.cond (.tmp 26) (.region 6 (regOf Try.f29 6) false) (.seq (.seq (.region 7 (regOf Try.f29 7) false) (.cond (.tmp 32) .skip (.region 8 (regOf Try.f29 8) false))) (.cond (.tmp 32) (.region 9 (regOf Try.f29 9) false) (.seq (.region 10 (regOf Try.f29 10) false) (.cond (.tmp 39) (.region 11 (regOf Try.f29 11) false) .skip)))))))) (.seq (.region 12 (regOf Try.f29 12) false) .ret)))))
theorem body29 : Try.f29.body = some b29 := by kernel_rfl
noncomputable def C29 : Tab := [(47, c47)]
theorem C29_ok : TabOK Try.prog C29 := ⟨c47_ok, trivial⟩
noncomputable def LO29 : Tab := []
noncomputable def i29 : Tm := { sl := [(0, .v (.p (.i .i64) (.p (.i .u64) (.p (.i .u64) (.p (.i .u8) (.p .s (.p (.l (.i .u8)) (.p (.f .f64) (.p (.i .i64) .u)))))))))], bx := [], bf := [] }
noncomputable def o29 : OT := (.ret { sl := [(0, .v (.p (.i .i64) (.p (.i .u64) (.p (.i .u64) (.p (.i .u8) (.p .s (.p (.l (.i .u8)) (.p (.f .f64) (.p (.i .i64) .u)))))))))], bx := [], bf := [] })
/-- anabranch/event.Plain -/
noncomputable def F29 (a0 : (Int × (Int × (Int × (Int × (ByteArray × ((List Int) × (Nat × (Int × Unit))))))))) : Option (((Int × (Int × (Int × (Int × (ByteArray × ((List Int) × (Nat × (Int × Unit)))))))) × Unit) × Unit × Unit) :=
  (bif (decide ((a0.2.2.2.1 : Int) ≥ 1)) then (bif (decide ((a0.2.2.2.1 : Int) ≤ 4)) then (bif ((a0.2.2.2.1 : Int) == 1) then (bif (decide ((a0.2.2.2.2.2.1).length < lim)) then (some (((a0.1, (a0.2.1, (a0.2.2.1, (a0.2.2.2.1, (a0.2.2.2.2.1, (a0.2.2.2.2.2.1, (0, (0, ())))))))), ()), (), ())) else none) else (bif ((a0.2.2.2.1 : Int) == 2) then ((F47 a0.2.2.2.2.2.2.1).bind fun y83 => (some (((a0.1, (a0.2.1, (a0.2.2.1, (a0.2.2.2.1, (a0.2.2.2.2.1, ([], (y83.1.1, (0, ())))))))), ()), (), ()))) else (bif ((a0.2.2.2.1 : Int) == 3) then ((F47 a0.2.2.2.2.2.2.1).bind fun y84 => (some (((a0.1, (a0.2.1, (a0.2.2.1, (a0.2.2.2.1, (a0.2.2.2.2.1, ([], (y84.1.1, (0, ())))))))), ()), (), ()))) else (bif ((a0.2.2.2.1 : Int) == 5) then (some (((a0.1, (a0.2.1, (a0.2.2.1, (a0.2.2.2.1, (a0.2.2.2.2.1, ([], (0, (a0.2.2.2.2.2.2.2.1, ())))))))), ()), (), ())) else (some (((a0.1, (a0.2.1, (a0.2.2.1, (a0.2.2.2.1, (a0.2.2.2.2.1, ([], (0, (0, ())))))))), ()), (), ())))))) else (bif ((a0.2.2.2.1 : Int) == 1) then (bif (decide ((a0.2.2.2.2.2.1).length < lim)) then (some (((a0.1, (a0.2.1, (a0.2.2.1, (a0.2.2.2.1, (ByteArray.empty, (a0.2.2.2.2.2.1, (0, (0, ())))))))), ()), (), ())) else none) else (bif ((a0.2.2.2.1 : Int) == 2) then ((F47 a0.2.2.2.2.2.2.1).bind fun y85 => (some (((a0.1, (a0.2.1, (a0.2.2.1, (a0.2.2.2.1, (ByteArray.empty, ([], (y85.1.1, (0, ())))))))), ()), (), ()))) else (bif ((a0.2.2.2.1 : Int) == 3) then ((F47 a0.2.2.2.2.2.2.1).bind fun y86 => (some (((a0.1, (a0.2.1, (a0.2.2.1, (a0.2.2.2.1, (ByteArray.empty, ([], (y86.1.1, (0, ())))))))), ()), (), ()))) else (bif ((a0.2.2.2.1 : Int) == 5) then (some (((a0.1, (a0.2.1, (a0.2.2.1, (a0.2.2.2.1, (ByteArray.empty, ([], (0, (a0.2.2.2.2.2.2.2.1, ())))))))), ()), (), ())) else (some (((a0.1, (a0.2.1, (a0.2.2.1, (a0.2.2.2.1, (ByteArray.empty, ([], (0, (0, ())))))))), ()), (), ()))))))) else (bif ((a0.2.2.2.1 : Int) == 1) then (bif (decide ((a0.2.2.2.2.2.1).length < lim)) then (some (((a0.1, (a0.2.1, (a0.2.2.1, (a0.2.2.2.1, (ByteArray.empty, (a0.2.2.2.2.2.1, (0, (0, ())))))))), ()), (), ())) else none) else (bif ((a0.2.2.2.1 : Int) == 2) then ((F47 a0.2.2.2.2.2.2.1).bind fun y87 => (some (((a0.1, (a0.2.1, (a0.2.2.1, (a0.2.2.2.1, (ByteArray.empty, ([], (y87.1.1, (0, ())))))))), ()), (), ()))) else (bif ((a0.2.2.2.1 : Int) == 3) then ((F47 a0.2.2.2.2.2.2.1).bind fun y88 => (some (((a0.1, (a0.2.1, (a0.2.2.1, (a0.2.2.2.1, (ByteArray.empty, ([], (y88.1.1, (0, ())))))))), ()), (), ()))) else (bif ((a0.2.2.2.1 : Int) == 5) then (some (((a0.1, (a0.2.1, (a0.2.2.1, (a0.2.2.2.1, (ByteArray.empty, ([], (0, (a0.2.2.2.2.2.2.2.1, ())))))))), ()), (), ())) else (some (((a0.1, (a0.2.1, (a0.2.2.1, (a0.2.2.2.1, (ByteArray.empty, ([], (0, (0, ())))))))), ()), (), ())))))))
noncomputable def c29 : Con := ⟨i29, o29, fun x => F29 x.1.1⟩
theorem e29 (x : i29.E) : vfn Try.prog C29 LO29 Try.f29 b29 i29 o29 x = F29 x.1.1 := by kernel_rfl
theorem c29_ok : Con.OK Try.prog 29 c29 := (fn_ok C29_ok Try.func29 body29 (loops_of (l := []) (by kernel_rfl) (show LoopsOK Try.prog Try.f29.ntmps [] LO29 from trivial)) i29 o29).congr fun x => (e29 x).symm
noncomputable def b24 : Code := (.seq (.region 0 (regOf Try.f24 0) false) (.seq (.seq (.region 1 (regOf Try.f24 1) false) (.cond (.tmp 6) (.seq (.region 2 (regOf Try.f24 2) false) (.seq (.region 3 (regOf Try.f24 3) false) (.seq (.region 4 (regOf Try.f24 4) false) (.seq (.region 5 (regOf Try.f24 5) false) (.seq (.region 6 (regOf Try.f24 6) false) (.seq (.region 7 (regOf Try.f24 7) false) (.cond (.tmp 37) (.region 8 (regOf Try.f24 8) false) .skip))))))) .skip)) (.seq (.region 9 (regOf Try.f24 9) false) .ret)))
theorem body24 : Try.f24.body = some b24 := by kernel_rfl
noncomputable def C24 : Tab := []
theorem C24_ok : TabOK Try.prog C24 := trivial
noncomputable def LO24 : Tab := []
noncomputable def i24 : Tm := { sl := [(0, .v (.p (.i .i64) (.p (.i .u64) (.p (.i .u64) (.p (.i .u8) (.p .s (.p (.l (.i .u8)) (.p (.f .f64) (.p (.i .i64) .u))))))))), (1, .v (.i .u8))], bx := [], bf := [] }
noncomputable def o24 : OT := (.ret { sl := [(0, .v (.p (.i .i64) (.p (.i .u64) (.p (.i .u64) (.p (.i .u8) (.p .s (.p (.l (.i .u8)) (.p (.f .f64) (.p (.i .i64) .u)))))))))], bx := [], bf := [] })
/-- anabranch/anabranchlaw06.near -/
noncomputable def F24 (a0 : (Int × (Int × (Int × (Int × (ByteArray × ((List Int) × (Nat × (Int × Unit))))))))) (a1 : Int) : Option (((Int × (Int × (Int × (Int × (ByteArray × ((List Int) × (Nat × (Int × Unit)))))))) × Unit) × Unit × Unit) :=
  (bif (decide ((a1 : Int) ≥ 64)) then (bif ((((a0.2.2.2.2.1.size : Nat) : Int) : Int) == 0) then (some ((((IntKind.wrap .i64 (((IntKind.wrap .u64 a0.1) : Int).tmod 64)), ((IntKind.wrap .u64 (1 + ((a0.2.1 : Int).tmod 4611686018427387904))), ((IntKind.wrap .u64 (1 + ((a0.2.2.1 : Int).tmod 4611686018427387904))), ((IntKind.wrap .u8 (1 + ((a0.2.2.2.1 : Int).tmod 6))), ((⟨#[107]⟩ : ByteArray), (a0.2.2.2.2.2.1, (a0.2.2.2.2.2.2.1, ((IntKind.wrap .i64 (((IntKind.wrap .u64 a0.2.2.2.2.2.2.2.1) : Int).tmod 64)), ())))))))), ()), (), ())) else (some ((((IntKind.wrap .i64 (((IntKind.wrap .u64 a0.1) : Int).tmod 64)), ((IntKind.wrap .u64 (1 + ((a0.2.1 : Int).tmod 4611686018427387904))), ((IntKind.wrap .u64 (1 + ((a0.2.2.1 : Int).tmod 4611686018427387904))), ((IntKind.wrap .u8 (1 + ((a0.2.2.2.1 : Int).tmod 6))), (a0.2.2.2.2.1, (a0.2.2.2.2.2.1, (a0.2.2.2.2.2.2.1, ((IntKind.wrap .i64 (((IntKind.wrap .u64 a0.2.2.2.2.2.2.2.1) : Int).tmod 64)), ())))))))), ()), (), ()))) else (some (((a0.1, (a0.2.1, (a0.2.2.1, (a0.2.2.2.1, (a0.2.2.2.2.1, (a0.2.2.2.2.2.1, (a0.2.2.2.2.2.2.1, (a0.2.2.2.2.2.2.2.1, ())))))))), ()), (), ())))
noncomputable def c24 : Con := ⟨i24, o24, fun x => F24 x.1.1 x.1.2.1⟩
theorem e24 (x : i24.E) : vfn Try.prog C24 LO24 Try.f24 b24 i24 o24 x = F24 x.1.1 x.1.2.1 := by kernel_rfl
theorem c24_ok : Con.OK Try.prog 24 c24 := (fn_ok C24_ok Try.func24 body24 (loops_of (l := []) (by kernel_rfl) (show LoopsOK Try.prog Try.f24.ntmps [] LO24 from trivial)) i24 o24).congr fun x => (e24 x).symm
noncomputable def b23 : Code := (.seq (.region 0 (regOf Try.f23 0) false) (.seq (.region 1 (regOf Try.f23 1) false) .ret))
theorem body23 : Try.f23.body = some b23 := by kernel_rfl
noncomputable def C23 : Tab := [(40, c40)]
theorem C23_ok : TabOK Try.prog C23 := ⟨c40_ok, trivial⟩
noncomputable def LO23 : Tab := []
noncomputable def i23 : Tm := { sl := [], bx := [], bf := [] }
noncomputable def o23 : OT := (.ret { sl := [(0, .v .b)], bx := [], bf := [] })
/-- anabranch/anabranchlaw06.awake -/
noncomputable def F23 : Option ((Bool × Unit) × Unit × Unit) :=
  ((F40 (1, (2, (3, (4, ((⟨#[107]⟩ : ByteArray), ([], (0, (0, ()))))))))).bind fun y89 => (some (((((strL y89.2.2.1) : ByteArray).toList == ((⟨#[1, 2, 3, 4, 1, 107]⟩ : ByteArray) : ByteArray).toList), ()), (), ())))
noncomputable def c23 : Con := ⟨i23, o23, fun x => F23⟩
theorem e23 (x : i23.E) : vfn Try.prog C23 LO23 Try.f23 b23 i23 o23 x = F23 := by kernel_rfl
theorem c23_ok : Con.OK Try.prog 23 c23 := (fn_ok C23_ok Try.func23 body23 (loops_of (l := []) (by kernel_rfl) (show LoopsOK Try.prog Try.f23.ntmps [] LO23 from trivial)) i23 o23).congr fun x => (e23 x).symm
noncomputable def b6 : Code := (.seq (.region 0 (regOf Try.f6 0) false) (.seq (.seq (.region 1 (regOf Try.f6 1) false) (.cond (.tmp 18) (.seq (.region 2 (regOf Try.f6 2) false) .ret) .skip)) (.seq (.region 3 (regOf Try.f6 3) false) (.seq (.region 4 (regOf Try.f6 4) true) .ret))))
theorem body6 : Try.f6.body = some b6 := by kernel_rfl
noncomputable def C6 : Tab := [(23, c23), (24, c24), (25, c25), (26, c26)]
theorem C6_ok : TabOK Try.prog C6 := ⟨c23_ok, c24_ok, c25_ok, c26_ok, trivial⟩
noncomputable def LO6 : Tab := []
noncomputable def i6 : Tm := { sl := [(0, .v (.p (.i .i64) (.p (.i .u64) (.p (.i .u64) (.p (.i .u8) (.p .s (.p (.l (.i .u8)) (.p (.f .f64) (.p (.i .i64) .u))))))))), (1, .v (.i .u8))], bx := [], bf := [] }
noncomputable def o6 : OT := (.ret { sl := [(0, .v .b)], bx := [], bf := [] })
/-- anabranch/anabranchlaw06.EventRight -/
noncomputable def F6 (a0 : (Int × (Int × (Int × (Int × (ByteArray × ((List Int) × (Nat × (Int × Unit))))))))) (a1 : Int) : Option ((Bool × Unit) × Unit × Unit) :=
  ((F23).bind fun y90 => (bif (!y90.1.1) then ((F23).bind fun y91 => (some ((y91.1.1, ()), (), ()))) else (bif (decide ((((a0.2.2.2.2.1.size : Nat) : Int) : Int) > 100)) then ((F23).bind fun y92 => (some ((y92.1.1, ()), (), ()))) else (bif (decide (((((a0.2.2.2.2.2.1).length : Nat) : Int) : Int) > 1000)) then ((F23).bind fun y93 => (some ((y93.1.1, ()), (), ()))) else ((F24 (a0.1, (a0.2.1, (a0.2.2.1, (a0.2.2.2.1, (a0.2.2.2.2.1, (a0.2.2.2.2.2.1, (a0.2.2.2.2.2.2.1, (a0.2.2.2.2.2.2.2.1, ())))))))) a1).bind fun y94 => ((F25 (y94.1.1.1, (y94.1.1.2.1, (y94.1.1.2.2.1, (y94.1.1.2.2.2.1, (y94.1.1.2.2.2.2.1, (y94.1.1.2.2.2.2.2.1, (y94.1.1.2.2.2.2.2.2.1, (y94.1.1.2.2.2.2.2.2.2.1, ()))))))))).bind fun y95 => ((F26 (y94.1.1.1, (y94.1.1.2.1, (y94.1.1.2.2.1, (y94.1.1.2.2.2.1, (y94.1.1.2.2.2.2.1, (y94.1.1.2.2.2.2.2.1, (y94.1.1.2.2.2.2.2.2.1, (y94.1.1.2.2.2.2.2.2.2.1, ()))))))))).bind fun y96 => (some ((((y95.1.1 : Int) == y96.1.1), ()), (), ())))))))))
noncomputable def c6 : Con := ⟨i6, o6, fun x => F6 x.1.1 x.1.2.1⟩
theorem e6 (x : i6.E) : vfn Try.prog C6 LO6 Try.f6 b6 i6 o6 x = F6 x.1.1 x.1.2.1 := by kernel_rfl
theorem c6_ok : Con.OK Try.prog 6 c6 := (fn_ok C6_ok Try.func6 body6 (loops_of (l := []) (by kernel_rfl) (show LoopsOK Try.prog Try.f6.ntmps [] LO6 from trivial)) i6 o6).congr fun x => (e6 x).symm
noncomputable def b7 : Code := (.seq (.region 0 (regOf Try.f7 0) false) (.seq (.seq (.region 1 (regOf Try.f7 1) false) (.cond (.tmp 33) (.seq (.region 2 (regOf Try.f7 2) false) .ret) .skip)) (.seq (.region 3 (regOf Try.f7 3) false) (.seq (.region 4 (regOf Try.f7 4) false) (.seq (.seq (.region 5 (regOf Try.f7 5) false) (.cond (.tmp 41) (.seq (.region 6 (regOf Try.f7 6) false) (.seq (.region 7 (regOf Try.f7 7) false) (.region 8 (regOf Try.f7 8) false))) .skip)) (.seq (.seq (.region 9 (regOf Try.f7 9) false) (.cond (.tmp 54) (.seq (.region 10 (regOf Try.f7 10) false) .ret) .skip)) (.seq (.region 11 (regOf Try.f7 11) true) .ret)))))))
theorem body7 : Try.f7.body = some b7 := by kernel_rfl
noncomputable def C7 : Tab := [(23, c23), (24, c24), (26, c26), (27, c27), (28, c28), (29, c29)]
theorem C7_ok : TabOK Try.prog C7 := ⟨c23_ok, c24_ok, c26_ok, c27_ok, c28_ok, c29_ok, trivial⟩
noncomputable def LO7 : Tab := []
noncomputable def i7 : Tm := { sl := [(0, .v (.p (.i .i64) (.p (.i .u64) (.p (.i .u64) (.p (.i .u8) (.p .s (.p (.l (.i .u8)) (.p (.f .f64) (.p (.i .i64) .u))))))))), (1, .v (.p (.i .i64) (.p (.i .u64) (.p (.i .u64) (.p (.i .u8) (.p .s (.p (.l (.i .u8)) (.p (.f .f64) (.p (.i .i64) .u))))))))), (2, .v (.i .u8)), (3, .v .b)], bx := [], bf := [] }
noncomputable def o7 : OT := (.ret { sl := [(0, .v .b)], bx := [], bf := [] })
/-- anabranch/anabranchlaw06.EventSame -/
noncomputable def F7 (a0 : (Int × (Int × (Int × (Int × (ByteArray × ((List Int) × (Nat × (Int × Unit))))))))) (a1 : (Int × (Int × (Int × (Int × (ByteArray × ((List Int) × (Nat × (Int × Unit))))))))) (a2 : Int) (a3 : Bool) : Option ((Bool × Unit) × Unit × Unit) :=
  ((F23).bind fun y97 => (bif (!y97.1.1) then ((F23).bind fun y98 => (some ((y98.1.1, ()), (), ()))) else (bif (decide ((((a0.2.2.2.2.1.size : Nat) : Int) : Int) > 64)) then ((F23).bind fun y99 => (some ((y99.1.1, ()), (), ()))) else (bif (decide ((((a1.2.2.2.2.1.size : Nat) : Int) : Int) > 64)) then ((F23).bind fun y100 => (some ((y100.1.1, ()), (), ()))) else (bif (decide (((IntKind.wrap .i64 ((((a0.2.2.2.2.2.1).length : Nat) : Int) + (((a1.2.2.2.2.2.1).length : Nat) : Int))) : Int) > 500)) then ((F23).bind fun y101 => (some ((y101.1.1, ()), (), ()))) else ((F24 (a0.1, (a0.2.1, (a0.2.2.1, (a0.2.2.2.1, (a0.2.2.2.2.1, (a0.2.2.2.2.2.1, (a0.2.2.2.2.2.2.1, (a0.2.2.2.2.2.2.2.1, ())))))))) a2).bind fun y102 => ((F24 (a1.1, (a1.2.1, (a1.2.2.1, (a1.2.2.2.1, (a1.2.2.2.2.1, (a1.2.2.2.2.2.1, (a1.2.2.2.2.2.2.1, (a1.2.2.2.2.2.2.2.1, ())))))))) a2).bind fun y103 => (bif a3 then ((F26 (y102.1.1.1, (y102.1.1.2.1, (y102.1.1.2.2.1, (y102.1.1.2.2.2.1, (y102.1.1.2.2.2.2.1, (y102.1.1.2.2.2.2.2.1, (y102.1.1.2.2.2.2.2.2.1, (y102.1.1.2.2.2.2.2.2.2.1, ()))))))))).bind fun y104 => (bif ((y104.1.1 : Int) != 0) then (some ((true, ()), (), ())) else ((F26 (y102.1.1.1, (y102.1.1.2.1, (y102.1.1.2.2.1, (y102.1.1.2.2.2.1, (y102.1.1.2.2.2.2.1, (y102.1.1.2.2.2.2.2.1, (y103.1.1.2.2.2.2.2.2.1, (y102.1.1.2.2.2.2.2.2.2.1, ()))))))))).bind fun y105 => (bif ((y105.1.1 : Int) != 0) then (some ((true, ()), (), ())) else ((F27 (y102.1.1.1, (y102.1.1.2.1, (y102.1.1.2.2.1, (y102.1.1.2.2.2.1, (y102.1.1.2.2.2.2.1, (y102.1.1.2.2.2.2.2.1, (y102.1.1.2.2.2.2.2.2.1, (y102.1.1.2.2.2.2.2.2.2.1, ())))))))) (y102.1.1.1, (y102.1.1.2.1, (y102.1.1.2.2.1, (y102.1.1.2.2.2.1, (y102.1.1.2.2.2.2.1, (y102.1.1.2.2.2.2.2.1, (y103.1.1.2.2.2.2.2.2.1, (y102.1.1.2.2.2.2.2.2.2.1, ()))))))))).bind fun y106 => ((F28 (y102.1.1.1, (y102.1.1.2.1, (y102.1.1.2.2.1, (y102.1.1.2.2.2.1, (y102.1.1.2.2.2.2.1, (y102.1.1.2.2.2.2.2.1, (y102.1.1.2.2.2.2.2.2.1, (y102.1.1.2.2.2.2.2.2.2.1, ())))))))) (y102.1.1.1, (y102.1.1.2.1, (y102.1.1.2.2.1, (y102.1.1.2.2.2.1, (y102.1.1.2.2.2.2.1, (y102.1.1.2.2.2.2.2.1, (y103.1.1.2.2.2.2.2.2.1, (y102.1.1.2.2.2.2.2.2.2.1, ()))))))))).bind fun y107 => (bif (y106.1.1 == y107.1.1) then ((F29 (y102.1.1.1, (y102.1.1.2.1, (y102.1.1.2.2.1, (y102.1.1.2.2.2.1, (y102.1.1.2.2.2.2.1, (y102.1.1.2.2.2.2.2.1, (y102.1.1.2.2.2.2.2.2.1, (y102.1.1.2.2.2.2.2.2.2.1, ()))))))))).bind fun y108 => ((F27 (y102.1.1.1, (y102.1.1.2.1, (y102.1.1.2.2.1, (y102.1.1.2.2.2.1, (y102.1.1.2.2.2.2.1, (y102.1.1.2.2.2.2.2.1, (y102.1.1.2.2.2.2.2.2.1, (y102.1.1.2.2.2.2.2.2.2.1, ())))))))) (y108.1.1.1, (y108.1.1.2.1, (y108.1.1.2.2.1, (y108.1.1.2.2.2.1, (y108.1.1.2.2.2.2.1, (y108.1.1.2.2.2.2.2.1, (y108.1.1.2.2.2.2.2.2.1, (y108.1.1.2.2.2.2.2.2.2.1, ()))))))))).bind fun y109 => (some ((y109.1.1, ()), (), ())))) else (some ((false, ()), (), ()))))))))) else ((F26 (y102.1.1.1, (y102.1.1.2.1, (y102.1.1.2.2.1, (y102.1.1.2.2.2.1, (y102.1.1.2.2.2.2.1, (y102.1.1.2.2.2.2.2.1, (y102.1.1.2.2.2.2.2.2.1, (y102.1.1.2.2.2.2.2.2.2.1, ()))))))))).bind fun y110 => (bif ((y110.1.1 : Int) != 0) then (some ((true, ()), (), ())) else ((F26 (y103.1.1.1, (y103.1.1.2.1, (y103.1.1.2.2.1, (y103.1.1.2.2.2.1, (y103.1.1.2.2.2.2.1, (y103.1.1.2.2.2.2.2.1, (y103.1.1.2.2.2.2.2.2.1, (y103.1.1.2.2.2.2.2.2.2.1, ()))))))))).bind fun y111 => (bif ((y111.1.1 : Int) != 0) then (some ((true, ()), (), ())) else ((F27 (y102.1.1.1, (y102.1.1.2.1, (y102.1.1.2.2.1, (y102.1.1.2.2.2.1, (y102.1.1.2.2.2.2.1, (y102.1.1.2.2.2.2.2.1, (y102.1.1.2.2.2.2.2.2.1, (y102.1.1.2.2.2.2.2.2.2.1, ())))))))) (y103.1.1.1, (y103.1.1.2.1, (y103.1.1.2.2.1, (y103.1.1.2.2.2.1, (y103.1.1.2.2.2.2.1, (y103.1.1.2.2.2.2.2.1, (y103.1.1.2.2.2.2.2.2.1, (y103.1.1.2.2.2.2.2.2.2.1, ()))))))))).bind fun y112 => ((F28 (y102.1.1.1, (y102.1.1.2.1, (y102.1.1.2.2.1, (y102.1.1.2.2.2.1, (y102.1.1.2.2.2.2.1, (y102.1.1.2.2.2.2.2.1, (y102.1.1.2.2.2.2.2.2.1, (y102.1.1.2.2.2.2.2.2.2.1, ())))))))) (y103.1.1.1, (y103.1.1.2.1, (y103.1.1.2.2.1, (y103.1.1.2.2.2.1, (y103.1.1.2.2.2.2.1, (y103.1.1.2.2.2.2.2.1, (y103.1.1.2.2.2.2.2.2.1, (y103.1.1.2.2.2.2.2.2.2.1, ()))))))))).bind fun y113 => (bif (y112.1.1 == y113.1.1) then ((F29 (y102.1.1.1, (y102.1.1.2.1, (y102.1.1.2.2.1, (y102.1.1.2.2.2.1, (y102.1.1.2.2.2.2.1, (y102.1.1.2.2.2.2.2.1, (y102.1.1.2.2.2.2.2.2.1, (y102.1.1.2.2.2.2.2.2.2.1, ()))))))))).bind fun y114 => ((F27 (y102.1.1.1, (y102.1.1.2.1, (y102.1.1.2.2.1, (y102.1.1.2.2.2.1, (y102.1.1.2.2.2.2.1, (y102.1.1.2.2.2.2.2.1, (y102.1.1.2.2.2.2.2.2.1, (y102.1.1.2.2.2.2.2.2.2.1, ())))))))) (y114.1.1.1, (y114.1.1.2.1, (y114.1.1.2.2.1, (y114.1.1.2.2.2.1, (y114.1.1.2.2.2.2.1, (y114.1.1.2.2.2.2.2.1, (y114.1.1.2.2.2.2.2.2.1, (y114.1.1.2.2.2.2.2.2.2.1, ()))))))))).bind fun y115 => (some ((y115.1.1, ()), (), ())))) else (some ((false, ()), (), ())))))))))))))))))
noncomputable def c7 : Con := ⟨i7, o7, fun x => F7 x.1.1 x.1.2.1 x.1.2.2.1 x.1.2.2.2.1⟩
theorem e7 (x : i7.E) : vfn Try.prog C7 LO7 Try.f7 b7 i7 o7 x = F7 x.1.1 x.1.2.1 x.1.2.2.1 x.1.2.2.2.1 := by kernel_rfl
theorem c7_ok : Con.OK Try.prog 7 c7 := (fn_ok C7_ok Try.func7 body7 (loops_of (l := []) (by kernel_rfl) (show LoopsOK Try.prog Try.f7.ntmps [] LO7 from trivial)) i7 o7).congr fun x => (e7 x).symm
noncomputable def b8 : Code := (.seq (.region 0 (regOf Try.f8 0) false) (.seq (.region 1 (regOf Try.f8 1) false) (.seq (.region 2 (regOf Try.f8 2) false) .ret)))
theorem body8 : Try.f8.body = some b8 := by kernel_rfl
noncomputable def C8 : Tab := [(23, c23), (30, c30), (31, c31)]
theorem C8_ok : TabOK Try.prog C8 := ⟨c23_ok, c30_ok, c31_ok, trivial⟩
noncomputable def LO8 : Tab := []
noncomputable def i8 : Tm := { sl := [(0, .v (.p (.i .u64) (.p (.i .i64) .u))), (1, .v (.p (.i .u64) (.p (.i .i64) .u))), (2, .v (.p (.i .u64) (.p (.i .i64) .u)))], bx := [], bf := [] }
noncomputable def o8 : OT := (.ret { sl := [(0, .v .b)], bx := [], bf := [] })
/-- anabranch/anabranchlaw06.EventOrders -/
noncomputable def F8 (a0 : (Int × (Int × Unit))) (a1 : (Int × (Int × Unit))) (a2 : (Int × (Int × Unit))) : Option ((Bool × Unit) × Unit × Unit) :=
  ((F30 (a0.1, (a0.2.1, ())) (a1.1, (a1.2.1, ()))).bind fun y116 => ((F23).bind fun y117 => (bif y117.1.1 then ((F31 (a0.1, (a0.2.1, ())) (a1.1, (a1.2.1, ()))).bind fun y118 => (bif ((decide ((y116.1.1 : Int) < 0)) == y118.1.1) then ((F31 (a1.1, (a1.2.1, ())) (a0.1, (a0.2.1, ()))).bind fun y119 => (bif ((decide ((y116.1.1 : Int) > 0)) == y119.1.1) then (bif (((y116.1.1 : Int) == 0) == (((a0.1 : Int) == a1.1) && ((a0.2.1 : Int) == a1.2.1))) then (bif (decide ((y116.1.1 : Int) ≥ 0)) then (some ((true, ()), (), ())) else ((F30 (a1.1, (a1.2.1, ())) (a2.1, (a2.2.1, ()))).bind fun y120 => (bif (decide ((y120.1.1 : Int) ≥ 0)) then (some ((true, ()), (), ())) else ((F30 (a0.1, (a0.2.1, ())) (a2.1, (a2.2.1, ()))).bind fun y121 => (some (((decide ((y121.1.1 : Int) < 0)), ()), (), ())))))) else (some ((false, ()), (), ()))) else (some ((false, ()), (), ())))) else (some ((false, ()), (), ())))) else (some ((false, ()), (), ())))))
noncomputable def c8 : Con := ⟨i8, o8, fun x => F8 x.1.1 x.1.2.1 x.1.2.2.1⟩
theorem e8 (x : i8.E) : vfn Try.prog C8 LO8 Try.f8 b8 i8 o8 x = F8 x.1.1 x.1.2.1 x.1.2.2.1 := by kernel_rfl
theorem c8_ok : Con.OK Try.prog 8 c8 := (fn_ok C8_ok Try.func8 body8 (loops_of (l := []) (by kernel_rfl) (show LoopsOK Try.prog Try.f8.ntmps [] LO8 from trivial)) i8 o8).congr fun x => (e8 x).symm
end Go.IM.V

/- Digits: what the printed functions tell. -/
set_option linter.unusedVariables false
set_option linter.unusedSimpArgs false
set_option linter.constructorNameAsVariable false
namespace Go.IM.V
open Go Go.IM Go.Proofs

/-- A number as digits: seven bits each, the lowest first. -/
def dgF : Nat → Int → List Int
  | 0, n => [n]
  | f + 1, n => if n < 128 then [n] else (128 + n % 128) :: dgF f (n / 128)
def dg (n : Int) : List Int := dgF 9 n
theorem dgF_len : ∀ (f : Nat) (n : Int), (dgF f n).length ≤ f + 1
  | 0, _ => by simp [dgF]
  | f + 1, n => by
    unfold dgF
    split
    · simp
    · have := dgF_len f (n / 128); simp; omega
theorem dg_len (n : Int) : (dg n).length ≤ 10 := dgF_len 9 n
theorem dgF_lt {f : Nat} {n : Int} (h : n < 128) : dgF f n = [n] := by
  cases f with
  | zero => rfl
  | succ f => unfold dgF; rw [if_pos h]
theorem or128' : ∀ a : Fin 256, iOr .u8 (a.val : Int) 128 = 128 + (a.val : Int) % 128 := by decide +kernel
theorem or128 (n : Int) : iOr .u8 (IntKind.wrap .u8 n) 128 = 128 + n % 128 := by
  rw [wu8_mod]
  have := or128' ⟨(n % 256).toNat, by omega⟩
  simp only at this
  rw [show (((n % 256).toNat : Nat) : Int) = n % 256 from by omega] at this
  rw [this]; omega
theorem shr7 {n : Int} (h : 0 ≤ n) : iShr .u64 n 7 = n / 128 := by
  unfold iShr
  show n.fdiv (2 ^ 7) = _
  rw [Int.fdiv_eq_ediv_of_nonneg _ (by omega)]
  rfl

theorem L56_run : ∀ (f : Nat) (n : Int) (q : List Int), 0 ≤ n → n < 128 ^ (f + 1) → q.length + f < lim →
    ∃ n' p, L56_1 n q = some (((), n', ()), (), (q ++ p, ())) ∧ 0 ≤ n' ∧ n' < 128 ∧ p ++ [n'] = dgF f n ∧ p.length ≤ f := by
  intro f
  induction f with
  | zero =>
    intro n q h0 h1 hq
    refine ⟨n, [], ?_, h0, by omega, rfl, by simp⟩
    rw [L56_1_eq]
    simp only [T56_1, cif]
    rw [if_neg (by omega)]
    simp
  | succ f ih =>
    intro n q h0 h1 hq
    by_cases hn : n < 128
    · refine ⟨n, [], ?_, h0, hn, by rw [dgF_lt hn]; rfl, by simp⟩
      rw [L56_1_eq]
      simp only [T56_1, cif]
      rw [if_neg (by omega)]
      simp
    · have hl : (q ++ [128 + n % 128]).length = q.length + 1 := by simp
      obtain ⟨n', p, e, a, b, c, d⟩ := ih (n / 128) (q ++ [128 + n % 128]) (by omega) (by rw [Int.pow_succ] at h1; omega) (by rw [hl]; omega)
      refine ⟨n', (128 + n % 128) :: p, ?_, a, b, ?_, by simp; omega⟩
      · rw [L56_1_eq]
        simp only [T56_1, cif]
        rw [if_pos (by omega), if_pos (by simp; omega), or128, shr7 h0]
        simp only [Option.bind_some, Sum.elim_inl]
        rw [e]
        simp
      · rw [dgF, if_neg hn, List.cons_append, c]
theorem F56_eq (n : Int) (q : List Int) (h0 : 0 ≤ n) (h1 : n < 18446744073709551616) (hq : q.length + 10 < lim) : F56 n q = some (ro (q ++ dg n)) := by
  obtain ⟨n', p, e, a, b, c, d⟩ := L56_run 9 n q h0 (by rw [show (128 : Int) ^ (9 + 1) = 1180591620717411303424 from by decide]; omega) (by omega)
  unfold F56
  rw [e]
  simp only [Option.bind_some, cif]
  rw [if_pos (by simp; omega), wu8_mod, Int.emod_eq_of_lt a (by omega), List.append_assoc, c]
  rfl
theorem L57_run : ∀ (f : Nat) (n : Int) (q : List Int), 0 ≤ n → n < 18446744073709551616 → n < 128 ^ (f + 1) → q.length + f < lim →
    ∃ n' p, L57_3 n q = some ((n', (), ()), (), (q ++ p, ())) ∧ 0 ≤ n' ∧ n' < 128 ∧ p ++ [n'] = dgF f n ∧ p.length ≤ f := by
  intro f
  induction f with
  | zero =>
    intro n q h0 h2 h1 hq
    refine ⟨n, [], ?_, h0, by omega, rfl, by simp⟩
    rw [L57_3_eq]
    simp only [T57_3, cif]
    rw [if_neg (by omega)]
    simp
  | succ f ih =>
    intro n q h0 h2 h1 hq
    by_cases hn : n < 128
    · refine ⟨n, [], ?_, h0, hn, by rw [dgF_lt hn]; rfl, by simp⟩
      rw [L57_3_eq]
      simp only [T57_3, cif]
      rw [if_neg (by omega)]
      simp
    · have hl : (q ++ [128 + n % 128]).length = q.length + 1 := by simp
      obtain ⟨n', p, e, a, b, c, d⟩ := ih (n / 128) (q ++ [128 + n % 128]) (by omega) (by omega) (by rw [Int.pow_succ] at h1; omega) (by rw [hl]; omega)
      refine ⟨n', (128 + n % 128) :: p, ?_, a, b, ?_, by simp; omega⟩
      · rw [L57_3_eq]
        simp only [T57_3, cif]
        rw [if_pos (by omega), if_pos (by simp; omega), Int.tmod_eq_emod_of_nonneg h0, Int.tdiv_eq_ediv_of_nonneg h0, wu64 (n := 128 + n % 128) (by omega) (by omega),
          wu8_mod, Int.emod_eq_of_lt (a := 128 + n % 128) (by omega) (by omega), wu64 (n := n / 128) (by omega) (by omega)]
        simp only [Option.bind_some, Sum.elim_inl]
        rw [e]
        simp
      · rw [dgF, if_neg hn, List.cons_append, c]
theorem F57_eq (q : List Int) (n : Int) (h0 : 0 ≤ n) (h1 : n < 18446744073709551616) (hq : q.length + 10 < lim) : F57 q n = some (ro (q ++ dg n)) := by
  obtain ⟨n', p, e, a, b, c, d⟩ := L57_run 9 n q h0 h1 (by rw [show (128 : Int) ^ (9 + 1) = 1180591620717411303424 from by decide]; omega) (by omega)
  unfold F57
  simp only [cif]
  rw [if_pos (by omega), e]
  simp only [Option.bind_some, cif]
  rw [if_pos (by simp; omega), wu8_mod, Int.emod_eq_of_lt a (by omega), List.append_assoc, c]
  rfl

/-- A text: how many bytes, and they. -/
def dgT (t : List Int) : List Int := dg t.length ++ t
theorem dgT_len (t : List Int) : (dgT t).length ≤ 10 + t.length := by unfold dgT; have := dg_len t.length; simp; omega
theorem F62_eq (t q : List Int) (ht : t.length < 4294967296) (hq : q.length + t.length + 10 < lim) : F62 t q = some (ro (q ++ dgT t)) := by
  unfold F62
  rw [wu64 (by omega) (by omega), F56_eq _ _ (by omega) (by omega) (by omega)]
  have := dg_len t.length
  simp only [Option.bind_some, cif]
  rw [if_pos (by simp; omega), List.append_assoc]
  rfl
theorem F58_eq (q t : List Int) (ht : t.length < 4294967296) (hq : q.length + t.length + 10 < lim) : F58 q t = some (ro (q ++ dgT t)) := by
  unfold F58
  rw [wu64 (by omega) (by omega), F57_eq _ _ (by omega) (by omega) (by omega)]
  have := dg_len t.length
  simp only [Option.bind_some, cif]
  rw [if_pos (by simp; omega), List.append_assoc]
  rfl

/-- A number in eight bytes, the highest first; the last k of these. -/
def fixF (n : Int) : Nat → List Int
  | 0 => []
  | k + 1 => (n / 256 ^ k) % 256 :: fixF n k
def fix8 (n : Int) : List Int := fixF n 8
theorem fixF_len (n : Int) : ∀ k, (fixF n k).length = k
  | 0 => rfl
  | k + 1 => by simp [fixF, fixF_len n k]
theorem shr8 {n : Int} (h : 0 ≤ n) (k : Nat) (hk : k < 8) : IntKind.wrap .u8 (iShr .u64 n ((8 * k : Nat) : Int)) = (n / 256 ^ k) % 256 := by
  rw [wu8_mod]
  unfold iShr
  rw [Int.toNat_natCast, Nat.min_eq_left (by show 8 * k ≤ 64; omega), Int.fdiv_eq_ediv_of_nonneg _ (by exact Int.le_of_lt (Int.pow_pos (by decide))), Int.pow_mul]
  rfl
theorem L63_run (n : Int) (h0 : 0 ≤ n) : ∀ (k : Nat) (q : List Int), k ≤ 8 → q.length + k < lim → L63_2 n ((k : Int) - 1) q = some (((), ()), (), (q ++ fixF n k, ())) := by
  intro k
  induction k with
  | zero =>
    intro q hk hq
    rw [L63_2_eq]
    simp only [T63_2, cif]
    rw [if_neg (by omega)]
    simp [fixF]
  | succ k ih =>
    intro q hk hq
    rw [L63_2_eq]
    simp only [T63_2, cif]
    have hw : IntKind.wrap .i64 (8 * (((k + 1 : Nat) : Int) - 1)) = ((8 * k : Nat) : Int) := by rw [w64 (by omega) (by omega)]; omega
    have hw2 : IntKind.wrap .i64 (((k + 1 : Nat) : Int) - 1 - 1) = (k : Int) - 1 := by rw [w64 (by omega) (by omega)]; omega
    rw [if_pos (by omega), hw, hw2, shr8 h0 k (by omega), if_pos (by omega), if_pos (by simp; omega)]
    simp only [Option.bind_some, Sum.elim_inl]
    rw [ih (q ++ [(n / 256 ^ k) % 256]) (by omega) (by simp; omega)]
    simp [fixF]
theorem F63_eq (n : Int) (q : List Int) (h0 : 0 ≤ n) (hq : q.length + 8 < lim) : F63 n q = some (ro (q ++ fix8 n)) := by
  unfold F63
  have := L63_run n h0 8 q (by omega) hq
  rw [show ((8 : Nat) : Int) - 1 = 7 from rfl] at this
  rw [this]
  rfl
theorem L59_run (n : Int) (h0 : 0 ≤ n) : ∀ (k : Nat) (q : List Int), k ≤ 8 → q.length + k < lim → L59_4 n (8 - (k : Int)) q = some (((), ()), (), (q ++ fixF n k, ())) := by
  intro k
  induction k with
  | zero =>
    intro q hk hq
    rw [L59_4_eq]
    simp only [T59_4, cif]
    rw [if_neg (by omega)]
    simp [fixF]
  | succ k ih =>
    intro q hk hq
    rw [L59_4_eq]
    simp only [T59_4, cif]
    have hw : IntKind.wrap .i64 (56 - IntKind.wrap .i64 (8 * (8 - ((k + 1 : Nat) : Int)))) = ((8 * k : Nat) : Int) := by
      rw [w64 (n := 8 * (8 - ((k + 1 : Nat) : Int))) (by omega) (by omega), w64 (by omega) (by omega)]; omega
    have hw2 : IntKind.wrap .i64 (8 - ((k + 1 : Nat) : Int) + 1) = 8 - (k : Int) := by rw [w64 (by omega) (by omega)]; omega
    rw [if_pos (by omega), hw, hw2, shr8 h0 k (by omega), if_pos (by omega), if_pos (by simp; omega)]
    simp only [Option.bind_some, Sum.elim_inl]
    rw [ih (q ++ [(n / 256 ^ k) % 256]) (by omega) (by simp; omega)]
    simp [fixF]
theorem F59_eq (q : List Int) (n : Int) (h0 : 0 ≤ n) (hq : q.length + 8 < lim) : F59 q n = some (ro (q ++ fix8 n)) := by
  unfold F59
  simp only [cif]
  rw [if_pos (by omega)]
  have := L59_run n h0 8 q (by omega) hq
  rw [show (8 : Int) - ((8 : Nat) : Int) = 0 from rfl] at this
  rw [this]
  rfl

/-- A quantity's bits. -/
def qbits (x : Nat) : Int := if FloatKind.f64.format.order x x != some Ordering.eq then 9221120237041090561 else (x : Int)
theorem F60_eq (x : Nat) : F60 x = some (r1 (qbits x)) := by
  unfold F60 F71 qbits
  simp only [Option.bind_some]
  cases FloatKind.f64.format.order x x != some Ordering.eq <;> rfl
theorem F64_eq (x : Nat) : F64 x = some (r1 (qbits x)) := F60_eq x
theorem qbits_nn (x : Nat) : 0 ≤ qbits x := by unfold qbits; split <;> omega

abbrev Ev : Type := Int × Int × Int × Int × ByteArray × List Int × Nat × Int × Unit
/-- What a kind tells behind the key. -/
def encR (k : Int) (text : List Int) (num : Nat) (node : Int) : List Int :=
  if k = 1 then dgT text else if k = 2 ∨ k = 3 then fix8 (qbits num) else if k = 5 then dg (IntKind.wrap .u64 node) else []
def encE (e : Ev) : List Int :=
  dg (IntKind.wrap .u64 e.1) ++ dg e.2.1 ++ dg e.2.2.1 ++ [e.2.2.2.1] ++ (if 1 ≤ e.2.2.2.1 ∧ e.2.2.2.1 ≤ 4 then dgT (bytesL e.2.2.2.2.1) else []) ++ encR e.2.2.2.1 e.2.2.2.2.2.1 e.2.2.2.2.2.2.1 e.2.2.2.2.2.2.2.1
theorem bytesL_len (s : ByteArray) : (bytesL s).length = s.size := by unfold bytesL; simp

/-- An event with numbers that a word can have, and texts that aren't endless. -/
structure EvOK (e : Ev) : Prop where
  s0 : 0 ≤ e.2.1
  s1 : e.2.1 < 18446744073709551616
  t0 : 0 ≤ e.2.2.1
  t1 : e.2.2.1 < 18446744073709551616
  key : e.2.2.2.2.1.size < 4294967296
  text : e.2.2.2.1 = 1 → e.2.2.2.2.2.1.length < 4294967296

theorem F40_eq (e : Ev) (h : EvOK e) : F40 e = some (ro (encE e)) := by
  obtain ⟨w, s, t, k, key, text, num, node, ⟨⟩⟩ := e
  obtain ⟨s0, s1, t0, t1, hk, ht⟩ := h
  simp only at s0 s1 t0 t1 hk ht
  have l1 := dg_len (IntKind.wrap .u64 w)
  have l2 := dg_len s
  have l3 := dg_len t
  have l4 := bytesL_len key
  have l5 := dgT_len (bytesL key)
  have hw : 0 ≤ IntKind.wrap .u64 w ∧ IntKind.wrap .u64 w < 18446744073709551616 := by rw [wu64_mod]; omega
  have hn : 0 ≤ IntKind.wrap .u64 node ∧ IntKind.wrap .u64 node < 18446744073709551616 := by rw [wu64_mod]; omega
  have hlim : lim = 1099511627776 := rfl
  unfold F40 encE
  simp only [cif, beq_iff_eq, Bool.cond_eq_ite, decide_eq_true_eq]
  rw [F56_eq _ _ hw.1 hw.2 (by simp; omega)]
  simp only [Option.bind_some, List.nil_append]
  rw [F56_eq _ _ s0 s1 (by omega)]
  simp only [Option.bind_some]
  rw [F56_eq _ _ t0 t1 (by simp; omega)]
  simp only [Option.bind_some]
  rw [if_pos (by simp; omega)]
  unfold encR
  have key' : ∀ q : List Int, q.length ≤ 31 → F62 (bytesL key) q = some (ro (q ++ dgT (bytesL key))) := fun q hq => F62_eq _ _ (by omega) (by omega)
  have text' : k = 1 → ∀ q : List Int, q.length ≤ 4294967396 → F62 text q = some (ro (q ++ dgT text)) := fun h1 q hq => F62_eq _ _ (ht h1) (by have := ht h1; omega)
  have node' : ∀ q : List Int, q.length ≤ 4294967396 → F56 (IntKind.wrap .u64 node) q = some (ro (q ++ dg (IntKind.wrap .u64 node))) := fun q hq => F56_eq _ _ hn.1 hn.2 (by omega)
  have num' : ∀ q : List Int, q.length ≤ 4294967396 → F63 (qbits num) q = some (ro (q ++ fix8 (qbits num))) := fun q hq => F63_eq _ _ (qbits_nn _) (by omega)
  by_cases k1 : 1 ≤ k
  · by_cases k4 : k ≤ 4
    · rw [if_pos (show k ≥ 1 from k1), if_pos k4, if_pos ⟨k1, k4⟩, key' _ (by simp; omega)]
      simp only [Option.bind_some]
      by_cases e1 : k = 1
      · rw [if_pos e1, if_pos e1, text' e1 _ (by simp; omega)]; rfl
      rw [if_neg e1, if_neg e1]
      by_cases e2 : k = 2
      · rw [if_pos e2, if_pos (Or.inl e2), F64_eq]; simp only [Option.bind_some]; rw [num' _ (by simp; omega)]; rfl
      rw [if_neg e2]
      by_cases e3 : k = 3
      · rw [if_pos e3, if_pos (Or.inr e3), F64_eq]; simp only [Option.bind_some]; rw [num' _ (by simp; omega)]; rfl
      simp only [e2, e3, show ¬ k = 5 from by omega, if_false, or_self, List.append_nil]
    · rw [if_pos (show k ≥ 1 from k1), if_neg k4]
      simp only [show ¬ k = 1 from by omega, show ¬ k = 2 from by omega, show ¬ k = 3 from by omega, show ¬ (1 ≤ k ∧ k ≤ 4) from by omega, if_false, or_self, List.append_nil]
      by_cases e5 : k = 5
      · rw [if_pos e5, if_pos e5, node' _ (by simp; omega)]; rfl
      · rw [if_neg e5, if_neg e5, List.append_nil]
  · rw [if_neg (show ¬ k ≥ 1 from k1)]
    simp only [show ¬ k = 1 from by omega, show ¬ k = 2 from by omega, show ¬ k = 3 from by omega, show ¬ k = 5 from by omega, show ¬ (1 ≤ k ∧ k ≤ 4) from by omega, if_false, or_self, List.append_nil]
theorem F38_eq (e : Ev) (h : EvOK e) (h1 : 1 ≤ e.2.2.2.1) : F38 e = some (ro (encE e)) := by
  obtain ⟨w, s, t, k, key, text, num, node, ⟨⟩⟩ := e
  obtain ⟨s0, s1, t0, t1, hk, ht⟩ := h
  simp only at s0 s1 t0 t1 hk ht h1
  have l1 := dg_len (IntKind.wrap .u64 w)
  have l2 := dg_len s
  have l3 := dg_len t
  have l4 := bytesL_len key
  have l5 := dgT_len (bytesL key)
  have hw : 0 ≤ IntKind.wrap .u64 w ∧ IntKind.wrap .u64 w < 18446744073709551616 := by rw [wu64_mod]; omega
  have hn : 0 ≤ IntKind.wrap .u64 node ∧ IntKind.wrap .u64 node < 18446744073709551616 := by rw [wu64_mod]; omega
  have hlim : lim = 1099511627776 := rfl
  unfold F38 encE
  simp only [cif, beq_iff_eq, Bool.cond_eq_ite, decide_eq_true_eq]
  rw [F57_eq _ _ hw.1 hw.2 (by simp; omega)]
  simp only [Option.bind_some, List.nil_append]
  rw [F57_eq _ _ s0 s1 (by omega)]
  simp only [Option.bind_some]
  rw [F57_eq _ _ t0 t1 (by simp; omega)]
  simp only [Option.bind_some]
  rw [if_pos (by simp; omega)]
  unfold encR
  have key' : ∀ q : List Int, q.length ≤ 31 → F58 q (bytesL key) = some (ro (q ++ dgT (bytesL key))) := fun q hq => F58_eq _ _ (by omega) (by omega)
  have text' : k = 1 → ∀ q : List Int, q.length ≤ 4294967396 → F58 q text = some (ro (q ++ dgT text)) := fun h1 q hq => F58_eq _ _ (ht h1) (by have := ht h1; omega)
  have node' : ∀ q : List Int, q.length ≤ 4294967396 → F57 q (IntKind.wrap .u64 node) = some (ro (q ++ dg (IntKind.wrap .u64 node))) := fun q hq => F57_eq _ _ hn.1 hn.2 (by omega)
  have num' : ∀ q : List Int, q.length ≤ 4294967396 → F59 q (qbits num) = some (ro (q ++ fix8 (qbits num))) := fun q hq => F59_eq _ _ (qbits_nn _) (by omega)
  by_cases k4 : k ≤ 4
  · rw [if_pos k4, if_pos ⟨h1, k4⟩, key' _ (by simp; omega)]
    simp only [Option.bind_some]
    by_cases e1 : k = 1
    · rw [if_pos e1, if_pos e1, text' e1 _ (by simp; omega)]; simp only [Option.bind_some, show ¬ k = 2 from by omega, show ¬ k = 3 from by omega, show ¬ k = 5 from by omega, if_false]
    rw [if_neg e1, if_neg e1]
    by_cases e2 : k = 2
    · rw [if_pos e2, if_pos (Or.inl e2), F60_eq]; simp only [Option.bind_some]; rw [num' _ (by simp; omega)]; simp only [Option.bind_some, show ¬ k = 5 from by omega, if_false]
    rw [if_neg e2]
    by_cases e3 : k = 3
    · rw [if_pos e3, if_pos (Or.inr e3), F60_eq]; simp only [Option.bind_some]; rw [num' _ (by simp; omega)]; simp only [Option.bind_some, show ¬ k = 5 from by omega, if_false]
    simp only [e2, e3, show ¬ k = 5 from by omega, if_false, or_self, List.append_nil]
  · rw [if_neg k4]
    simp only [show ¬ k = 1 from by omega, show ¬ k = 2 from by omega, show ¬ k = 3 from by omega, show ¬ (1 ≤ k ∧ k ≤ 4) from by omega, if_false, or_self, List.append_nil]
    by_cases e5 : k = 5
    · rw [if_pos e5, if_pos e5, node' _ (by simp; omega)]; rfl
    · rw [if_neg e5, if_neg e5, List.append_nil]
theorem F23_eq : F23 = some (r1 true) := by
  unfold F23
  rw [F40_eq _ ⟨by decide, by decide, by decide, by decide, by decide, fun _ => by decide⟩]
  simp only [Option.bind_some]
  exact congrArg (fun b : Bool => some (r1 b)) (by decide +kernel)
end Go.IM.V

/- Events: the laws EventRight and EventSame. -/
set_option linter.unusedVariables false
set_option linter.unusedSimpArgs false
set_option linter.constructorNameAsVariable false
namespace Go.IM.V
open Go Go.IM Go.Proofs

theorem ite_l {α : Type} {c : Prop} [Decidable c] {a b r : α} (h1 : c → a = r) (h2 : ¬ c → b = r) : (if c then a else b) = r := by by_cases h : c <;> simp [h, h1, h2]
theorem ite_r {α : Type} {c : Prop} [Decidable c] {a b r : α} (h1 : c → r = a) (h2 : ¬ c → r = b) : r = (if c then a else b) := by by_cases h : c <;> simp [h, h1, h2]
/-- May an event be? -/
def rgt (e : Ev) : Int :=
  if e.1 < 0 ∨ 63 < e.1 ∨ e.2.1 = 0 ∨ e.2.2.1 = 0 ∨ e.2.2.2.1 < 1 ∨ 6 < e.2.2.2.1 then 1
  else if e.2.2.2.1 = 5 ∧ (e.2.2.2.2.2.2.2.1 < 0 ∨ 63 < e.2.2.2.2.2.2.2.1) then 1
  else if e.2.2.2.1 ≤ 4 ∧ (e.2.2.2.2.1.size = 0 ∨ 64 < e.2.2.2.2.1.size) then 6
  else if e.2.2.2.1 = 1 ∧ 1048576 < e.2.2.2.2.2.1.length then 6
  else if 9223372036854775807 < e.2.1 ∨ 9223372036854775807 < e.2.2.1 then 8 else 0
theorem F46_eq (n : Int) : F46 n = some (r1 (decide (0 ≤ n ∧ n ≤ 63))) := by
  unfold F46
  simp only [cif]
  split
  · exact congrArg (fun b : Bool => some (r1 b)) (decide_eq_decide.2 (by omega))
  · exact congrArg (fun b : Bool => some (r1 b)) (decide_eq_false (by omega)).symm
theorem F26_eq (e : Ev) : F26 e = some (r1 (rgt e)) := by
  obtain ⟨w, s, t, k, key, text, num, node, ⟨⟩⟩ := e
  unfold F26 rgt
  simp only [cif, beq_iff_eq, Bool.cond_eq_ite, decide_eq_true_eq]
  repeat' (refine ite_l (fun h => ?_) (fun h => ?_))
  all_goals refine congrArg (fun n : Int => some (r1 n)) ?_
  all_goals (refine ite_r (fun h => ?_) (fun h => ?_) <;> first | rfl | omega | skip)
  all_goals (refine ite_r (fun h => ?_) (fun h => ?_) <;> first | rfl | omega | skip)
  all_goals (refine ite_r (fun h => ?_) (fun h => ?_) <;> first | rfl | omega | skip)
  all_goals (refine ite_r (fun h => ?_) (fun h => ?_) <;> first | rfl | omega | skip)
  all_goals (refine ite_r (fun h => ?_) (fun h => ?_) <;> first | rfl | omega | skip)
theorem F25_eq (e : Ev) : F25 e = some (r1 (rgt e)) := by
  obtain ⟨w, s, t, k, key, text, num, node, ⟨⟩⟩ := e
  unfold F25 rgt
  simp only [F46_eq, Option.bind_some, cif, beq_iff_eq, Bool.cond_eq_ite, decide_eq_true_eq, Bool.not_eq_true', decide_eq_false_iff_not]
  repeat' (refine ite_l (fun h => ?_) (fun h => ?_))
  all_goals refine congrArg (fun n : Int => some (r1 n)) ?_
  all_goals (refine ite_r (fun h => ?_) (fun h => ?_) <;> first | rfl | omega | skip)
  all_goals (refine ite_r (fun h => ?_) (fun h => ?_) <;> first | rfl | omega | skip)
  all_goals (refine ite_r (fun h => ?_) (fun h => ?_) <;> first | rfl | omega | skip)
  all_goals (refine ite_r (fun h => ?_) (fun h => ?_) <;> first | rfl | omega | skip)
  all_goals (refine ite_r (fun h => ?_) (fun h => ?_) <;> first | rfl | omega | skip)

def near (e : Ev) (how : Int) : Ev :=
  if how ≥ 64 then (IntKind.wrap .i64 ((IntKind.wrap .u64 e.1).tmod 64), IntKind.wrap .u64 (1 + e.2.1.tmod 4611686018427387904), IntKind.wrap .u64 (1 + e.2.2.1.tmod 4611686018427387904),
    IntKind.wrap .u8 (1 + e.2.2.2.1.tmod 6), if e.2.2.2.2.1.size = 0 then ⟨#[107]⟩ else e.2.2.2.2.1, e.2.2.2.2.2.1, e.2.2.2.2.2.2.1, IntKind.wrap .i64 ((IntKind.wrap .u64 e.2.2.2.2.2.2.2.1).tmod 64), ())
  else e
theorem F24_eq (e : Ev) (how : Int) : F24 e how = some (r1 (near e how)) := by
  obtain ⟨w, s, t, k, key, text, num, node, ⟨⟩⟩ := e
  unfold F24 near
  simp only [cif, beq_iff_eq, Bool.cond_eq_ite, decide_eq_true_eq]
  by_cases h : how ≥ 64
  · simp only [h, if_true]
    by_cases q : key.size = 0
    · rw [if_pos (by omega), if_pos q]
    · rw [if_neg (by omega), if_neg q]
  · simp only [h, if_false]
/-- An event with numbers that a word can have. -/
structure EvW (e : Ev) : Prop where
  s0 : 0 ≤ e.2.1
  s1 : e.2.1 < 18446744073709551616
  t0 : 0 ≤ e.2.2.1
  t1 : e.2.2.1 < 18446744073709551616
  key : e.2.2.2.2.1.size < 4294967296
theorem near_ok (e : Ev) (how : Int) (h : EvW e) : EvW (near e how) := by
  obtain ⟨s0, s1, t0, t1, hk⟩ := h
  unfold near
  split
  · refine ⟨?_, ?_, ?_, ?_, ?_⟩ <;> simp only [wu64_mod]
    · omega
    · omega
    · omega
    · omega
    · split
      · decide
      · exact hk
  · exact ⟨s0, s1, t0, t1, hk⟩
theorem EvW.ok {e : Ev} (h : EvW e) (hr : rgt e = 0) : EvOK e := by
  refine ⟨h.1, h.2, h.3, h.4, h.5, fun h1 => ?_⟩
  unfold rgt at hr
  split at hr
  · cases hr
  split at hr
  · cases hr
  split at hr
  · cases hr
  split at hr
  · cases hr
  omega

theorem eventRight_pure (e : Ev) (how : Int) : F6 e how = some (r1 true) := by
  obtain ⟨w, s, t, k, key, text, num, node, ⟨⟩⟩ := e
  unfold F6
  simp only [F23_eq, F24_eq, Option.bind_some, cif, Bool.not_true, cond_false]
  split
  · rfl
  split
  · rfl
  rw [show F25 _ = _ from F25_eq (near (w, s, t, k, key, text, num, node, ()) how), show F26 _ = _ from F26_eq (near (w, s, t, k, key, text, num, node, ()) how)]
  simp only [Option.bind_some, beq_self_eq_true]

/-- An event as it is kept. -/
def plain (e : Ev) : Ev :=
  (e.1, e.2.1, e.2.2.1, e.2.2.2.1, if 1 ≤ e.2.2.2.1 ∧ e.2.2.2.1 ≤ 4 then e.2.2.2.2.1 else ByteArray.empty, if e.2.2.2.1 = 1 then e.2.2.2.2.2.1 else [],
    if e.2.2.2.1 = 2 ∨ e.2.2.2.1 = 3 then (qbits e.2.2.2.2.2.2.1).toNat else 0, if e.2.2.2.1 = 5 then e.2.2.2.2.2.2.2.1 else 0, ())
theorem F29_eq (e : Ev) (ht : e.2.2.2.1 = 1 → e.2.2.2.2.2.1.length < lim) : F29 e = some (r1 (plain e)) := by
  obtain ⟨w, s, t, k, key, text, num, node, ⟨⟩⟩ := e
  simp only at ht
  have h47 : ∀ n, F47 n = some (r1 (qbits n).toNat) := fun n => by unfold F47; rw [F64_eq]; rfl
  unfold F29 plain
  simp only [h47, Option.bind_some, cif, beq_iff_eq, Bool.cond_eq_ite, decide_eq_true_eq]
  by_cases k1 : 1 ≤ k
  · by_cases k4 : k ≤ 4
    · simp only [show k ≥ 1 from k1, k1, k4, if_true, and_self]
      by_cases e1 : k = 1
      · subst e1; simp only [ht rfl, if_true]; rfl
      by_cases e2 : k = 2
      · subst e2; rfl
      by_cases e3 : k = 3
      · subst e3; rfl
      simp only [e1, e2, e3, show ¬ k = 5 from by omega, if_false, or_self]
    · simp only [show k ≥ 1 from k1, k1, k4, show ¬ k = 1 from by omega, show ¬ k = 2 from by omega, show ¬ k = 3 from by omega, if_true, if_false, and_false, or_self]
      by_cases e5 : k = 5
      · simp only [e5, if_true]
      · simp only [e5, if_false]
  · simp only [show ¬ k ≥ 1 from k1, k1, show ¬ k = 1 from by omega, show ¬ k = 2 from by omega, show ¬ k = 3 from by omega, show ¬ k = 5 from by omega, if_false, false_and, or_self]
theorem qbits_twice (n : Nat) : qbits (qbits n).toNat = qbits n := by
  unfold qbits
  by_cases h : (FloatKind.f64.format.order n n != some Ordering.eq) = true
  · rw [if_pos h, if_pos (by decide +kernel)]
  · rw [if_neg h, Int.toNat_natCast, if_neg h]
theorem enc_plain (e : Ev) : encE (plain e) = encE e := by
  obtain ⟨w, s, t, k, key, text, num, node, ⟨⟩⟩ := e
  unfold encE plain encR
  simp only
  by_cases hk : 1 ≤ k ∧ k ≤ 4
  · simp only [hk, if_true, and_self]
    by_cases e1 : k = 1
    · simp only [e1, if_true]
    by_cases e2 : k = 2 ∨ k = 3
    · simp only [e1, e2, if_false, if_true, qbits_twice]
    · simp only [e1, e2, if_false, show ¬ k = 5 from by omega]
  · simp only [hk, if_false, show ¬ k = 1 from by omega, show ¬ k = 2 from by omega, show ¬ k = 3 from by omega, or_self]
    by_cases e5 : k = 5
    · simp only [e5, if_true]
    · simp only [e5, if_false]
theorem plain_ok (e : Ev) (h : EvOK e) : EvOK (plain e) := by
  obtain ⟨s0, s1, t0, t1, hk, ht⟩ := h
  refine ⟨s0, s1, t0, t1, ?_, fun h1 => ?_⟩
  · show (if _ then _ else _ : ByteArray).size < _
    split
    · exact hk
    · decide
  · show (if _ then _ else _ : List Int).length < _
    split
    · exact ht h1
    · decide
theorem rgt_kind {e : Ev} (h : rgt e = 0) : 1 ≤ e.2.2.2.1 := by
  unfold rgt at h
  split at h
  · cases h
  · omega
theorem F27_eq (a b : Ev) (ha : EvOK a) (hb : EvOK b) : F27 a b = some (r1 ((strL (encE a)).toList == (strL (encE b)).toList)) := by
  unfold F27
  rw [show F40 _ = _ from F40_eq a ha, show F40 _ = _ from F40_eq b hb]
  rfl
theorem F28_eq (a b : Ev) (ha : EvOK a) (hb : EvOK b) (ka : 1 ≤ a.2.2.2.1) (kb : 1 ≤ b.2.2.2.1) : F28 a b = some (r1 ((strL (encE a)).toList == (strL (encE b)).toList)) := by
  unfold F28
  rw [show F38 _ = _ from F38_eq a ha ka, show F38 _ = _ from F38_eq b hb kb]
  rfl
/-- b with a's all but the quantity. -/
def oneOf (a b : Ev) : Ev := (a.1, a.2.1, a.2.2.1, a.2.2.2.1, a.2.2.2.2.1, a.2.2.2.2.2.1, b.2.2.2.2.2.2.1, a.2.2.2.2.2.2.2.1, ())

theorem same_rest (a b : Ev) (ha : EvW a) (hb : EvW b) :
    ((F26 a).bind fun y104 => (bif ((y104.1.1 : Int) != 0) then (some (r1 true)) else ((F26 b).bind fun y105 => (bif ((y105.1.1 : Int) != 0) then (some (r1 true)) else ((F27 a b).bind fun y106 => ((F28 a b).bind fun y107 =>
      (bif (y106.1.1 == y107.1.1) then ((F29 a).bind fun y108 => ((F27 a y108.1.1).bind fun y109 => (some (r1 y109.1.1)))) else (some (r1 false))))))))) = some (r1 true) := by
  rw [F26_eq, F26_eq]
  simp only [Option.bind_some]
  by_cases h1 : rgt a = 0
  · by_cases h2 : rgt b = 0
    · have ha := ha.ok h1
      have hb := hb.ok h2
      rw [F27_eq _ _ ha hb, F28_eq _ _ ha hb (rgt_kind h1) (rgt_kind h2), F29_eq a (fun h => by have := ha.text h; show _ < 1099511627776; omega)]
      simp only [h1, h2, Option.bind_some, bne_self_eq_false, cond_false, beq_self_eq_true, cond_true]
      rw [F27_eq _ _ ha (plain_ok a ha), enc_plain]
      simp only [Option.bind_some, beq_self_eq_true]
    · simp only [h1, bne_self_eq_false, cond_false, Bool.cond_eq_ite, bne_iff_ne, ne_eq, h2, not_false_eq_true, if_true, Bool.false_eq_true, if_false]
  · simp only [Bool.cond_eq_ite, bne_iff_ne, ne_eq, h1, not_false_eq_true, if_true]
theorem eventSame_pure (a b : Ev) (how : Int) (one : Bool) (ha : 0 ≤ a.2.1 ∧ a.2.1 < 18446744073709551616) (ha2 : 0 ≤ a.2.2.1 ∧ a.2.2.1 < 18446744073709551616)
    (hb : 0 ≤ b.2.1 ∧ b.2.1 < 18446744073709551616) (hb2 : 0 ≤ b.2.2.1 ∧ b.2.2.1 < 18446744073709551616) : F7 a b how one = some (r1 true) := by
  unfold F7
  simp only [F23_eq, Option.bind_some, cif, Bool.not_true, cond_false]
  split
  · rfl
  split
  · rfl
  split
  · rfl
  rename_i h1 h2 h3
  have oka : EvW a := ⟨ha.1, ha.2, ha2.1, ha2.2, by omega⟩
  have okb : EvW b := ⟨hb.1, hb.2, hb2.1, hb2.2, by omega⟩
  rw [show F24 _ how = _ from F24_eq a how, show F24 _ how = _ from F24_eq b how]
  simp only [Option.bind_some]
  have oka := near_ok a how oka
  have okb := near_ok b how okb
  generalize near a how = a at *
  generalize near b how = b at *
  have := same_rest a b oka okb
  cases one
  · exact this
  · exact same_rest a (oneOf a b) oka ⟨oka.1, oka.2, oka.3, oka.4, oka.5⟩
end Go.IM.V

/- Events: the law EventOrders. -/
set_option linter.unusedVariables false
set_option linter.unusedSimpArgs false
set_option linter.constructorNameAsVariable false
namespace Go.IM.V
open Go Go.IM Go.Proofs

def cmpI (a b : Int) : Int := if a < b then -1 else if a > b then 1 else 0
theorem F49_eq (a b : Int) : F49 a b = some (r1 (cmpI a b)) := by
  have h66 : ∀ x, F66 x = some (r1 false) := fun x => by unfold F66; simp
  unfold F49 cmpI
  simp only [h66, Option.bind_some, cond_false, cif]
  split
  · rfl
  split <;> rfl
theorem F50_eq (a b : Int) : F50 a b = some (r1 (cmpI a b)) := by
  have h67 : ∀ x, F67 x = some (r1 false) := fun x => by unfold F67; simp
  unfold F50 cmpI
  simp only [h67, Option.bind_some, cond_false, cif]
  split
  · rfl
  split <;> rfl
theorem F48_eq (a b : Int) : F48 [a, b] = some (r1 (if a ≠ 0 then a else b)) := by
  unfold F48
  rw [L48_3_eq]
  simp only [T48_3, List.length_cons, List.length_nil]
  by_cases h : a = 0
  · subst h
    simp only [cif, Bool.cond_eq_ite, bne_iff_ne, ne_eq, decide_eq_true_eq]
    rw [if_pos (by omega), if_pos (by omega), if_neg (by simp)]
    simp only [Option.bind_some, Sum.elim_inl]
    rw [w64 (by omega) (by omega), L48_3_eq]
    simp only [T48_3, List.length_cons, List.length_nil]
    by_cases hb : b = 0
    · subst hb
      simp only [cif, Bool.cond_eq_ite, bne_iff_ne, ne_eq, decide_eq_true_eq]
      rw [if_pos (by omega), if_pos (by omega), if_neg (by simp)]
      simp only [Option.bind_some, Sum.elim_inl]
      rw [w64 (by omega) (by omega), L48_3_eq]
      simp only [T48_3, List.length_cons, List.length_nil, cif]
      rw [if_neg (by omega)]
      rfl
    · simp only [cif, Bool.cond_eq_ite, bne_iff_ne, ne_eq, decide_eq_true_eq]
      rw [if_pos (by omega), if_pos (by omega), if_pos (by simpa using hb), if_neg (by simp)]
      rfl
  · simp only [cif, Bool.cond_eq_ite, bne_iff_ne, ne_eq, decide_eq_true_eq]
    rw [if_pos (by omega), if_pos (by omega), if_pos (by simpa using h), if_pos h]
    rfl
/-- How two places stand to one another. -/
def cmpS (a b : Int × Int × Unit) : Int := if cmpI a.1 b.1 ≠ 0 then cmpI a.1 b.1 else cmpI a.2.1 b.2.1
theorem F30_eq (a b : Int × Int × Unit) : F30 a b = some (r1 (cmpS a b)) := by
  unfold F30 cmpS
  simp only [F49_eq, F50_eq, Option.bind_some, F48_eq]
def ahead (a b : Int × Int × Unit) : Bool := decide (a.1 < b.1 ∨ (a.1 = b.1 ∧ a.2.1 < b.2.1))
theorem F31_eq (a b : Int × Int × Unit) : F31 a b = some (r1 (ahead a b)) := by
  unfold F31 ahead
  simp only [cif, Bool.cond_eq_ite, beq_iff_eq, decide_eq_true_eq]
  split
  · exact congrArg (fun b : Bool => some (r1 b)) (decide_eq_true (by omega)).symm
  split
  · exact congrArg (fun b : Bool => some (r1 b)) (decide_eq_decide.2 (by omega))
  · exact congrArg (fun b : Bool => some (r1 b)) (decide_eq_false (by omega)).symm
theorem cmpS_neg (a b : Int × Int × Unit) : decide (cmpS a b < 0) = ahead a b := by
  unfold cmpS cmpI ahead
  apply decide_eq_decide.2
  split <;> (repeat' split) <;> omega
theorem cmpS_pos (a b : Int × Int × Unit) : decide (cmpS a b > 0) = ahead b a := by
  unfold cmpS cmpI ahead
  apply decide_eq_decide.2
  split <;> (repeat' split) <;> omega
theorem cmpS_zero (a b : Int × Int × Unit) : (cmpS a b == 0) = ((a.1 == b.1) && (a.2.1 == b.2.1)) := by
  have h : cmpS a b = 0 ↔ (a.1 = b.1 ∧ a.2.1 = b.2.1) := by
    unfold cmpS cmpI
    split <;> (repeat' split) <;> omega
  rw [Bool.eq_iff_iff]
  simp [h]
theorem eventOrders_pure (a b c : Int × Int × Unit) : F8 a b c = some (r1 true) := by
  unfold F8
  simp only [F30_eq, F31_eq, F23_eq, Option.bind_some, cond_true]
  rw [show cmpS (a.1, a.2.1, ()) (b.1, b.2.1, ()) = cmpS a b from rfl, show ahead (a.1, a.2.1, ()) (b.1, b.2.1, ()) = ahead a b from rfl, show ahead (b.1, b.2.1, ()) (a.1, a.2.1, ()) = ahead b a from rfl,
    cmpS_neg, cmpS_pos, cmpS_zero]
  simp only [beq_self_eq_true, cond_true, cif]
  split
  · rfl
  split
  · rfl
  rename_i h1 h2
  rw [show cmpS (b.1, b.2.1, ()) (c.1, c.2.1, ()) = cmpS b c from rfl] at h2
  rw [show cmpS (a.1, a.2.1, ()) (c.1, c.2.1, ()) = cmpS a c from rfl, cmpS_neg]
  have e1 : ahead a b = true := by rw [← cmpS_neg]; exact decide_eq_true (by omega)
  have e2 : ahead b c = true := by rw [← cmpS_neg]; exact decide_eq_true (by omega)
  have e3 : ahead a c = true := by
    unfold ahead at *
    simp only [decide_eq_true_eq] at *
    omega
  rw [e3]
end Go.IM.V
