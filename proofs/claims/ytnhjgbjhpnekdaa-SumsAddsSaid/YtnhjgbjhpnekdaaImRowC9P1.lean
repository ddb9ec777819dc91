/- What the code of a law comes to, and what that tells: part 1. Lemmas alone; no conditions. -/
import Derived.Test.YtnhjgbjhpnekdaaProg
import Derived.KernelRfl
import Derived.Test.YtnhjgbjhpnekdaaImM4
/- Sums: what the code comes to. -/
set_option linter.unusedVariables false
set_option linter.constructorNameAsVariable false
namespace Go.IM.V
open Go Go.IM Go.Proofs

noncomputable def b70 : Code := (.seq (.region 0 (regOf Try.f70 0) false) (.seq (.region 1 (regOf Try.f70 1) false) .ret))
theorem body70 : Try.f70.body = some b70 := by kernel_rfl
noncomputable def C70 : Tab := []
theorem C70_ok : TabOK Try.prog C70 := trivial
noncomputable def LO70 : Tab := []
noncomputable def i70 : Tm := { sl := [(0, .v (.f .f64))], bx := [], bf := [] }
noncomputable def o70 : OT := (.ret { sl := [(0, .v .b)], bx := [], bf := [] })
/-- anabranch/anabranchref01.Void -/
noncomputable def F70 (a0 : Nat) : Option ((Bool × Unit) × Unit × Unit) :=
  (some ((((FloatKind.f64).format.order (a0) (a0) != some Ordering.eq), ()), (), ()))
noncomputable def c70 : Con := ⟨i70, o70, fun x => F70 x.1.1⟩
theorem e70 (x : i70.E) : vfn Try.prog C70 LO70 Try.f70 b70 i70 o70 x = F70 x.1.1 := by kernel_rfl
theorem c70_ok : Con.OK Try.prog 70 c70 := (fn_ok C70_ok Try.func70 body70 (loops_of (l := []) (by kernel_rfl) (show LoopsOK Try.prog Try.f70.ntmps [] LO70 from trivial)) i70 o70).congr fun x => (e70 x).symm
noncomputable def b68 : Code := (.seq (.region 0 (regOf Try.f68 0) false) (.seq (.region 1 (regOf Try.f68 1) false) .ret))
theorem body68 : Try.f68.body = some b68 := by kernel_rfl
noncomputable def C68 : Tab := []
theorem C68_ok : TabOK Try.prog C68 := trivial
noncomputable def LO68 : Tab := []
noncomputable def i68 : Tm := { sl := [(0, .v (.f .f64))], bx := [], bf := [] }
noncomputable def o68 : OT := (.ret { sl := [(0, .v .b)], bx := [], bf := [] })
/-- math.IsNaN -/
noncomputable def F68 (a0 : Nat) : Option ((Bool × Unit) × Unit × Unit) :=
  (some ((((FloatKind.f64).format.order (a0) (a0) != some Ordering.eq), ()), (), ()))
noncomputable def c68 : Con := ⟨i68, o68, fun x => F68 x.1.1⟩
theorem e68 (x : i68.E) : vfn Try.prog C68 LO68 Try.f68 b68 i68 o68 x = F68 x.1.1 := by kernel_rfl
theorem c68_ok : Con.OK Try.prog 68 c68 := (fn_ok C68_ok Try.func68 body68 (loops_of (l := []) (by kernel_rfl) (show LoopsOK Try.prog Try.f68.ntmps [] LO68 from trivial)) i68 o68).congr fun x => (e68 x).symm
noncomputable def b65 : Code := (.seq (.region 0 (regOf Try.f65 0) false) (.seq (.seq (.region 1 (regOf Try.f65 1) false) (.cond (.tmp 4) (.seq (.region 2 (regOf Try.f65 2) false) .ret) .skip)) (.seq (.region 3 (regOf Try.f65 3) false) .ret)))
theorem body65 : Try.f65.body = some b65 := by kernel_rfl
noncomputable def C65 : Tab := [(70, c70)]
theorem C65_ok : TabOK Try.prog C65 := ⟨c70_ok, trivial⟩
noncomputable def LO65 : Tab := []
noncomputable def i65 : Tm := { sl := [(0, .v (.f .f64))], bx := [], bf := [] }
noncomputable def o65 : OT := (.ret { sl := [(0, .v (.i .u64))], bx := [], bf := [] })
/-- anabranch/anabranchref01.Bits -/
noncomputable def F65 (a0 : Nat) : Option ((Int × Unit) × Unit × Unit) :=
  ((F70 a0).bind fun y1 => (bif y1.1.1 then (some ((9221120237041090561, ()), (), ())) else (some (((((a0) : Nat) : Int), ()), (), ()))))
noncomputable def c65 : Con := ⟨i65, o65, fun x => F65 x.1.1⟩
theorem e65 (x : i65.E) : vfn Try.prog C65 LO65 Try.f65 b65 i65 o65 x = F65 x.1.1 := by kernel_rfl
theorem c65_ok : Con.OK Try.prog 65 c65 := (fn_ok C65_ok Try.func65 body65 (loops_of (l := []) (by kernel_rfl) (show LoopsOK Try.prog Try.f65.ntmps [] LO65 from trivial)) i65 o65).congr fun x => (e65 x).symm
noncomputable def b61 : Code := (.seq (.region 0 (regOf Try.f61 0) false) (.seq (.seq (.region 1 (regOf Try.f61 1) false) (.cond (.tmp 4) (.seq (.region 2 (regOf Try.f61 2) false) .ret) .skip)) (.seq (.region 3 (regOf Try.f61 3) false) .ret)))
theorem body61 : Try.f61.body = some b61 := by kernel_rfl
noncomputable def C61 : Tab := [(68, c68)]
theorem C61_ok : TabOK Try.prog C61 := ⟨c68_ok, trivial⟩
noncomputable def LO61 : Tab := []
noncomputable def i61 : Tm := { sl := [(0, .v (.f .f64))], bx := [], bf := [] }
noncomputable def o61 : OT := (.ret { sl := [(0, .v (.i .u64))], bx := [], bf := [] })
/-- anabranch/quantity.Bits -/
noncomputable def F61 (a0 : Nat) : Option ((Int × Unit) × Unit × Unit) :=
  ((F68 a0).bind fun y2 => (bif y2.1.1 then (some ((9221120237041090561, ()), (), ())) else (some (((((a0) : Nat) : Int), ()), (), ()))))
noncomputable def c61 : Con := ⟨i61, o61, fun x => F61 x.1.1⟩
theorem e61 (x : i61.E) : vfn Try.prog C61 LO61 Try.f61 b61 i61 o61 x = F61 x.1.1 := by kernel_rfl
theorem c61_ok : Con.OK Try.prog 61 c61 := (fn_ok C61_ok Try.func61 body61 (loops_of (l := []) (by kernel_rfl) (show LoopsOK Try.prog Try.f61.ntmps [] LO61 from trivial)) i61 o61).congr fun x => (e61 x).symm
noncomputable def l58_1 : Code := (.seq (.seq (.region 1 (regOf Try.f58 1) false) (.cond (.tmp 6) .skip (.exit 0))) (.seq (.block 1 (.region 3 (regOf Try.f58 3) false)) (.region 2 (regOf Try.f58 2) false)))
noncomputable def b58 : Code := (.seq (.region 0 (regOf Try.f58 0) false) (.seq (.block 0 (.loop l58_1)) (.seq (.region 4 (regOf Try.f58 4) false) .ret)))
theorem body58 : Try.f58.body = some b58 := by kernel_rfl
noncomputable def C58_1 : Tab := []
theorem C58_1_ok : TabOK Try.prog C58_1 := trivial
noncomputable def LO58_1 : Tab := []
noncomputable def i58_1 : Tm := { sl := [(0, .o 0), (1, .v (.i .u64))], bx := [], bf := [(.i .u8)] }
noncomputable def o58_1 : OT := (.exit 0 { sl := [(0, .o 0), (1, .v (.i .u64))], bx := [], bf := [(.i .u8)] })
noncomputable def T58_1 (a1 : Int) (q0 : (List Int)) : Option (((Unit × (Int × Unit)) × Unit × ((List Int) × Unit)) ⊕ ((Unit × (Int × Unit)) × Unit × ((List Int) × Unit))) :=
  (bif (decide ((a1 : Int) ≥ 128)) then (bif (decide ((q0).length + ([(iOr .u8 (IntKind.wrap .u8 a1) 128)]).length < lim)) then (some (.inl (((), (iShr .u64 a1 7), ()), (), ((q0 ++ [(iOr .u8 (IntKind.wrap .u8 a1) 128)]), ())))) else none) else (some (.inr (((), a1, ()), (), (q0, ())))))
noncomputable def L58_1 (a1 : Int) (q0 : (List Int)) : Option ((Unit × (Int × Unit)) × Unit × ((List Int) × Unit)) := loopF (fun x : ((Unit × (Int × Unit)) × Unit × ((List Int) × Unit)) => T58_1 x.1.2.1 x.2.2.1) (((), a1, ()), (), (q0, ()))
theorem L58_1_eq (a1 : Int) (q0 : (List Int)) : L58_1 a1 q0 = (T58_1 a1 q0).bind (Sum.elim (fun x => L58_1 x.1.2.1 x.2.2.1) some) := loopF_eq _ _
noncomputable def k58_1 : Con := ⟨i58_1, o58_1, fun x => L58_1 x.1.2.1 x.2.2.1⟩
theorem e58_1 (x : i58_1.E) : vround Try.prog C58_1 LO58_1 Try.f58.ntmps l58_1 i58_1 o58_1 x = T58_1 x.1.2.1 x.2.2.1 := by kernel_rfl
theorem k58_1_ok : Con.LOK Try.prog Try.f58.ntmps l58_1 k58_1 := (loop_ok C58_1_ok (loops_of (l := []) (by kernel_rfl) (show LoopsOK Try.prog Try.f58.ntmps [] LO58_1 from trivial)) i58_1 o58_1).congr fun x => (congrArg (fun T => loopF T x) (funext e58_1)).symm
noncomputable def C58 : Tab := []
theorem C58_ok : TabOK Try.prog C58 := trivial
noncomputable def LO58 : Tab := [(1, k58_1)]
noncomputable def i58 : Tm := { sl := [(0, .o 0), (1, .v (.i .u64))], bx := [], bf := [(.i .u8)] }
noncomputable def o58 : OT := (.ret { sl := [(0, .o 0)], bx := [], bf := [(.i .u8)] })
/-- anabranch/digits.Lay -/
noncomputable def F58 (a1 : Int) (q0 : (List Int)) : Option ((Unit × Unit) × Unit × ((List Int) × Unit)) :=
  ((L58_1 a1 q0).bind fun y3 => (bif (decide ((y3.2.2.1).length + ([(IntKind.wrap .u8 y3.1.2.1)]).length < lim)) then (some (((), ()), (), ((y3.2.2.1 ++ [(IntKind.wrap .u8 y3.1.2.1)]), ()))) else none))
noncomputable def c58 : Con := ⟨i58, o58, fun x => F58 x.1.2.1 x.2.2.1⟩
theorem e58 (x : i58.E) : vfn Try.prog C58 LO58 Try.f58 b58 i58 o58 x = F58 x.1.2.1 x.2.2.1 := by kernel_rfl
theorem c58_ok : Con.OK Try.prog 58 c58 := (fn_ok C58_ok Try.func58 body58 (loops_of (l := [l58_1]) (by kernel_rfl) (show LoopsOK Try.prog Try.f58.ntmps [l58_1] LO58 from ⟨k58_1_ok, trivial⟩)) i58 o58).congr fun x => (e58 x).symm
noncomputable def b59 : Code := (.seq (.region 0 (regOf Try.f59 0) false) (.seq (.region 1 (regOf Try.f59 1) false) .ret))
theorem body59 : Try.f59.body = some b59 := by kernel_rfl
noncomputable def C59 : Tab := [(58, c58)]
theorem C59_ok : TabOK Try.prog C59 := ⟨c58_ok, trivial⟩
noncomputable def LO59 : Tab := []
noncomputable def i59 : Tm := { sl := [(0, .o 0), (1, .v (.l (.i .u8)))], bx := [], bf := [(.i .u8)] }
noncomputable def o59 : OT := (.ret { sl := [(0, .o 0)], bx := [], bf := [(.i .u8)] })
/-- anabranch/digits.LayText -/
noncomputable def F59 (a1 : (List Int)) (q0 : (List Int)) : Option ((Unit × Unit) × Unit × ((List Int) × Unit)) :=
  ((F58 (IntKind.wrap .u64 (((a1).length : Nat) : Int)) q0).bind fun y4 => (bif (decide ((y4.2.2.1).length + (a1).length < lim)) then (some (((), ()), (), ((y4.2.2.1 ++ a1), ()))) else none))
noncomputable def c59 : Con := ⟨i59, o59, fun x => F59 x.1.2.1 x.2.2.1⟩
theorem e59 (x : i59.E) : vfn Try.prog C59 LO59 Try.f59 b59 i59 o59 x = F59 x.1.2.1 x.2.2.1 := by kernel_rfl
theorem c59_ok : Con.OK Try.prog 59 c59 := (fn_ok C59_ok Try.func59 body59 (loops_of (l := []) (by kernel_rfl) (show LoopsOK Try.prog Try.f59.ntmps [] LO59 from trivial)) i59 o59).congr fun x => (e59 x).symm
noncomputable def l60_2 : Code := (.seq (.seq (.region 2 (regOf Try.f60 2) false) (.cond (.tmp 7) .skip (.exit 0))) (.seq (.block 1 (.region 4 (regOf Try.f60 4) false)) (.region 3 (regOf Try.f60 3) false)))
noncomputable def b60 : Code := (.seq (.region 0 (regOf Try.f60 0) false) (.seq (.seq (.region 1 (regOf Try.f60 1) false) (.block 0 (.loop l60_2))) (.seq (.region 5 (regOf Try.f60 5) false) .ret)))
theorem body60 : Try.f60.body = some b60 := by kernel_rfl
noncomputable def C60_2 : Tab := []
theorem C60_2_ok : TabOK Try.prog C60_2 := trivial
noncomputable def LO60_2 : Tab := []
noncomputable def i60_2 : Tm := { sl := [(0, .o 0), (1, .v (.i .u64)), (5, .v (.i .i64))], bx := [], bf := [(.i .u8)] }
noncomputable def o60_2 : OT := (.exit 0 { sl := [(0, .o 0)], bx := [], bf := [(.i .u8)] })
noncomputable def T60_2 (a1 : Int) (a5 : Int) (q0 : (List Int)) : Option (((Unit × (Int × (Int × Unit))) × Unit × ((List Int) × Unit)) ⊕ ((Unit × Unit) × Unit × ((List Int) × Unit))) :=
  (bif (decide ((a5 : Int) ≥ 0)) then (bif (decide ((0 : Int) ≤ (IntKind.wrap .i64 (8 * a5)))) then (bif (decide ((q0).length + ([(IntKind.wrap .u8 (iShr .u64 a1 (IntKind.wrap .i64 (8 * a5))))]).length < lim)) then (some (.inl (((), a1, (IntKind.wrap .i64 (a5 - 1)), ()), (), ((q0 ++ [(IntKind.wrap .u8 (iShr .u64 a1 (IntKind.wrap .i64 (8 * a5))))]), ())))) else none) else none) else (some (.inr (((), ()), (), (q0, ())))))
noncomputable def L60_2 (a1 : Int) (a5 : Int) (q0 : (List Int)) : Option ((Unit × Unit) × Unit × ((List Int) × Unit)) := loopF (fun x : ((Unit × (Int × (Int × Unit))) × Unit × ((List Int) × Unit)) => T60_2 x.1.2.1 x.1.2.2.1 x.2.2.1) (((), a1, a5, ()), (), (q0, ()))
theorem L60_2_eq (a1 : Int) (a5 : Int) (q0 : (List Int)) : L60_2 a1 a5 q0 = (T60_2 a1 a5 q0).bind (Sum.elim (fun x => L60_2 x.1.2.1 x.1.2.2.1 x.2.2.1) some) := loopF_eq _ _
noncomputable def k60_2 : Con := ⟨i60_2, o60_2, fun x => L60_2 x.1.2.1 x.1.2.2.1 x.2.2.1⟩
theorem e60_2 (x : i60_2.E) : vround Try.prog C60_2 LO60_2 Try.f60.ntmps l60_2 i60_2 o60_2 x = T60_2 x.1.2.1 x.1.2.2.1 x.2.2.1 := by kernel_rfl
theorem k60_2_ok : Con.LOK Try.prog Try.f60.ntmps l60_2 k60_2 := (loop_ok C60_2_ok (loops_of (l := []) (by kernel_rfl) (show LoopsOK Try.prog Try.f60.ntmps [] LO60_2 from trivial)) i60_2 o60_2).congr fun x => (congrArg (fun T => loopF T x) (funext e60_2)).symm
noncomputable def C60 : Tab := []
theorem C60_ok : TabOK Try.prog C60 := trivial
noncomputable def LO60 : Tab := [(2, k60_2)]
noncomputable def i60 : Tm := { sl := [(0, .o 0), (1, .v (.i .u64))], bx := [], bf := [(.i .u8)] }
noncomputable def o60 : OT := (.ret { sl := [(0, .o 0)], bx := [], bf := [(.i .u8)] })
/-- anabranch/digits.LayFixed -/
noncomputable def F60 (a1 : Int) (q0 : (List Int)) : Option ((Unit × Unit) × Unit × ((List Int) × Unit)) :=
  ((L60_2 a1 7 q0).bind fun y5 => (some (((), ()), (), (y5.2.2.1, ()))))
noncomputable def c60 : Con := ⟨i60, o60, fun x => F60 x.1.2.1 x.2.2.1⟩
theorem e60 (x : i60.E) : vfn Try.prog C60 LO60 Try.f60 b60 i60 o60 x = F60 x.1.2.1 x.2.2.1 := by kernel_rfl
theorem c60_ok : Con.OK Try.prog 60 c60 := (fn_ok C60_ok Try.func60 body60 (loops_of (l := [l60_2]) (by kernel_rfl) (show LoopsOK Try.prog Try.f60.ntmps [l60_2] LO60 from ⟨k60_2_ok, trivial⟩)) i60 o60).congr fun x => (e60 x).symm
noncomputable def l62_3 : Code := (.seq (.seq (.region 3 (regOf Try.f62 3) false) (.cond (.tmp 10) .skip (.exit 0))) (.block 1 (.seq (.region 4 (regOf Try.f62 4) false) (.region 5 (regOf Try.f62 5) false))))
noncomputable def b62 : Code := (.seq (.region 0 (regOf Try.f62 0) false) (.seq (.region 1 (regOf Try.f62 1) false) (.seq (.region 2 (regOf Try.f62 2) false) (.seq (.block 0 (.loop l62_3)) (.seq (.region 6 (regOf Try.f62 6) false) .ret)))))
theorem body62 : Try.f62.body = some b62 := by kernel_rfl
noncomputable def C62_3 : Tab := []
theorem C62_3_ok : TabOK Try.prog C62_3 := trivial
noncomputable def LO62_3 : Tab := []
noncomputable def i62_3 : Tm := { sl := [(1, .v (.i .u64)), (5, .o 0)], bx := [], bf := [(.i .u8)] }
noncomputable def o62_3 : OT := (.exit 0 { sl := [(1, .v (.i .u64)), (5, .o 0)], bx := [], bf := [(.i .u8)] })
noncomputable def T62_3 (a1 : Int) (q0 : (List Int)) : Option (((Int × (Unit × Unit)) × Unit × ((List Int) × Unit)) ⊕ ((Int × (Unit × Unit)) × Unit × ((List Int) × Unit))) :=
  (bif (decide ((a1 : Int) > 127)) then (bif (decide ((q0).length + ([(IntKind.wrap .u8 (IntKind.wrap .u64 (128 + ((a1 : Int).tmod 128))))]).length < lim)) then (some (.inl (((IntKind.wrap .u64 ((a1 : Int).tdiv 128)), (), ()), (), ((q0 ++ [(IntKind.wrap .u8 (IntKind.wrap .u64 (128 + ((a1 : Int).tmod 128))))]), ())))) else none) else (some (.inr ((a1, (), ()), (), (q0, ())))))
noncomputable def L62_3 (a1 : Int) (q0 : (List Int)) : Option ((Int × (Unit × Unit)) × Unit × ((List Int) × Unit)) := loopF (fun x : ((Int × (Unit × Unit)) × Unit × ((List Int) × Unit)) => T62_3 x.1.1 x.2.2.1) ((a1, (), ()), (), (q0, ()))
theorem L62_3_eq (a1 : Int) (q0 : (List Int)) : L62_3 a1 q0 = (T62_3 a1 q0).bind (Sum.elim (fun x => L62_3 x.1.1 x.2.2.1) some) := loopF_eq _ _
noncomputable def k62_3 : Con := ⟨i62_3, o62_3, fun x => L62_3 x.1.1 x.2.2.1⟩
theorem e62_3 (x : i62_3.E) : vround Try.prog C62_3 LO62_3 Try.f62.ntmps l62_3 i62_3 o62_3 x = T62_3 x.1.1 x.2.2.1 := by kernel_rfl
theorem k62_3_ok : Con.LOK Try.prog Try.f62.ntmps l62_3 k62_3 := (loop_ok C62_3_ok (loops_of (l := []) (by kernel_rfl) (show LoopsOK Try.prog Try.f62.ntmps [] LO62_3 from trivial)) i62_3 o62_3).congr fun x => (congrArg (fun T => loopF T x) (funext e62_3)).symm
noncomputable def C62 : Tab := []
theorem C62_ok : TabOK Try.prog C62 := trivial
noncomputable def LO62 : Tab := [(3, k62_3)]
noncomputable def i62 : Tm := { sl := [(0, .v (.l (.i .u8))), (1, .v (.i .u64))], bx := [], bf := [] }
noncomputable def o62 : OT := (.ret { sl := [(0, .o 0)], bx := [], bf := [(.i .u8)] })
/-- anabranch/anabranchref01.Lay -/
noncomputable def F62 (a0 : (List Int)) (a1 : Int) : Option ((Unit × Unit) × Unit × ((List Int) × Unit)) :=
  (bif (decide ((a0).length < lim)) then ((L62_3 a1 a0).bind fun y6 => (bif (decide ((y6.2.2.1).length + ([(IntKind.wrap .u8 y6.1.1)]).length < lim)) then (some (((), ()), (), ((y6.2.2.1 ++ [(IntKind.wrap .u8 y6.1.1)]), ()))) else none)) else none)
noncomputable def c62 : Con := ⟨i62, o62, fun x => F62 x.1.1 x.1.2.1⟩
theorem e62 (x : i62.E) : vfn Try.prog C62 LO62 Try.f62 b62 i62 o62 x = F62 x.1.1 x.1.2.1 := by kernel_rfl
theorem c62_ok : Con.OK Try.prog 62 c62 := (fn_ok C62_ok Try.func62 body62 (loops_of (l := [l62_3]) (by kernel_rfl) (show LoopsOK Try.prog Try.f62.ntmps [l62_3] LO62 from ⟨k62_3_ok, trivial⟩)) i62 o62).congr fun x => (e62 x).symm
noncomputable def b63 : Code := (.seq (.region 0 (regOf Try.f63 0) false) (.seq (.region 1 (regOf Try.f63 1) false) .ret))
theorem body63 : Try.f63.body = some b63 := by kernel_rfl
noncomputable def C63 : Tab := [(62, c62)]
theorem C63_ok : TabOK Try.prog C63 := ⟨c62_ok, trivial⟩
noncomputable def LO63 : Tab := []
noncomputable def i63 : Tm := { sl := [(0, .v (.l (.i .u8))), (1, .v (.l (.i .u8)))], bx := [], bf := [] }
noncomputable def o63 : OT := (.ret { sl := [(0, .o 0)], bx := [], bf := [(.i .u8)] })
/-- anabranch/anabranchref01.Text -/
noncomputable def F63 (a0 : (List Int)) (a1 : (List Int)) : Option ((Unit × Unit) × Unit × ((List Int) × Unit)) :=
  ((F62 a0 (IntKind.wrap .u64 (((a1).length : Nat) : Int))).bind fun y7 => (bif (decide ((y7.2.2.1).length + (a1).length < lim)) then (some (((), ()), (), ((y7.2.2.1 ++ a1), ()))) else none))
noncomputable def c63 : Con := ⟨i63, o63, fun x => F63 x.1.1 x.1.2.1⟩
theorem e63 (x : i63.E) : vfn Try.prog C63 LO63 Try.f63 b63 i63 o63 x = F63 x.1.1 x.1.2.1 := by kernel_rfl
theorem c63_ok : Con.OK Try.prog 63 c63 := (fn_ok C63_ok Try.func63 body63 (loops_of (l := []) (by kernel_rfl) (show LoopsOK Try.prog Try.f63.ntmps [] LO63 from trivial)) i63 o63).congr fun x => (e63 x).symm
noncomputable def l64_4 : Code := (.seq (.seq (.region 4 (regOf Try.f64 4) false) (.cond (.tmp 11) .skip (.exit 0))) (.seq (.block 1 (.region 6 (regOf Try.f64 6) false)) (.region 5 (regOf Try.f64 5) false)))
noncomputable def b64 : Code := (.seq (.region 0 (regOf Try.f64 0) false) (.seq (.region 1 (regOf Try.f64 1) false) (.seq (.region 2 (regOf Try.f64 2) false) (.seq (.seq (.region 3 (regOf Try.f64 3) false) (.block 0 (.loop l64_4))) (.seq (.region 7 (regOf Try.f64 7) false) .ret)))))
theorem body64 : Try.f64.body = some b64 := by kernel_rfl
noncomputable def C64_4 : Tab := []
theorem C64_4_ok : TabOK Try.prog C64_4 := trivial
noncomputable def LO64_4 : Tab := []
noncomputable def i64_4 : Tm := { sl := [(1, .v (.i .u64)), (5, .o 0), (6, .v (.i .i64))], bx := [], bf := [(.i .u8)] }
noncomputable def o64_4 : OT := (.exit 0 { sl := [(5, .o 0)], bx := [], bf := [(.i .u8)] })
noncomputable def T64_4 (a1 : Int) (a6 : Int) (q0 : (List Int)) : Option (((Int × (Unit × (Int × Unit))) × Unit × ((List Int) × Unit)) ⊕ ((Unit × Unit) × Unit × ((List Int) × Unit))) :=
  (bif (decide ((a6 : Int) < 8)) then (bif (decide ((0 : Int) ≤ (IntKind.wrap .i64 (56 - (IntKind.wrap .i64 (8 * a6)))))) then (bif (decide ((q0).length + ([(IntKind.wrap .u8 (iShr .u64 a1 (IntKind.wrap .i64 (56 - (IntKind.wrap .i64 (8 * a6))))))]).length < lim)) then (some (.inl ((a1, (), (IntKind.wrap .i64 (a6 + 1)), ()), (), ((q0 ++ [(IntKind.wrap .u8 (iShr .u64 a1 (IntKind.wrap .i64 (56 - (IntKind.wrap .i64 (8 * a6))))))]), ())))) else none) else none) else (some (.inr (((), ()), (), (q0, ())))))
noncomputable def L64_4 (a1 : Int) (a6 : Int) (q0 : (List Int)) : Option ((Unit × Unit) × Unit × ((List Int) × Unit)) := loopF (fun x : ((Int × (Unit × (Int × Unit))) × Unit × ((List Int) × Unit)) => T64_4 x.1.1 x.1.2.2.1 x.2.2.1) ((a1, (), a6, ()), (), (q0, ()))
theorem L64_4_eq (a1 : Int) (a6 : Int) (q0 : (List Int)) : L64_4 a1 a6 q0 = (T64_4 a1 a6 q0).bind (Sum.elim (fun x => L64_4 x.1.1 x.1.2.2.1 x.2.2.1) some) := loopF_eq _ _
noncomputable def k64_4 : Con := ⟨i64_4, o64_4, fun x => L64_4 x.1.1 x.1.2.2.1 x.2.2.1⟩
theorem e64_4 (x : i64_4.E) : vround Try.prog C64_4 LO64_4 Try.f64.ntmps l64_4 i64_4 o64_4 x = T64_4 x.1.1 x.1.2.2.1 x.2.2.1 := by kernel_rfl
theorem k64_4_ok : Con.LOK Try.prog Try.f64.ntmps l64_4 k64_4 := (loop_ok C64_4_ok (loops_of (l := []) (by kernel_rfl) (show LoopsOK Try.prog Try.f64.ntmps [] LO64_4 from trivial)) i64_4 o64_4).congr fun x => (congrArg (fun T => loopF T x) (funext e64_4)).symm
noncomputable def C64 : Tab := []
theorem C64_ok : TabOK Try.prog C64 := trivial
noncomputable def LO64 : Tab := [(4, k64_4)]
noncomputable def i64 : Tm := { sl := [(0, .v (.l (.i .u8))), (1, .v (.i .u64))], bx := [], bf := [] }
noncomputable def o64 : OT := (.ret { sl := [(0, .o 0)], bx := [], bf := [(.i .u8)] })
/-- anabranch/anabranchref01.Fixed -/
noncomputable def F64 (a0 : (List Int)) (a1 : Int) : Option ((Unit × Unit) × Unit × ((List Int) × Unit)) :=
  (bif (decide ((a0).length < lim)) then ((L64_4 a1 0 a0).bind fun y8 => (some (((), ()), (), (y8.2.2.1, ())))) else none)
noncomputable def c64 : Con := ⟨i64, o64, fun x => F64 x.1.1 x.1.2.1⟩
theorem e64 (x : i64.E) : vfn Try.prog C64 LO64 Try.f64 b64 i64 o64 x = F64 x.1.1 x.1.2.1 := by kernel_rfl
theorem c64_ok : Con.OK Try.prog 64 c64 := (fn_ok C64_ok Try.func64 body64 (loops_of (l := [l64_4]) (by kernel_rfl) (show LoopsOK Try.prog Try.f64.ntmps [l64_4] LO64 from ⟨k64_4_ok, trivial⟩)) i64 o64).congr fun x => (e64 x).symm
noncomputable def b47 : Code := (.seq (.region 0 (regOf Try.f47 0) false) (.seq (.region 1 (regOf Try.f47 1) false) (.seq (.region 2 (regOf Try.f47 2) true) (.seq (.seq (.region 3 (regOf Try.f47 3) false) (.cond (.tmp 26) (.region 4 (regOf Try.f47 4) false) .skip)) (.seq (.seq (.region 5 (regOf Try.f47 5) false) (.block 0 (.seq (.region 6 (regOf Try.f47 6) false) (.cond (.tmp 34) (.region 7 (regOf Try.f47 7) false) (.seq (.seq (.region 8 (regOf Try.f47 8) false) (.cond (.tmp 40) .skip (.region 9 (regOf Try.f47 9) false))) (.cond (.tmp 40) (.region 10 (regOf Try.f47 10) false) (.seq (.region 11 (regOf Try.f47 11) false) (.cond (.tmp 48) (.region 12 (regOf Try.f47 12) false) .skip)))))))) (.seq (.region 13 (regOf Try.f47 13) false) .ret))))))
theorem body47 : Try.f47.body = some b47 := by kernel_rfl
noncomputable def C47 : Tab := [(58, c58), (59, c59), (60, c60), (61, c61)]
theorem C47_ok : TabOK Try.prog C47 := ⟨c58_ok, c59_ok, c60_ok, c61_ok, trivial⟩
noncomputable def LO47 : Tab := []
noncomputable def i47 : Tm := { sl := [(0, .v (.p (.i .i64) (.p (.i .u64) (.p (.i .u64) (.p (.i .u8) (.p .s (.p (.l (.i .u8)) (.p (.f .f64) (.p (.i .i64) .u)))))))))], bx := [], bf := [] }
noncomputable def o47 : OT := (.ret { sl := [(0, .o 0)], bx := [], bf := [(.i .u8)] })
/-- anabranch/event.Encode -/
noncomputable def F47 (a0 : (Int × (Int × (Int × (Int × (ByteArray × ((List Int) × (Nat × (Int × Unit))))))))) : Option ((Unit × Unit) × Unit × ((List Int) × Unit)) :=
  ((F58 (IntKind.wrap .u64 a0.1) ([] : List Int)).bind fun y9 => ((F58 a0.2.1 y9.2.2.1).bind fun y10 => ((F58 a0.2.2.1 y10.2.2.1).bind fun y11 => (bif (decide ((y11.2.2.1).length + ([a0.2.2.2.1]).length < lim)) then (bif (decide ((a0.2.2.2.1 : Int) ≥ 1)) then (bif (decide ((a0.2.2.2.1 : Int) ≤ 4)) then ((F59 (bytesL a0.2.2.2.2.1) (y11.2.2.1 ++ [a0.2.2.2.1])).bind fun y12 => (bif ((a0.2.2.2.1 : Int) == 1) then ((F59 a0.2.2.2.2.2.1 y12.2.2.1).bind fun y13 => (some (((), ()), (), (y13.2.2.1, ())))) else (bif ((a0.2.2.2.1 : Int) == 2) then ((F61 a0.2.2.2.2.2.2.1).bind fun y14 => ((F60 y14.1.1 y12.2.2.1).bind fun y15 => (some (((), ()), (), (y15.2.2.1, ()))))) else (bif ((a0.2.2.2.1 : Int) == 3) then ((F61 a0.2.2.2.2.2.2.1).bind fun y16 => ((F60 y16.1.1 y12.2.2.1).bind fun y17 => (some (((), ()), (), (y17.2.2.1, ()))))) else (bif ((a0.2.2.2.1 : Int) == 5) then ((F58 (IntKind.wrap .u64 a0.2.2.2.2.2.2.2.1) y12.2.2.1).bind fun y18 => (some (((), ()), (), (y18.2.2.1, ())))) else (some (((), ()), (), (y12.2.2.1, ())))))))) else (bif ((a0.2.2.2.1 : Int) == 1) then ((F59 a0.2.2.2.2.2.1 (y11.2.2.1 ++ [a0.2.2.2.1])).bind fun y19 => (some (((), ()), (), (y19.2.2.1, ())))) else (bif ((a0.2.2.2.1 : Int) == 2) then ((F61 a0.2.2.2.2.2.2.1).bind fun y20 => ((F60 y20.1.1 (y11.2.2.1 ++ [a0.2.2.2.1])).bind fun y21 => (some (((), ()), (), (y21.2.2.1, ()))))) else (bif ((a0.2.2.2.1 : Int) == 3) then ((F61 a0.2.2.2.2.2.2.1).bind fun y22 => ((F60 y22.1.1 (y11.2.2.1 ++ [a0.2.2.2.1])).bind fun y23 => (some (((), ()), (), (y23.2.2.1, ()))))) else (bif ((a0.2.2.2.1 : Int) == 5) then ((F58 (IntKind.wrap .u64 a0.2.2.2.2.2.2.2.1) (y11.2.2.1 ++ [a0.2.2.2.1])).bind fun y24 => (some (((), ()), (), (y24.2.2.1, ())))) else (some (((), ()), (), ((y11.2.2.1 ++ [a0.2.2.2.1]), ())))))))) else (bif ((a0.2.2.2.1 : Int) == 1) then ((F59 a0.2.2.2.2.2.1 (y11.2.2.1 ++ [a0.2.2.2.1])).bind fun y25 => (some (((), ()), (), (y25.2.2.1, ())))) else (bif ((a0.2.2.2.1 : Int) == 2) then ((F61 a0.2.2.2.2.2.2.1).bind fun y26 => ((F60 y26.1.1 (y11.2.2.1 ++ [a0.2.2.2.1])).bind fun y27 => (some (((), ()), (), (y27.2.2.1, ()))))) else (bif ((a0.2.2.2.1 : Int) == 3) then ((F61 a0.2.2.2.2.2.2.1).bind fun y28 => ((F60 y28.1.1 (y11.2.2.1 ++ [a0.2.2.2.1])).bind fun y29 => (some (((), ()), (), (y29.2.2.1, ()))))) else (bif ((a0.2.2.2.1 : Int) == 5) then ((F58 (IntKind.wrap .u64 a0.2.2.2.2.2.2.2.1) (y11.2.2.1 ++ [a0.2.2.2.1])).bind fun y30 => (some (((), ()), (), (y30.2.2.1, ())))) else (some (((), ()), (), ((y11.2.2.1 ++ [a0.2.2.2.1]), ())))))))) else none))))
noncomputable def c47 : Con := ⟨i47, o47, fun x => F47 x.1.1⟩
theorem e47 (x : i47.E) : vfn Try.prog C47 LO47 Try.f47 b47 i47 o47 x = F47 x.1.1 := by kernel_rfl
theorem c47_ok : Con.OK Try.prog 47 c47 := (fn_ok C47_ok Try.func47 body47 (loops_of (l := []) (by kernel_rfl) (show LoopsOK Try.prog Try.f47.ntmps [] LO47 from trivial)) i47 o47).congr fun x => (e47 x).symm
noncomputable def b49 : Code := (.seq (.region 0 (regOf Try.f49 0) false) (.seq (.region 1 (regOf Try.f49 1) true) (.seq (.region 2 (regOf Try.f49 2) false) (.seq (.seq (.region 3 (regOf Try.f49 3) false) (.cond (.tmp 21) (.region 4 (regOf Try.f49 4) false) .skip)) (.seq (.seq (.region 5 (regOf Try.f49 5) false) (.cond (.tmp 29) (.region 6 (regOf Try.f49 6) false) .skip)) (.seq (.seq (.region 7 (regOf Try.f49 7) false) (.cond (.tmp 41) (.region 8 (regOf Try.f49 8) false) .skip)) (.seq (.seq (.region 9 (regOf Try.f49 9) false) (.cond (.tmp 49) (.region 10 (regOf Try.f49 10) false) .skip)) (.seq (.region 11 (regOf Try.f49 11) false) .ret))))))))
theorem body49 : Try.f49.body = some b49 := by kernel_rfl
noncomputable def C49 : Tab := [(62, c62), (63, c63), (64, c64), (65, c65)]
theorem C49_ok : TabOK Try.prog C49 := ⟨c62_ok, c63_ok, c64_ok, c65_ok, trivial⟩
noncomputable def LO49 : Tab := []
noncomputable def i49 : Tm := { sl := [(0, .v (.p (.i .i64) (.p (.i .u64) (.p (.i .u64) (.p (.i .u8) (.p .s (.p (.l (.i .u8)) (.p (.f .f64) (.p (.i .i64) .u)))))))))], bx := [], bf := [] }
noncomputable def o49 : OT := (.ret { sl := [(0, .o 0)], bx := [], bf := [(.i .u8)] })
/-- anabranch/anabranchref06.Encode -/
noncomputable def F49 (a0 : (Int × (Int × (Int × (Int × (ByteArray × ((List Int) × (Nat × (Int × Unit))))))))) : Option ((Unit × Unit) × Unit × ((List Int) × Unit)) :=
  ((F62 [] (IntKind.wrap .u64 a0.1)).bind fun y31 => ((F62 y31.2.2.1 a0.2.1).bind fun y32 => ((F62 y32.2.2.1 a0.2.2.1).bind fun y33 => (bif (decide ((y33.2.2.1).length + ([a0.2.2.2.1]).length < lim)) then (bif (decide ((a0.2.2.2.1 : Int) ≤ 4)) then ((F63 (y33.2.2.1 ++ [a0.2.2.2.1]) (bytesL a0.2.2.2.2.1)).bind fun y34 => (bif ((a0.2.2.2.1 : Int) == 1) then ((F63 y34.2.2.1 a0.2.2.2.2.2.1).bind fun y35 => (bif ((a0.2.2.2.1 : Int) == 2) then ((F65 a0.2.2.2.2.2.2.1).bind fun y36 => ((F64 y35.2.2.1 y36.1.1).bind fun y37 => (bif ((a0.2.2.2.1 : Int) == 5) then ((F62 y37.2.2.1 (IntKind.wrap .u64 a0.2.2.2.2.2.2.2.1)).bind fun y38 => (some (((), ()), (), (y38.2.2.1, ())))) else (some (((), ()), (), (y37.2.2.1, ())))))) else (bif ((a0.2.2.2.1 : Int) == 3) then ((F65 a0.2.2.2.2.2.2.1).bind fun y39 => ((F64 y35.2.2.1 y39.1.1).bind fun y40 => (bif ((a0.2.2.2.1 : Int) == 5) then ((F62 y40.2.2.1 (IntKind.wrap .u64 a0.2.2.2.2.2.2.2.1)).bind fun y41 => (some (((), ()), (), (y41.2.2.1, ())))) else (some (((), ()), (), (y40.2.2.1, ())))))) else (bif ((a0.2.2.2.1 : Int) == 5) then ((F62 y35.2.2.1 (IntKind.wrap .u64 a0.2.2.2.2.2.2.2.1)).bind fun y42 => (some (((), ()), (), (y42.2.2.1, ())))) else (some (((), ()), (), (y35.2.2.1, ()))))))) else (bif ((a0.2.2.2.1 : Int) == 2) then ((F65 a0.2.2.2.2.2.2.1).bind fun y43 => ((F64 y34.2.2.1 y43.1.1).bind fun y44 => (bif ((a0.2.2.2.1 : Int) == 5) then ((F62 y44.2.2.1 (IntKind.wrap .u64 a0.2.2.2.2.2.2.2.1)).bind fun y45 => (some (((), ()), (), (y45.2.2.1, ())))) else (some (((), ()), (), (y44.2.2.1, ())))))) else (bif ((a0.2.2.2.1 : Int) == 3) then ((F65 a0.2.2.2.2.2.2.1).bind fun y46 => ((F64 y34.2.2.1 y46.1.1).bind fun y47 => (bif ((a0.2.2.2.1 : Int) == 5) then ((F62 y47.2.2.1 (IntKind.wrap .u64 a0.2.2.2.2.2.2.2.1)).bind fun y48 => (some (((), ()), (), (y48.2.2.1, ())))) else (some (((), ()), (), (y47.2.2.1, ())))))) else (bif ((a0.2.2.2.1 : Int) == 5) then ((F62 y34.2.2.1 (IntKind.wrap .u64 a0.2.2.2.2.2.2.2.1)).bind fun y49 => (some (((), ()), (), (y49.2.2.1, ())))) else (some (((), ()), (), (y34.2.2.1, ())))))))) else (bif ((a0.2.2.2.1 : Int) == 1) then ((F63 (y33.2.2.1 ++ [a0.2.2.2.1]) a0.2.2.2.2.2.1).bind fun y50 => (bif ((a0.2.2.2.1 : Int) == 2) then ((F65 a0.2.2.2.2.2.2.1).bind fun y51 => ((F64 y50.2.2.1 y51.1.1).bind fun y52 => (bif ((a0.2.2.2.1 : Int) == 5) then ((F62 y52.2.2.1 (IntKind.wrap .u64 a0.2.2.2.2.2.2.2.1)).bind fun y53 => (some (((), ()), (), (y53.2.2.1, ())))) else (some (((), ()), (), (y52.2.2.1, ())))))) else (bif ((a0.2.2.2.1 : Int) == 3) then ((F65 a0.2.2.2.2.2.2.1).bind fun y54 => ((F64 y50.2.2.1 y54.1.1).bind fun y55 => (bif ((a0.2.2.2.1 : Int) == 5) then ((F62 y55.2.2.1 (IntKind.wrap .u64 a0.2.2.2.2.2.2.2.1)).bind fun y56 => (some (((), ()), (), (y56.2.2.1, ())))) else (some (((), ()), (), (y55.2.2.1, ())))))) else (bif ((a0.2.2.2.1 : Int) == 5) then ((F62 y50.2.2.1 (IntKind.wrap .u64 a0.2.2.2.2.2.2.2.1)).bind fun y57 => (some (((), ()), (), (y57.2.2.1, ())))) else (some (((), ()), (), (y50.2.2.1, ()))))))) else (bif ((a0.2.2.2.1 : Int) == 2) then ((F65 a0.2.2.2.2.2.2.1).bind fun y58 => ((F64 (y33.2.2.1 ++ [a0.2.2.2.1]) y58.1.1).bind fun y59 => (bif ((a0.2.2.2.1 : Int) == 5) then ((F62 y59.2.2.1 (IntKind.wrap .u64 a0.2.2.2.2.2.2.2.1)).bind fun y60 => (some (((), ()), (), (y60.2.2.1, ())))) else (some (((), ()), (), (y59.2.2.1, ())))))) else (bif ((a0.2.2.2.1 : Int) == 3) then ((F65 a0.2.2.2.2.2.2.1).bind fun y61 => ((F64 (y33.2.2.1 ++ [a0.2.2.2.1]) y61.1.1).bind fun y62 => (bif ((a0.2.2.2.1 : Int) == 5) then ((F62 y62.2.2.1 (IntKind.wrap .u64 a0.2.2.2.2.2.2.2.1)).bind fun y63 => (some (((), ()), (), (y63.2.2.1, ())))) else (some (((), ()), (), (y62.2.2.1, ())))))) else (bif ((a0.2.2.2.1 : Int) == 5) then ((F62 (y33.2.2.1 ++ [a0.2.2.2.1]) (IntKind.wrap .u64 a0.2.2.2.2.2.2.2.1)).bind fun y64 => (some (((), ()), (), (y64.2.2.1, ())))) else (some (((), ()), (), ((y33.2.2.1 ++ [a0.2.2.2.1]), ())))))))) else none))))
noncomputable def c49 : Con := ⟨i49, o49, fun x => F49 x.1.1⟩
theorem e49 (x : i49.E) : vfn Try.prog C49 LO49 Try.f49 b49 i49 o49 x = F49 x.1.1 := by kernel_rfl
theorem c49_ok : Con.OK Try.prog 49 c49 := (fn_ok C49_ok Try.func49 body49 (loops_of (l := []) (by kernel_rfl) (show LoopsOK Try.prog Try.f49.ntmps [] LO49 from trivial)) i49 o49).congr fun x => (e49 x).symm
noncomputable def b48 : Code := (.seq (.region 0 (regOf Try.f48 0) false) (.seq (.region 1 (regOf Try.f48 1) false) (.seq (.region 2 (regOf Try.f48 2) false) (.seq (.region 3 (regOf Try.f48 3) false) (.seq (.region 4 (regOf Try.f48 4) false) (.seq (.region 5 (regOf Try.f48 5) false) .ret))))))
theorem body48 : Try.f48.body = some b48 := by kernel_rfl
noncomputable def C48 : Tab := []
theorem C48_ok : TabOK Try.prog C48 := trivial
noncomputable def LO48 : Tab := []
noncomputable def i48 : Tm := { sl := [(0, .v (.i .u64))], bx := [], bf := [] }
noncomputable def o48 : OT := (.ret { sl := [(0, .v (.i .u64))], bx := [], bf := [] })
/-- anabranch/sums.mix -/
noncomputable def F48 (a0 : Int) : Option ((Int × Unit) × Unit × Unit) :=
  (some (((iXor .u64 (IntKind.wrap .u64 ((iXor .u64 (IntKind.wrap .u64 ((iXor .u64 a0 (iShr .u64 a0 30)) * 13787848793156543929)) (iShr .u64 (IntKind.wrap .u64 ((iXor .u64 a0 (iShr .u64 a0 30)) * 13787848793156543929)) 27)) * 10723151780598845931)) (iShr .u64 (IntKind.wrap .u64 ((iXor .u64 (IntKind.wrap .u64 ((iXor .u64 a0 (iShr .u64 a0 30)) * 13787848793156543929)) (iShr .u64 (IntKind.wrap .u64 ((iXor .u64 a0 (iShr .u64 a0 30)) * 13787848793156543929)) 27)) * 10723151780598845931)) 31)), ()), (), ()))
noncomputable def c48 : Con := ⟨i48, o48, fun x => F48 x.1.1⟩
theorem e48 (x : i48.E) : vfn Try.prog C48 LO48 Try.f48 b48 i48 o48 x = F48 x.1.1 := by kernel_rfl
theorem c48_ok : Con.OK Try.prog 48 c48 := (fn_ok C48_ok Try.func48 body48 (loops_of (l := []) (by kernel_rfl) (show LoopsOK Try.prog Try.f48.ntmps [] LO48 from trivial)) i48 o48).congr fun x => (e48 x).symm
noncomputable def l29_3 : Code := (.seq (.region 3 (regOf Try.f29 3) false) (.seq (.cond (.tmp 10) .skip (.exit 0)) (.seq (.block 1 (.seq (.region 4 (regOf Try.f29 4) false) (.region 5 (regOf Try.f29 5) false))) (.region 6 (regOf Try.f29 6) false))))
noncomputable def b29 : Code := (.seq (.region 0 (regOf Try.f29 0) false) (.seq (.region 1 (regOf Try.f29 1) false) (.seq (.seq (.region 2 (regOf Try.f29 2) false) (.block 0 (.loop l29_3))) (.seq (.region 7 (regOf Try.f29 7) false) .ret))))
theorem body29 : Try.f29.body = some b29 := by kernel_rfl
noncomputable def C29_3 : Tab := [(48, c48)]
theorem C29_3_ok : TabOK Try.prog C29_3 := ⟨c48_ok, trivial⟩
noncomputable def LO29_3 : Tab := []
noncomputable def i29_3 : Tm := { sl := [(3, .v (.i .u64)), (7, .v (.l (.i .u8))), (8, .v (.i .i64)), (9, .v (.i .i64))], bx := [], bf := [] }
noncomputable def o29_3 : OT := (.exit 0 { sl := [(3, .v (.i .u64))], bx := [], bf := [] })
noncomputable def T29_3 (a3 : Int) (a7 : (List Int)) (a8 : Int) (a9 : Int) : Option (((Int × ((List Int) × (Int × (Int × Unit)))) × Unit × Unit) ⊕ ((Int × Unit) × Unit × Unit)) :=
  (bif (decide ((a9 : Int) < a8)) then (bif (decide (0 ≤ (a9 : Int) ∧ (a9 : Int) < (((a7).length : Nat) : Int))) then ((F48 (iXor .u64 a3 (IntKind.wrap .u64 ((a7).getD (a9 : Int).toNat (0 : Int))))).bind fun y67 => (some (.inl ((y67.1.1, a7, a8, (IntKind.wrap .i64 (a9 + 1)), ()), (), ())))) else none) else (some (.inr ((a3, ()), (), ()))))
noncomputable def L29_3 (a3 : Int) (a7 : (List Int)) (a8 : Int) (a9 : Int) : Option ((Int × Unit) × Unit × Unit) := loopF (fun x : ((Int × ((List Int) × (Int × (Int × Unit)))) × Unit × Unit) => T29_3 x.1.1 x.1.2.1 x.1.2.2.1 x.1.2.2.2.1) ((a3, a7, a8, a9, ()), (), ())
theorem L29_3_eq (a3 : Int) (a7 : (List Int)) (a8 : Int) (a9 : Int) : L29_3 a3 a7 a8 a9 = (T29_3 a3 a7 a8 a9).bind (Sum.elim (fun x => L29_3 x.1.1 x.1.2.1 x.1.2.2.1 x.1.2.2.2.1) some) := loopF_eq _ _
noncomputable def k29_3 : Con := ⟨i29_3, o29_3, fun x => L29_3 x.1.1 x.1.2.1 x.1.2.2.1 x.1.2.2.2.1⟩
theorem e29_3 (x : i29_3.E) : vround Try.prog C29_3 LO29_3 Try.f29.ntmps l29_3 i29_3 o29_3 x = T29_3 x.1.1 x.1.2.1 x.1.2.2.1 x.1.2.2.2.1 := by kernel_rfl
theorem k29_3_ok : Con.LOK Try.prog Try.f29.ntmps l29_3 k29_3 := (loop_ok C29_3_ok (loops_of (l := []) (by kernel_rfl) (show LoopsOK Try.prog Try.f29.ntmps [] LO29_3 from trivial)) i29_3 o29_3).congr fun x => (congrArg (fun T => loopF T x) (funext e29_3)).symm
noncomputable def C29 : Tab := [(47, c47), (48, c48)]
theorem C29_ok : TabOK Try.prog C29 := ⟨c47_ok, c48_ok, trivial⟩
noncomputable def LO29 : Tab := [(3, k29_3)]
noncomputable def i29 : Tm := { sl := [(0, .v (.p (.i .i64) (.p (.i .u64) (.p (.i .u64) (.p (.i .u8) (.p .s (.p (.l (.i .u8)) (.p (.f .f64) (.p (.i .i64) .u)))))))))], bx := [], bf := [] }
noncomputable def o29 : OT := (.ret { sl := [(0, .v (.i .u64))], bx := [], bf := [] })
/-- anabranch/sums.Of -/
noncomputable def F29 (a0 : (Int × (Int × (Int × (Int × (ByteArray × ((List Int) × (Nat × (Int × Unit))))))))) : Option ((Int × Unit) × Unit × Unit) :=
  ((F47 (a0.1, (a0.2.1, (a0.2.2.1, (a0.2.2.2.1, (a0.2.2.2.2.1, (a0.2.2.2.2.2.1, (a0.2.2.2.2.2.2.1, (a0.2.2.2.2.2.2.2.1, ()))))))))).bind fun y65 => ((L29_3 11400714819323198485 y65.2.2.1 (((y65.2.2.1).length : Nat) : Int) 0).bind fun y68 => (some ((y68.1.1, ()), (), ()))))
noncomputable def c29 : Con := ⟨i29, o29, fun x => F29 x.1.1⟩
theorem e29 (x : i29.E) : vfn Try.prog C29 LO29 Try.f29 b29 i29 o29 x = F29 x.1.1 := by kernel_rfl
theorem c29_ok : Con.OK Try.prog 29 c29 := (fn_ok C29_ok Try.func29 body29 (loops_of (l := [l29_3]) (by kernel_rfl) (show LoopsOK Try.prog Try.f29.ntmps [l29_3] LO29 from ⟨k29_3_ok, trivial⟩)) i29 o29).congr fun x => (e29 x).symm
noncomputable def b30 : Code := (.seq (.region 0 (regOf Try.f30 0) false) (.seq (.region 1 (regOf Try.f30 1) false) .ret))
theorem body30 : Try.f30.body = some b30 := by kernel_rfl
noncomputable def C30 : Tab := [(48, c48)]
theorem C30_ok : TabOK Try.prog C30 := ⟨c48_ok, trivial⟩
noncomputable def LO30 : Tab := []
noncomputable def i30 : Tm := { sl := [(0, .v (.i .u64)), (1, .v (.i .u64))], bx := [], bf := [] }
noncomputable def o30 : OT := (.ret { sl := [(0, .v (.i .u64))], bx := [], bf := [] })
/-- anabranch/sums.Two -/
noncomputable def F30 (a0 : Int) (a1 : Int) : Option ((Int × Unit) × Unit × Unit) :=
  ((F48 (IntKind.wrap .u64 (a0 + 7146057691288625177))).bind fun y69 => ((F48 (iXor .u64 y69.1.1 a1)).bind fun y70 => (some ((y70.1.1, ()), (), ()))))
noncomputable def c30 : Con := ⟨i30, o30, fun x => F30 x.1.1 x.1.2.1⟩
theorem e30 (x : i30.E) : vfn Try.prog C30 LO30 Try.f30 b30 i30 o30 x = F30 x.1.1 x.1.2.1 := by kernel_rfl
theorem c30_ok : Con.OK Try.prog 30 c30 := (fn_ok C30_ok Try.func30 body30 (loops_of (l := []) (by kernel_rfl) (show LoopsOK Try.prog Try.f30.ntmps [] LO30 from trivial)) i30 o30).congr fun x => (e30 x).symm
noncomputable def b33 : Code := (.seq (.region 0 (regOf Try.f33 0) false) (.seq (.region 1 (regOf Try.f33 1) true) .ret))
theorem body33 : Try.f33.body = some b33 := by kernel_rfl
noncomputable def C33 : Tab := [(49, c49)]
theorem C33_ok : TabOK Try.prog C33 := ⟨c49_ok, trivial⟩
noncomputable def LO33 : Tab := []
noncomputable def i33 : Tm := { sl := [(0, .v (.p (.i .i64) (.p (.i .u64) (.p (.i .u64) (.p (.i .u8) (.p .s (.p (.l (.i .u8)) (.p (.f .f64) (.p (.i .i64) .u))))))))), (1, .v (.p (.i .i64) (.p (.i .u64) (.p (.i .u64) (.p (.i .u8) (.p .s (.p (.l (.i .u8)) (.p (.f .f64) (.p (.i .i64) .u)))))))))], bx := [], bf := [] }
noncomputable def o33 : OT := (.ret { sl := [(0, .v .b)], bx := [], bf := [] })
/-- anabranch/anabranchref06.Same -/
noncomputable def F33 (a0 : (Int × (Int × (Int × (Int × (ByteArray × ((List Int) × (Nat × (Int × Unit))))))))) (a1 : (Int × (Int × (Int × (Int × (ByteArray × ((List Int) × (Nat × (Int × Unit))))))))) : Option ((Bool × Unit) × Unit × Unit) :=
  ((F49 (a0.1, (a0.2.1, (a0.2.2.1, (a0.2.2.2.1, (a0.2.2.2.2.1, (a0.2.2.2.2.2.1, (a0.2.2.2.2.2.2.1, (a0.2.2.2.2.2.2.2.1, ()))))))))).bind fun y71 => ((F49 (a1.1, (a1.2.1, (a1.2.2.1, (a1.2.2.2.1, (a1.2.2.2.2.1, (a1.2.2.2.2.2.1, (a1.2.2.2.2.2.2.1, (a1.2.2.2.2.2.2.2.1, ()))))))))).bind fun y72 => (some (((((strL y71.2.2.1) : ByteArray).toList == ((strL y72.2.2.1) : ByteArray).toList), ()), (), ()))))
noncomputable def c33 : Con := ⟨i33, o33, fun x => F33 x.1.1 x.1.2.1⟩
theorem e33 (x : i33.E) : vfn Try.prog C33 LO33 Try.f33 b33 i33 o33 x = F33 x.1.1 x.1.2.1 := by kernel_rfl
theorem c33_ok : Con.OK Try.prog 33 c33 := (fn_ok C33_ok Try.func33 body33 (loops_of (l := []) (by kernel_rfl) (show LoopsOK Try.prog Try.f33.ntmps [] LO33 from trivial)) i33 o33).congr fun x => (e33 x).symm
noncomputable def l17_3 : Code := (.seq (.seq (.region 3 (regOf Try.f17 3) false) (.cond (.tmp 10) .skip (.exit 0))) (.seq (.block 1 (.region 5 (regOf Try.f17 5) false)) (.region 4 (regOf Try.f17 4) false)))
noncomputable def b17 : Code := (.seq (.region 0 (regOf Try.f17 0) false) (.seq (.region 1 (regOf Try.f17 1) false) (.seq (.seq (.region 2 (regOf Try.f17 2) false) (.block 0 (.loop l17_3))) (.seq (.region 6 (regOf Try.f17 6) false) .ret))))
theorem body17 : Try.f17.body = some b17 := by kernel_rfl
noncomputable def C17_3 : Tab := []
theorem C17_3_ok : TabOK Try.prog C17_3 := trivial
noncomputable def LO17_3 : Tab := []
noncomputable def i17_3 : Tm := { sl := [(0, .v (.l (.i .u8))), (1, .v (.i .u64)), (5, .o 0), (6, .v (.i .i64))], bx := [], bf := [(.p (.i .i64) (.p (.i .u64) (.p (.i .u64) (.p (.i .u8) (.p .s (.p (.l (.i .u8)) (.p (.f .f64) (.p (.i .i64) .u))))))))] }
noncomputable def o17_3 : OT := (.exit 0 { sl := [(5, .o 0)], bx := [], bf := [(.p (.i .i64) (.p (.i .u64) (.p (.i .u64) (.p (.i .u8) (.p .s (.p (.l (.i .u8)) (.p (.f .f64) (.p (.i .i64) .u))))))))] })
noncomputable def T17_3 (a0 : (List Int)) (a1 : Int) (a6 : Int) (q0 : (List (Int × (Int × (Int × (Int × (ByteArray × ((List Int) × (Nat × (Int × Unit)))))))))) : Option ((((List Int) × (Int × (Unit × (Int × Unit)))) × Unit × ((List (Int × (Int × (Int × (Int × (ByteArray × ((List Int) × (Nat × (Int × Unit))))))))) × Unit)) ⊕ ((Unit × Unit) × Unit × ((List (Int × (Int × (Int × (Int × (ByteArray × ((List Int) × (Nat × (Int × Unit))))))))) × Unit))) :=
  (bif (decide ((a6 : Int) < (((a0).length : Nat) : Int))) then (bif (decide (0 ≤ (a6 : Int) ∧ (a6 : Int) < (((a0).length : Nat) : Int))) then (bif (decide ((q0).length + ([(1, ((IntKind.wrap .u64 (a1 + (IntKind.wrap .u64 a6))), ((IntKind.wrap .u64 (IntKind.wrap .i64 (a6 + 1))), (1, ((⟨#[107]⟩ : ByteArray), ([((a0).getD (a6 : Int).toNat (0 : Int))], (0, (0, ()))))))))]).length < lim)) then (some (.inl ((a0, a1, (), (IntKind.wrap .i64 (a6 + 1)), ()), (), ((q0 ++ [(1, ((IntKind.wrap .u64 (a1 + (IntKind.wrap .u64 a6))), ((IntKind.wrap .u64 (IntKind.wrap .i64 (a6 + 1))), (1, ((⟨#[107]⟩ : ByteArray), ([((a0).getD (a6 : Int).toNat (0 : Int))], (0, (0, ()))))))))]), ())))) else none) else none) else (some (.inr (((), ()), (), (q0, ())))))
noncomputable def L17_3 (a0 : (List Int)) (a1 : Int) (a6 : Int) (q0 : (List (Int × (Int × (Int × (Int × (ByteArray × ((List Int) × (Nat × (Int × Unit)))))))))) : Option ((Unit × Unit) × Unit × ((List (Int × (Int × (Int × (Int × (ByteArray × ((List Int) × (Nat × (Int × Unit))))))))) × Unit)) := loopF (fun x : (((List Int) × (Int × (Unit × (Int × Unit)))) × Unit × ((List (Int × (Int × (Int × (Int × (ByteArray × ((List Int) × (Nat × (Int × Unit))))))))) × Unit)) => T17_3 x.1.1 x.1.2.1 x.1.2.2.2.1 x.2.2.1) ((a0, a1, (), a6, ()), (), (q0, ()))
theorem L17_3_eq (a0 : (List Int)) (a1 : Int) (a6 : Int) (q0 : (List (Int × (Int × (Int × (Int × (ByteArray × ((List Int) × (Nat × (Int × Unit)))))))))) : L17_3 a0 a1 a6 q0 = (T17_3 a0 a1 a6 q0).bind (Sum.elim (fun x => L17_3 x.1.1 x.1.2.1 x.1.2.2.2.1 x.2.2.1) some) := loopF_eq _ _
noncomputable def k17_3 : Con := ⟨i17_3, o17_3, fun x => L17_3 x.1.1 x.1.2.1 x.1.2.2.2.1 x.2.2.1⟩
theorem e17_3 (x : i17_3.E) : vround Try.prog C17_3 LO17_3 Try.f17.ntmps l17_3 i17_3 o17_3 x = T17_3 x.1.1 x.1.2.1 x.1.2.2.2.1 x.2.2.1 := by kernel_rfl
theorem k17_3_ok : Con.LOK Try.prog Try.f17.ntmps l17_3 k17_3 := (loop_ok C17_3_ok (loops_of (l := []) (by kernel_rfl) (show LoopsOK Try.prog Try.f17.ntmps [] LO17_3 from trivial)) i17_3 o17_3).congr fun x => (congrArg (fun T => loopF T x) (funext e17_3)).symm
noncomputable def C17 : Tab := []
theorem C17_ok : TabOK Try.prog C17 := trivial
noncomputable def LO17 : Tab := [(3, k17_3)]
noncomputable def i17 : Tm := { sl := [(0, .v (.l (.i .u8))), (1, .v (.i .u64))], bx := [], bf := [] }
noncomputable def o17 : OT := (.ret { sl := [(0, .v (.l (.p (.i .i64) (.p (.i .u64) (.p (.i .u64) (.p (.i .u8) (.p .s (.p (.l (.i .u8)) (.p (.f .f64) (.p (.i .i64) .u))))))))))], bx := [], bf := [] })
/-- anabranch/anabranchlaw26.events -/
noncomputable def F17 (a0 : (List Int)) (a1 : Int) : Option (((List (Int × (Int × (Int × (Int × (ByteArray × ((List Int) × (Nat × (Int × Unit))))))))) × Unit) × Unit × Unit) :=
  ((L17_3 a0 a1 0 ([] : List (Int × (Int × (Int × (Int × (ByteArray × ((List Int) × (Nat × (Int × Unit)))))))))).bind fun y73 => (some ((y73.2.2.1, ()), (), ())))
noncomputable def c17 : Con := ⟨i17, o17, fun x => F17 x.1.1 x.1.2.1⟩
theorem e17 (x : i17.E) : vfn Try.prog C17 LO17 Try.f17 b17 i17 o17 x = F17 x.1.1 x.1.2.1 := by kernel_rfl
theorem c17_ok : Con.OK Try.prog 17 c17 := (fn_ok C17_ok Try.func17 body17 (loops_of (l := [l17_3]) (by kernel_rfl) (show LoopsOK Try.prog Try.f17.ntmps [l17_3] LO17 from ⟨k17_3_ok, trivial⟩)) i17 o17).congr fun x => (e17 x).symm
noncomputable def b27 : Code := (.seq (.region 0 (regOf Try.f27 0) false) (.seq (.seq (.region 1 (regOf Try.f27 1) false) (.cond (.tmp 4) (.seq (.region 2 (regOf Try.f27 2) false) .ret) .skip)) (.seq (.region 3 (regOf Try.f27 3) false) .ret)))
theorem body27 : Try.f27.body = some b27 := by kernel_rfl
noncomputable def C27 : Tab := []
theorem C27_ok : TabOK Try.prog C27 := trivial
noncomputable def LO27 : Tab := []
noncomputable def i27 : Tm := { sl := [(0, .p 0 0)], bx := [[.v (.i .u64), .v (.i .i64), .v (.i .i64), .m (.i .u64) 1], [.r (.i .u64)]], bf := [] }
noncomputable def o27 : OT := (.ret { sl := [(0, .v (.i .i64))], bx := [[.v (.i .u64), .v (.i .i64), .v (.i .i64), .m (.i .u64) 1], [.r (.i .u64)]], bf := [] })
/-- (*anabranch/sums.Tree).Len -/
noncomputable def F27 (b0_0 : Int) (b0_1 : Int) (b0_2 : Int) (b1_0 : (List Int)) : Option ((Int × Unit) × ((Int × (Int × (Int × (Unit × Unit)))) × (((List Int) × Unit) × Unit)) × Unit) :=
  (some ((b0_1, ()), ((b0_0, b0_1, b0_2, (), ()), (b1_0, ()), ()), ()))
noncomputable def c27 : Con := ⟨i27, o27, fun x => F27 x.2.1.1.1 x.2.1.1.2.1 x.2.1.1.2.2.1 x.2.1.2.1.1⟩
theorem e27 (x : i27.E) : vfn Try.prog C27 LO27 Try.f27 b27 i27 o27 x = F27 x.2.1.1.1 x.2.1.1.2.1 x.2.1.1.2.2.1 x.2.1.2.1.1 := by kernel_rfl
theorem c27_ok : Con.OK Try.prog 27 c27 := (fn_ok C27_ok Try.func27 body27 (loops_of (l := []) (by kernel_rfl) (show LoopsOK Try.prog Try.f27.ntmps [] LO27 from trivial)) i27 o27).congr fun x => (e27 x).symm
noncomputable def b28 : Code := (.seq (.region 0 (regOf Try.f28 0) false) (.seq (.seq (.region 1 (regOf Try.f28 1) false) (.cond (.tmp 20) (.seq (.region 2 (regOf Try.f28 2) false) .ret) .skip)) (.seq (.region 3 (regOf Try.f28 3) false) .ret)))
theorem body28 : Try.f28.body = some b28 := by kernel_rfl
noncomputable def C28 : Tab := []
theorem C28_ok : TabOK Try.prog C28 := trivial
noncomputable def LO28 : Tab := []
noncomputable def i28 : Tm := { sl := [(0, .p 0 0), (1, .v (.i .i64))], bx := [[.v (.i .u64), .v (.i .i64), .v (.i .i64), .m (.i .u64) 1], [.r (.i .u64)]], bf := [] }
noncomputable def o28 : OT := (.ret { sl := [(0, .v (.i .u64)), (1, .v .b)], bx := [[.v (.i .u64), .v (.i .i64), .v (.i .i64), .m (.i .u64) 1], [.r (.i .u64)]], bf := [] })
/-- (*anabranch/sums.Tree).Node -/
noncomputable def F28 (a1 : Int) (b0_0 : Int) (b0_1 : Int) (b0_2 : Int) (b1_0 : (List Int)) : Option ((Int × (Bool × Unit)) × ((Int × (Int × (Int × (Unit × Unit)))) × (((List Int) × Unit) × Unit)) × Unit) :=
  (bif (decide ((a1 : Int) < 1)) then (some ((0, false, ()), ((b0_0, b0_1, b0_2, (), ()), (b1_0, ()), ()), ())) else (bif (decide ((a1 : Int) ≥ (((b1_0).length : Nat) : Int))) then (some ((0, false, ()), ((b0_0, b0_1, b0_2, (), ()), (b1_0, ()), ()), ())) else (bif (decide (0 ≤ (a1 : Int) ∧ (a1 : Int) < (((b1_0).length : Nat) : Int))) then (bif (decide ((a1 : Int).toNat < (b1_0).length)) then (some ((((b1_0).getD (a1 : Int).toNat (0 : Int)), true, ()), ((b0_0, b0_1, b0_2, (), ()), (b1_0, ()), ()), ())) else none) else none)))
noncomputable def c28 : Con := ⟨i28, o28, fun x => F28 x.1.2.1 x.2.1.1.1 x.2.1.1.2.1 x.2.1.1.2.2.1 x.2.1.2.1.1⟩
theorem e28 (x : i28.E) : vfn Try.prog C28 LO28 Try.f28 b28 i28 o28 x = F28 x.1.2.1 x.2.1.1.1 x.2.1.1.2.1 x.2.1.1.2.2.1 x.2.1.2.1.1 := by kernel_rfl
theorem c28_ok : Con.OK Try.prog 28 c28 := (fn_ok C28_ok Try.func28 body28 (loops_of (l := []) (by kernel_rfl) (show LoopsOK Try.prog Try.f28.ntmps [] LO28 from trivial)) i28 o28).congr fun x => (e28 x).symm
noncomputable def b31 : Code := (.seq (.region 0 (regOf Try.f31 0) false) (.seq (.seq (.region 1 (regOf Try.f31 1) false) (.cond (.tmp 4) (.seq (.region 2 (regOf Try.f31 2) false) .ret) .skip)) (.seq (.region 3 (regOf Try.f31 3) false) .ret)))
theorem body31 : Try.f31.body = some b31 := by kernel_rfl
noncomputable def C31 : Tab := []
theorem C31_ok : TabOK Try.prog C31 := trivial
noncomputable def LO31 : Tab := []
noncomputable def i31 : Tm := { sl := [(0, .p 0 0)], bx := [[.v (.i .u64), .v (.i .i64), .v (.i .i64), .m (.i .u64) 1], [.r (.i .u64)]], bf := [] }
noncomputable def o31 : OT := (.ret { sl := [(0, .v (.i .u64))], bx := [[.v (.i .u64), .v (.i .i64), .v (.i .i64), .m (.i .u64) 1], [.r (.i .u64)]], bf := [] })
/-- (*anabranch/sums.Tree).Root -/
noncomputable def F31 (b0_0 : Int) (b0_1 : Int) (b0_2 : Int) (b1_0 : (List Int)) : Option ((Int × Unit) × ((Int × (Int × (Int × (Unit × Unit)))) × (((List Int) × Unit) × Unit)) × Unit) :=
  (bif (decide (0 ≤ (1 : Int) ∧ (1 : Int) < (((b1_0).length : Nat) : Int))) then (bif (decide ((1 : Int).toNat < (b1_0).length)) then (some ((((b1_0).getD (1 : Int).toNat (0 : Int)), ()), ((b0_0, b0_1, b0_2, (), ()), (b1_0, ()), ()), ())) else none) else none)
noncomputable def c31 : Con := ⟨i31, o31, fun x => F31 x.2.1.1.1 x.2.1.1.2.1 x.2.1.1.2.2.1 x.2.1.2.1.1⟩
theorem e31 (x : i31.E) : vfn Try.prog C31 LO31 Try.f31 b31 i31 o31 x = F31 x.2.1.1.1 x.2.1.1.2.1 x.2.1.1.2.2.1 x.2.1.2.1.1 := by kernel_rfl
theorem c31_ok : Con.OK Try.prog 31 c31 := (fn_ok C31_ok Try.func31 body31 (loops_of (l := []) (by kernel_rfl) (show LoopsOK Try.prog Try.f31.ntmps [] LO31 from trivial)) i31 o31).congr fun x => (e31 x).symm
noncomputable def b32 : Code := (.seq (.region 0 (regOf Try.f32 0) false) (.seq (.seq (.region 1 (regOf Try.f32 1) false) (.cond (.tmp 4) (.seq (.region 2 (regOf Try.f32 2) false) .ret) .skip)) (.seq (.region 3 (regOf Try.f32 3) false) .ret)))
theorem body32 : Try.f32.body = some b32 := by kernel_rfl
noncomputable def C32 : Tab := []
theorem C32_ok : TabOK Try.prog C32 := trivial
noncomputable def LO32 : Tab := []
noncomputable def i32 : Tm := { sl := [(0, .p 0 0)], bx := [[.v (.i .u64), .v (.i .i64), .v (.i .i64), .m (.i .u64) 1], [.r (.i .u64)]], bf := [] }
noncomputable def o32 : OT := (.ret { sl := [(0, .v (.i .u64))], bx := [[.v (.i .u64), .v (.i .i64), .v (.i .i64), .m (.i .u64) 1], [.r (.i .u64)]], bf := [] })
/-- (*anabranch/sums.Tree).First -/
noncomputable def F32 (b0_0 : Int) (b0_1 : Int) (b0_2 : Int) (b1_0 : (List Int)) : Option ((Int × Unit) × ((Int × (Int × (Int × (Unit × Unit)))) × (((List Int) × Unit) × Unit)) × Unit) :=
  (some ((b0_0, ()), ((b0_0, b0_1, b0_2, (), ()), (b1_0, ()), ()), ()))
noncomputable def c32 : Con := ⟨i32, o32, fun x => F32 x.2.1.1.1 x.2.1.1.2.1 x.2.1.1.2.2.1 x.2.1.2.1.1⟩
theorem e32 (x : i32.E) : vfn Try.prog C32 LO32 Try.f32 b32 i32 o32 x = F32 x.2.1.1.1 x.2.1.1.2.1 x.2.1.1.2.2.1 x.2.1.2.1.1 := by kernel_rfl
theorem c32_ok : Con.OK Try.prog 32 c32 := (fn_ok C32_ok Try.func32 body32 (loops_of (l := []) (by kernel_rfl) (show LoopsOK Try.prog Try.f32.ntmps [] LO32 from trivial)) i32 o32).congr fun x => (e32 x).symm
noncomputable def l18_2 : Code := (.seq (.seq (.region 2 (regOf Try.f18 2) false) (.cond (.tmp 18) .skip (.exit 0))) (.block 1 (.region 3 (regOf Try.f18 3) false)))
noncomputable def l18_6 : Code := (.seq (.region 6 (regOf Try.f18 6) false) (.seq (.cond (.tmp 38) .skip (.exit 2)) (.seq (.block 3 (.seq (.region 7 (regOf Try.f18 7) false) (.seq (.seq (.region 8 (regOf Try.f18 8) false) (.cond (.tmp 43) (.region 9 (regOf Try.f18 9) false) .skip)) (.seq (.seq (.region 10 (regOf Try.f18 10) true) (.cond (.tmp 58) (.seq (.region 11 (regOf Try.f18 11) false) .ret) .skip)) (.region 12 (regOf Try.f18 12) true))))) (.region 13 (regOf Try.f18 13) false))))
noncomputable def l18_15 : Code := (.seq (.seq (.region 15 (regOf Try.f18 15) false) (.cond (.tmp 79) .skip (.exit 4))) (.seq (.block 5 (.region 17 (regOf Try.f18 17) true)) (.region 16 (regOf Try.f18 16) false)))
noncomputable def b18 : Code := (.seq (.region 0 (regOf Try.f18 0) false) (.seq (.region 1 (regOf Try.f18 1) false) (.seq (.block 0 (.loop l18_2)) (.seq (.region 4 (regOf Try.f18 4) false) (.seq (.seq (.region 5 (regOf Try.f18 5) false) (.block 2 (.loop l18_6))) (.seq (.seq (.region 14 (regOf Try.f18 14) false) (.block 4 (.loop l18_15))) (.seq (.region 18 (regOf Try.f18 18) false) .ret)))))))
theorem body18 : Try.f18.body = some b18 := by kernel_rfl
noncomputable def C18_2 : Tab := [(900032, cHot)]
theorem C18_2_ok : TabOK Try.prog C18_2 := ⟨cHot_ok, trivial⟩
noncomputable def LO18_2 : Tab := []
noncomputable def i18_2 : Tm := { sl := [(0, .v (.l (.p (.i .i64) (.p (.i .u64) (.p (.i .u64) (.p (.i .u8) (.p .s (.p (.l (.i .u8)) (.p (.f .f64) (.p (.i .i64) .u)))))))))), (4, .p 0 0)], bx := [[.v (.i .u64), .v (.i .i64), .v (.i .i64), .v (.l (.i .u64))]], bf := [] }
noncomputable def o18_2 : OT := (.exit 0 { sl := [], bx := [[.v (.i .u64), .v (.i .i64), .v (.i .i64), .v (.l (.i .u64))]], bf := [] })
noncomputable def T18_2 (a0 : (List (Int × (Int × (Int × (Int × (ByteArray × ((List Int) × (Nat × (Int × Unit)))))))))) (b0_0 : Int) (b0_1 : Int) (b0_2 : Int) (b0_3 : (List Int)) : Option ((((List (Int × (Int × (Int × (Int × (ByteArray × ((List Int) × (Nat × (Int × Unit))))))))) × (Unit × Unit)) × ((Int × (Int × (Int × ((List Int) × Unit)))) × Unit) × Unit) ⊕ (Unit × ((Int × (Int × (Int × ((List Int) × Unit)))) × Unit) × Unit)) :=
  (bif (decide ((b0_2 : Int) < (((a0).length : Nat) : Int))) then (some (.inl ((a0, (), ()), ((b0_0, b0_1, (IntKind.wrap .i64 (b0_2 * 2)), b0_3, ()), ()), ()))) else (some (.inr ((), ((b0_0, b0_1, b0_2, b0_3, ()), ()), ()))))
noncomputable def L18_2 (a0 : (List (Int × (Int × (Int × (Int × (ByteArray × ((List Int) × (Nat × (Int × Unit)))))))))) (b0_0 : Int) (b0_1 : Int) (b0_2 : Int) (b0_3 : (List Int)) : Option (Unit × ((Int × (Int × (Int × ((List Int) × Unit)))) × Unit) × Unit) := loopF (fun x : (((List (Int × (Int × (Int × (Int × (ByteArray × ((List Int) × (Nat × (Int × Unit))))))))) × (Unit × Unit)) × ((Int × (Int × (Int × ((List Int) × Unit)))) × Unit) × Unit) => T18_2 x.1.1 x.2.1.1.1 x.2.1.1.2.1 x.2.1.1.2.2.1 x.2.1.1.2.2.2.1) ((a0, (), ()), ((b0_0, b0_1, b0_2, b0_3, ()), ()), ())
theorem L18_2_eq (a0 : (List (Int × (Int × (Int × (Int × (ByteArray × ((List Int) × (Nat × (Int × Unit)))))))))) (b0_0 : Int) (b0_1 : Int) (b0_2 : Int) (b0_3 : (List Int)) : L18_2 a0 b0_0 b0_1 b0_2 b0_3 = (T18_2 a0 b0_0 b0_1 b0_2 b0_3).bind (Sum.elim (fun x => L18_2 x.1.1 x.2.1.1.1 x.2.1.1.2.1 x.2.1.1.2.2.1 x.2.1.1.2.2.2.1) some) := loopF_eq _ _
noncomputable def k18_2 : Con := ⟨i18_2, o18_2, fun x => L18_2 x.1.1 x.2.1.1.1 x.2.1.1.2.1 x.2.1.1.2.2.1 x.2.1.1.2.2.2.1⟩
theorem e18_2 (x : i18_2.E) : vround Try.prog C18_2 LO18_2 Try.f18.ntmps l18_2 i18_2 o18_2 x = T18_2 x.1.1 x.2.1.1.1 x.2.1.1.2.1 x.2.1.1.2.2.1 x.2.1.1.2.2.2.1 := by kernel_rfl
theorem k18_2_ok : Con.LOK Try.prog Try.f18.ntmps l18_2 k18_2 := (loop_ok C18_2_ok (loops_of (l := []) (by kernel_rfl) (show LoopsOK Try.prog Try.f18.ntmps [] LO18_2 from trivial)) i18_2 o18_2).congr fun x => (congrArg (fun T => loopF T x) (funext e18_2)).symm
noncomputable def C18_6 : Tab := [(29, c29), (900032, cHot)]
theorem C18_6_ok : TabOK Try.prog C18_6 := ⟨c29_ok, cHot_ok, trivial⟩
noncomputable def LO18_6 : Tab := []
noncomputable def i18_6 : Tm := { sl := [(4, .p 0 0), (35, .v (.l (.p (.i .i64) (.p (.i .u64) (.p (.i .u64) (.p (.i .u8) (.p .s (.p (.l (.i .u8)) (.p (.f .f64) (.p (.i .i64) .u)))))))))), (36, .v (.i .i64)), (37, .v (.i .i64))], bx := [[.v (.i .u64), .v (.i .i64), .v (.i .i64), .m (.i .u64) 1], [.r (.i .u64)]], bf := [] }
noncomputable def o18_6 : OT := (.two (.ret { sl := [(3, .v .b)], bx := [[.v (.i .u64), .v (.i .i64), .v (.i .i64), .m (.i .u64) 1], [.r (.i .u64)]], bf := [] }) (.exit 2 { sl := [], bx := [[.v (.i .u64), .v (.i .i64), .v (.i .i64), .m (.i .u64) 1], [.r (.i .u64)]], bf := [] }))
noncomputable def T18_6 (a35 : (List (Int × (Int × (Int × (Int × (ByteArray × ((List Int) × (Nat × (Int × Unit)))))))))) (a36 : Int) (a37 : Int) (b0_0 : Int) (b0_1 : Int) (b0_2 : Int) (b1_0 : (List Int)) : Option (((Unit × ((List (Int × (Int × (Int × (Int × (ByteArray × ((List Int) × (Nat × (Int × Unit))))))))) × (Int × (Int × Unit)))) × ((Int × (Int × (Int × (Unit × Unit)))) × (((List Int) × Unit) × Unit)) × Unit) ⊕ (((Bool × Unit) × ((Int × (Int × (Int × (Unit × Unit)))) × (((List Int) × Unit) × Unit)) × Unit) ⊕ (Unit × ((Int × (Int × (Int × (Unit × Unit)))) × (((List Int) × Unit) × Unit)) × Unit))) :=
  (bif (decide ((a37 : Int) < a36)) then (bif (decide (0 ≤ (a37 : Int) ∧ (a37 : Int) < (((a35).length : Nat) : Int))) then (bif ((a37 : Int) == 0) then (bif ((((a35).getD (a37 : Int).toNat ((0 : Int), ((0 : Int), ((0 : Int), ((0 : Int), (ByteArray.empty, ([], ((0 : Nat), ((0 : Int), ()))))))))).2.1 : Int) != (IntKind.wrap .u64 (((a35).getD (a37 : Int).toNat ((0 : Int), ((0 : Int), ((0 : Int), ((0 : Int), (ByteArray.empty, ([], ((0 : Nat), ((0 : Int), ()))))))))).2.1 + (IntKind.wrap .u64 a37)))) then (some (.inr (.inl ((false, ()), ((((a35).getD (a37 : Int).toNat ((0 : Int), ((0 : Int), ((0 : Int), ((0 : Int), (ByteArray.empty, ([], ((0 : Nat), ((0 : Int), ()))))))))).2.1, b0_1, b0_2, (), ()), (b1_0, ()), ()), ())))) else ((F29 (((a35).getD (a37 : Int).toNat ((0 : Int), ((0 : Int), ((0 : Int), ((0 : Int), (ByteArray.empty, ([], ((0 : Nat), ((0 : Int), ()))))))))).1, (((a35).getD (a37 : Int).toNat ((0 : Int), ((0 : Int), ((0 : Int), ((0 : Int), (ByteArray.empty, ([], ((0 : Nat), ((0 : Int), ()))))))))).2.1, (((a35).getD (a37 : Int).toNat ((0 : Int), ((0 : Int), ((0 : Int), ((0 : Int), (ByteArray.empty, ([], ((0 : Nat), ((0 : Int), ()))))))))).2.2.1, (((a35).getD (a37 : Int).toNat ((0 : Int), ((0 : Int), ((0 : Int), ((0 : Int), (ByteArray.empty, ([], ((0 : Nat), ((0 : Int), ()))))))))).2.2.2.1, (((a35).getD (a37 : Int).toNat ((0 : Int), ((0 : Int), ((0 : Int), ((0 : Int), (ByteArray.empty, ([], ((0 : Nat), ((0 : Int), ()))))))))).2.2.2.2.1, (((a35).getD (a37 : Int).toNat ((0 : Int), ((0 : Int), ((0 : Int), ((0 : Int), (ByteArray.empty, ([], ((0 : Nat), ((0 : Int), ()))))))))).2.2.2.2.2.1, (((a35).getD (a37 : Int).toNat ((0 : Int), ((0 : Int), ((0 : Int), ((0 : Int), (ByteArray.empty, ([], ((0 : Nat), ((0 : Int), ()))))))))).2.2.2.2.2.2.1, (((a35).getD (a37 : Int).toNat ((0 : Int), ((0 : Int), ((0 : Int), ((0 : Int), (ByteArray.empty, ([], ((0 : Nat), ((0 : Int), ()))))))))).2.2.2.2.2.2.2.1, ()))))))))).bind fun y77 => (bif (decide (0 ≤ ((IntKind.wrap .i64 (b0_2 + a37)) : Int) ∧ ((IntKind.wrap .i64 (b0_2 + a37)) : Int) < (((b1_0).length : Nat) : Int))) then (bif (decide (((IntKind.wrap .i64 (b0_2 + a37)) : Int).toNat < (b1_0).length)) then (some (.inl (((), a35, a36, (IntKind.wrap .i64 (a37 + 1)), ()), ((((a35).getD (a37 : Int).toNat ((0 : Int), ((0 : Int), ((0 : Int), ((0 : Int), (ByteArray.empty, ([], ((0 : Nat), ((0 : Int), ()))))))))).2.1, b0_1, b0_2, (), ()), (((b1_0).set ((IntKind.wrap .i64 (b0_2 + a37)) : Int).toNat y77.1.1), ()), ()), ()))) else none) else none))) else (bif ((((a35).getD (a37 : Int).toNat ((0 : Int), ((0 : Int), ((0 : Int), ((0 : Int), (ByteArray.empty, ([], ((0 : Nat), ((0 : Int), ()))))))))).2.1 : Int) != (IntKind.wrap .u64 (b0_0 + (IntKind.wrap .u64 a37)))) then (some (.inr (.inl ((false, ()), ((b0_0, b0_1, b0_2, (), ()), (b1_0, ()), ()), ())))) else ((F29 (((a35).getD (a37 : Int).toNat ((0 : Int), ((0 : Int), ((0 : Int), ((0 : Int), (ByteArray.empty, ([], ((0 : Nat), ((0 : Int), ()))))))))).1, (((a35).getD (a37 : Int).toNat ((0 : Int), ((0 : Int), ((0 : Int), ((0 : Int), (ByteArray.empty, ([], ((0 : Nat), ((0 : Int), ()))))))))).2.1, (((a35).getD (a37 : Int).toNat ((0 : Int), ((0 : Int), ((0 : Int), ((0 : Int), (ByteArray.empty, ([], ((0 : Nat), ((0 : Int), ()))))))))).2.2.1, (((a35).getD (a37 : Int).toNat ((0 : Int), ((0 : Int), ((0 : Int), ((0 : Int), (ByteArray.empty, ([], ((0 : Nat), ((0 : Int), ()))))))))).2.2.2.1, (((a35).getD (a37 : Int).toNat ((0 : Int), ((0 : Int), ((0 : Int), ((0 : Int), (ByteArray.empty, ([], ((0 : Nat), ((0 : Int), ()))))))))).2.2.2.2.1, (((a35).getD (a37 : Int).toNat ((0 : Int), ((0 : Int), ((0 : Int), ((0 : Int), (ByteArray.empty, ([], ((0 : Nat), ((0 : Int), ()))))))))).2.2.2.2.2.1, (((a35).getD (a37 : Int).toNat ((0 : Int), ((0 : Int), ((0 : Int), ((0 : Int), (ByteArray.empty, ([], ((0 : Nat), ((0 : Int), ()))))))))).2.2.2.2.2.2.1, (((a35).getD (a37 : Int).toNat ((0 : Int), ((0 : Int), ((0 : Int), ((0 : Int), (ByteArray.empty, ([], ((0 : Nat), ((0 : Int), ()))))))))).2.2.2.2.2.2.2.1, ()))))))))).bind fun y78 => (bif (decide (0 ≤ ((IntKind.wrap .i64 (b0_2 + a37)) : Int) ∧ ((IntKind.wrap .i64 (b0_2 + a37)) : Int) < (((b1_0).length : Nat) : Int))) then (bif (decide (((IntKind.wrap .i64 (b0_2 + a37)) : Int).toNat < (b1_0).length)) then (some (.inl (((), a35, a36, (IntKind.wrap .i64 (a37 + 1)), ()), ((b0_0, b0_1, b0_2, (), ()), (((b1_0).set ((IntKind.wrap .i64 (b0_2 + a37)) : Int).toNat y78.1.1), ()), ()), ()))) else none) else none)))) else none) else (some (.inr (.inr ((), ((b0_0, b0_1, b0_2, (), ()), (b1_0, ()), ()), ())))))
noncomputable def L18_6 (a35 : (List (Int × (Int × (Int × (Int × (ByteArray × ((List Int) × (Nat × (Int × Unit)))))))))) (a36 : Int) (a37 : Int) (b0_0 : Int) (b0_1 : Int) (b0_2 : Int) (b1_0 : (List Int)) : Option (((Bool × Unit) × ((Int × (Int × (Int × (Unit × Unit)))) × (((List Int) × Unit) × Unit)) × Unit) ⊕ (Unit × ((Int × (Int × (Int × (Unit × Unit)))) × (((List Int) × Unit) × Unit)) × Unit)) := loopF (fun x : ((Unit × ((List (Int × (Int × (Int × (Int × (ByteArray × ((List Int) × (Nat × (Int × Unit))))))))) × (Int × (Int × Unit)))) × ((Int × (Int × (Int × (Unit × Unit)))) × (((List Int) × Unit) × Unit)) × Unit) => T18_6 x.1.2.1 x.1.2.2.1 x.1.2.2.2.1 x.2.1.1.1 x.2.1.1.2.1 x.2.1.1.2.2.1 x.2.1.2.1.1) (((), a35, a36, a37, ()), ((b0_0, b0_1, b0_2, (), ()), (b1_0, ()), ()), ())
theorem L18_6_eq (a35 : (List (Int × (Int × (Int × (Int × (ByteArray × ((List Int) × (Nat × (Int × Unit)))))))))) (a36 : Int) (a37 : Int) (b0_0 : Int) (b0_1 : Int) (b0_2 : Int) (b1_0 : (List Int)) : L18_6 a35 a36 a37 b0_0 b0_1 b0_2 b1_0 = (T18_6 a35 a36 a37 b0_0 b0_1 b0_2 b1_0).bind (Sum.elim (fun x => L18_6 x.1.2.1 x.1.2.2.1 x.1.2.2.2.1 x.2.1.1.1 x.2.1.1.2.1 x.2.1.1.2.2.1 x.2.1.2.1.1) some) := loopF_eq _ _
noncomputable def k18_6 : Con := ⟨i18_6, o18_6, fun x => L18_6 x.1.2.1 x.1.2.2.1 x.1.2.2.2.1 x.2.1.1.1 x.2.1.1.2.1 x.2.1.1.2.2.1 x.2.1.2.1.1⟩
theorem e18_6 (x : i18_6.E) : vround Try.prog C18_6 LO18_6 Try.f18.ntmps l18_6 i18_6 o18_6 x = T18_6 x.1.2.1 x.1.2.2.1 x.1.2.2.2.1 x.2.1.1.1 x.2.1.1.2.1 x.2.1.1.2.2.1 x.2.1.2.1.1 := by kernel_rfl
theorem k18_6_ok : Con.LOK Try.prog Try.f18.ntmps l18_6 k18_6 := (loop_ok C18_6_ok (loops_of (l := []) (by kernel_rfl) (show LoopsOK Try.prog Try.f18.ntmps [] LO18_6 from trivial)) i18_6 o18_6).congr fun x => (congrArg (fun T => loopF T x) (funext e18_6)).symm
noncomputable def C18_15 : Tab := [(30, c30), (900032, cHot)]
theorem C18_15_ok : TabOK Try.prog C18_15 := ⟨c30_ok, cHot_ok, trivial⟩
noncomputable def LO18_15 : Tab := []
noncomputable def i18_15 : Tm := { sl := [(4, .p 0 0), (7, .v (.i .i64))], bx := [[.v (.i .u64), .v (.i .i64), .v (.i .i64), .m (.i .u64) 1], [.r (.i .u64)]], bf := [] }
noncomputable def o18_15 : OT := (.exit 4 { sl := [], bx := [[.v (.i .u64), .v (.i .i64), .v (.i .i64), .m (.i .u64) 1], [.r (.i .u64)]], bf := [] })
noncomputable def T18_15 (a7 : Int) (b0_0 : Int) (b0_1 : Int) (b0_2 : Int) (b1_0 : (List Int)) : Option (((Unit × (Int × Unit)) × ((Int × (Int × (Int × (Unit × Unit)))) × (((List Int) × Unit) × Unit)) × Unit) ⊕ (Unit × ((Int × (Int × (Int × (Unit × Unit)))) × (((List Int) × Unit) × Unit)) × Unit)) :=
  (bif (decide ((a7 : Int) > 0)) then (bif (decide (0 ≤ ((IntKind.wrap .i64 (2 * a7)) : Int) ∧ ((IntKind.wrap .i64 (2 * a7)) : Int) < (((b1_0).length : Nat) : Int))) then (bif (decide (((IntKind.wrap .i64 (2 * a7)) : Int).toNat < (b1_0).length)) then (bif (decide (0 ≤ ((IntKind.wrap .i64 ((IntKind.wrap .i64 (2 * a7)) + 1)) : Int) ∧ ((IntKind.wrap .i64 ((IntKind.wrap .i64 (2 * a7)) + 1)) : Int) < (((b1_0).length : Nat) : Int))) then (bif (decide (((IntKind.wrap .i64 ((IntKind.wrap .i64 (2 * a7)) + 1)) : Int).toNat < (b1_0).length)) then ((F30 ((b1_0).getD ((IntKind.wrap .i64 (2 * a7)) : Int).toNat (0 : Int)) ((b1_0).getD ((IntKind.wrap .i64 ((IntKind.wrap .i64 (2 * a7)) + 1)) : Int).toNat (0 : Int))).bind fun y82 => (bif (decide (0 ≤ (a7 : Int) ∧ (a7 : Int) < (((b1_0).length : Nat) : Int))) then (bif (decide ((a7 : Int).toNat < (b1_0).length)) then (some (.inl (((), (IntKind.wrap .i64 (a7 - 1)), ()), ((b0_0, b0_1, b0_2, (), ()), (((b1_0).set (a7 : Int).toNat y82.1.1), ()), ()), ()))) else none) else none)) else none) else none) else none) else none) else (some (.inr ((), ((b0_0, b0_1, b0_2, (), ()), (b1_0, ()), ()), ()))))
noncomputable def L18_15 (a7 : Int) (b0_0 : Int) (b0_1 : Int) (b0_2 : Int) (b1_0 : (List Int)) : Option (Unit × ((Int × (Int × (Int × (Unit × Unit)))) × (((List Int) × Unit) × Unit)) × Unit) := loopF (fun x : ((Unit × (Int × Unit)) × ((Int × (Int × (Int × (Unit × Unit)))) × (((List Int) × Unit) × Unit)) × Unit) => T18_15 x.1.2.1 x.2.1.1.1 x.2.1.1.2.1 x.2.1.1.2.2.1 x.2.1.2.1.1) (((), a7, ()), ((b0_0, b0_1, b0_2, (), ()), (b1_0, ()), ()), ())
theorem L18_15_eq (a7 : Int) (b0_0 : Int) (b0_1 : Int) (b0_2 : Int) (b1_0 : (List Int)) : L18_15 a7 b0_0 b0_1 b0_2 b1_0 = (T18_15 a7 b0_0 b0_1 b0_2 b1_0).bind (Sum.elim (fun x => L18_15 x.1.2.1 x.2.1.1.1 x.2.1.1.2.1 x.2.1.1.2.2.1 x.2.1.2.1.1) some) := loopF_eq _ _
noncomputable def k18_15 : Con := ⟨i18_15, o18_15, fun x => L18_15 x.1.2.1 x.2.1.1.1 x.2.1.1.2.1 x.2.1.1.2.2.1 x.2.1.2.1.1⟩
theorem e18_15 (x : i18_15.E) : vround Try.prog C18_15 LO18_15 Try.f18.ntmps l18_15 i18_15 o18_15 x = T18_15 x.1.2.1 x.2.1.1.1 x.2.1.1.2.1 x.2.1.1.2.2.1 x.2.1.2.1.1 := by kernel_rfl
theorem k18_15_ok : Con.LOK Try.prog Try.f18.ntmps l18_15 k18_15 := (loop_ok C18_15_ok (loops_of (l := []) (by kernel_rfl) (show LoopsOK Try.prog Try.f18.ntmps [] LO18_15 from trivial)) i18_15 o18_15).congr fun x => (congrArg (fun T => loopF T x) (funext e18_15)).symm
noncomputable def C18 : Tab := [(29, c29), (30, c30), (900032, cHot)]
theorem C18_ok : TabOK Try.prog C18 := ⟨c29_ok, c30_ok, cHot_ok, trivial⟩
noncomputable def LO18 : Tab := [(2, k18_2), (6, k18_6), (15, k18_15)]
noncomputable def i18 : Tm := { sl := [(0, .v (.l (.p (.i .i64) (.p (.i .u64) (.p (.i .u64) (.p (.i .u8) (.p .s (.p (.l (.i .u8)) (.p (.f .f64) (.p (.i .i64) .u))))))))))], bx := [], bf := [] }
noncomputable def o18 : OT := (.ret { sl := [(0, .p 0 0), (1, .v .b)], bx := [[.v (.i .u64), .v (.i .i64), .v (.i .i64), .m (.i .u64) 1], [.r (.i .u64)]], bf := [] })
/-- anabranch/sums.New -/
noncomputable def F18 (a0 : (List (Int × (Int × (Int × (Int × (ByteArray × ((List Int) × (Nat × (Int × Unit)))))))))) : Option ((Unit × (Bool × Unit)) × ((Int × (Int × (Int × (Unit × Unit)))) × (((List Int) × Unit) × Unit)) × Unit) :=
  ((L18_2 a0 1 (((a0).length : Nat) : Int) 1 []).bind fun y74 => (bif ((decide (0 ≤ ((IntKind.wrap .i64 (2 * y74.2.1.1.2.2.1)) : Int) ∧ ((IntKind.wrap .i64 (2 * y74.2.1.1.2.2.1)) : Int) = (IntKind.wrap .i64 (2 * y74.2.1.1.2.2.1)) ∧ ((IntKind.wrap .i64 (2 * y74.2.1.1.2.2.1)) : Int) < (lim : Int))) && (decide (0 < ((IntKind.wrap .i64 (2 * y74.2.1.1.2.2.1)) : Int)))) then ((L18_6 a0 (((a0).length : Nat) : Int) 0 y74.2.1.1.1 y74.2.1.1.2.1 y74.2.1.1.2.2.1 (List.replicate ((IntKind.wrap .i64 (2 * y74.2.1.1.2.2.1)) : Int).toNat 0)).bind fun y79 => (Sum.elim (fun y80 => none) (fun y80 => ((L18_15 (IntKind.wrap .i64 (y80.2.1.1.2.2.1 - 1)) y80.2.1.1.1 y80.2.1.1.2.1 y80.2.1.1.2.2.1 y80.2.1.2.1.1).bind fun y83 => (some (((), true, ()), ((y83.2.1.1.1, y83.2.1.1.2.1, y83.2.1.1.2.2.1, (), ()), (y83.2.1.2.1.1, ()), ()), ())))) y79)) else none))
noncomputable def c18 : Con := ⟨i18, o18, fun x => F18 x.1.1⟩
theorem e18 (x : i18.E) : vfn Try.prog C18 LO18 Try.f18 b18 i18 o18 x = F18 x.1.1 := by kernel_rfl
theorem c18_ok : Con.OK Try.prog 18 c18 := (fn_ok C18_ok Try.func18 body18 (loops_of (l := [l18_2, l18_6, l18_15]) (by kernel_rfl) (show LoopsOK Try.prog Try.f18.ntmps [l18_2, l18_6, l18_15] LO18 from ⟨k18_2_ok, k18_6_ok, k18_15_ok, trivial⟩)) i18 o18).congr fun x => (e18 x).symm
noncomputable def l19_7 : Code := (.seq (.seq (.region 7 (regOf Try.f19 7) false) (.cond (.tmp 37) .skip (.exit 0))) (.block 1 (.seq (.region 8 (regOf Try.f19 8) false) (.seq (.region 9 (regOf Try.f19 9) false) (.seq (.region 10 (regOf Try.f19 10) true) (.cond (.tmp 56) (.region 11 (regOf Try.f19 11) false) .skip))))))
noncomputable def b19 : Code := (.seq (.region 0 (regOf Try.f19 0) false) (.seq (.seq (.region 1 (regOf Try.f19 1) false) (.cond (.tmp 25) (.seq (.region 2 (regOf Try.f19 2) false) .ret) .skip)) (.seq (.region 3 (regOf Try.f19 3) false) (.seq (.seq (.region 4 (regOf Try.f19 4) false) (.cond (.tmp 30) (.seq (.region 5 (regOf Try.f19 5) false) .ret) .skip)) (.seq (.region 6 (regOf Try.f19 6) false) (.seq (.block 0 (.loop l19_7)) (.seq (.region 12 (regOf Try.f19 12) true) .ret)))))))
theorem body19 : Try.f19.body = some b19 := by kernel_rfl
noncomputable def C19_7 : Tab := []
theorem C19_7_ok : TabOK Try.prog C19_7 := trivial
noncomputable def LO19_7 : Tab := []
noncomputable def i19_7 : Tm := { sl := [(0, .p 0 0), (1, .p 1 0), (7, .v (.i .i64)), (8, .v (.i .i64))], bx := [[.v (.i .u64), .v (.i .i64), .v (.i .i64), .m (.i .u64) 2], [.v (.i .u64), .v (.i .i64), .v (.i .i64), .m (.i .u64) 3], [.r (.i .u64)], [.r (.i .u64)]], bf := [] }
noncomputable def o19_7 : OT := (.exit 0 { sl := [(7, .v (.i .i64)), (8, .v (.i .i64))], bx := [[.v (.i .u64), .v (.i .i64), .v (.i .i64), .m (.i .u64) 2], [.v (.i .u64), .v (.i .i64), .v (.i .i64), .m (.i .u64) 3], [.r (.i .u64)], [.r (.i .u64)]], bf := [] })
noncomputable def T19_7 (a7 : Int) (a8 : Int) (b0_0 : Int) (b0_1 : Int) (b0_2 : Int) (b1_0 : Int) (b1_1 : Int) (b1_2 : Int) (b2_0 : (List Int)) (b3_0 : (List Int)) : Option (((Unit × (Unit × (Int × (Int × Unit)))) × ((Int × (Int × (Int × (Unit × Unit)))) × ((Int × (Int × (Int × (Unit × Unit)))) × (((List Int) × Unit) × (((List Int) × Unit) × Unit)))) × Unit) ⊕ ((Int × (Int × Unit)) × ((Int × (Int × (Int × (Unit × Unit)))) × ((Int × (Int × (Int × (Unit × Unit)))) × (((List Int) × Unit) × (((List Int) × Unit) × Unit)))) × Unit)) :=
  (bif (decide ((a8 : Int) < b0_2)) then (bif (decide (0 ≤ ((IntKind.wrap .i64 (a8 * 2)) : Int) ∧ ((IntKind.wrap .i64 (a8 * 2)) : Int) < (((b2_0).length : Nat) : Int))) then (bif (decide (((IntKind.wrap .i64 (a8 * 2)) : Int).toNat < (b2_0).length)) then (bif (decide (0 ≤ ((IntKind.wrap .i64 (a8 * 2)) : Int) ∧ ((IntKind.wrap .i64 (a8 * 2)) : Int) < (((b3_0).length : Nat) : Int))) then (bif (decide (((IntKind.wrap .i64 (a8 * 2)) : Int).toNat < (b3_0).length)) then (bif ((((b2_0).getD ((IntKind.wrap .i64 (a8 * 2)) : Int).toNat (0 : Int)) : Int) == ((b3_0).getD ((IntKind.wrap .i64 (a8 * 2)) : Int).toNat (0 : Int))) then (some (.inl (((), (), (IntKind.wrap .i64 (a7 + 1)), (IntKind.wrap .i64 ((IntKind.wrap .i64 (a8 * 2)) + 1)), ()), ((b0_0, b0_1, b0_2, (), ()), (b1_0, b1_1, b1_2, (), ()), (b2_0, ()), (b3_0, ()), ()), ()))) else (some (.inl (((), (), (IntKind.wrap .i64 (a7 + 1)), (IntKind.wrap .i64 (a8 * 2)), ()), ((b0_0, b0_1, b0_2, (), ()), (b1_0, b1_1, b1_2, (), ()), (b2_0, ()), (b3_0, ()), ()), ())))) else none) else none) else none) else none) else (some (.inr ((a7, a8, ()), ((b0_0, b0_1, b0_2, (), ()), (b1_0, b1_1, b1_2, (), ()), (b2_0, ()), (b3_0, ()), ()), ()))))
noncomputable def L19_7 (a7 : Int) (a8 : Int) (b0_0 : Int) (b0_1 : Int) (b0_2 : Int) (b1_0 : Int) (b1_1 : Int) (b1_2 : Int) (b2_0 : (List Int)) (b3_0 : (List Int)) : Option ((Int × (Int × Unit)) × ((Int × (Int × (Int × (Unit × Unit)))) × ((Int × (Int × (Int × (Unit × Unit)))) × (((List Int) × Unit) × (((List Int) × Unit) × Unit)))) × Unit) := loopF (fun x : ((Unit × (Unit × (Int × (Int × Unit)))) × ((Int × (Int × (Int × (Unit × Unit)))) × ((Int × (Int × (Int × (Unit × Unit)))) × (((List Int) × Unit) × (((List Int) × Unit) × Unit)))) × Unit) => T19_7 x.1.2.2.1 x.1.2.2.2.1 x.2.1.1.1 x.2.1.1.2.1 x.2.1.1.2.2.1 x.2.1.2.1.1 x.2.1.2.1.2.1 x.2.1.2.1.2.2.1 x.2.1.2.2.1.1 x.2.1.2.2.2.1.1) (((), (), a7, a8, ()), ((b0_0, b0_1, b0_2, (), ()), (b1_0, b1_1, b1_2, (), ()), (b2_0, ()), (b3_0, ()), ()), ())
theorem L19_7_eq (a7 : Int) (a8 : Int) (b0_0 : Int) (b0_1 : Int) (b0_2 : Int) (b1_0 : Int) (b1_1 : Int) (b1_2 : Int) (b2_0 : (List Int)) (b3_0 : (List Int)) : L19_7 a7 a8 b0_0 b0_1 b0_2 b1_0 b1_1 b1_2 b2_0 b3_0 = (T19_7 a7 a8 b0_0 b0_1 b0_2 b1_0 b1_1 b1_2 b2_0 b3_0).bind (Sum.elim (fun x => L19_7 x.1.2.2.1 x.1.2.2.2.1 x.2.1.1.1 x.2.1.1.2.1 x.2.1.1.2.2.1 x.2.1.2.1.1 x.2.1.2.1.2.1 x.2.1.2.1.2.2.1 x.2.1.2.2.1.1 x.2.1.2.2.2.1.1) some) := loopF_eq _ _
noncomputable def k19_7 : Con := ⟨i19_7, o19_7, fun x => L19_7 x.1.2.2.1 x.1.2.2.2.1 x.2.1.1.1 x.2.1.1.2.1 x.2.1.1.2.2.1 x.2.1.2.1.1 x.2.1.2.1.2.1 x.2.1.2.1.2.2.1 x.2.1.2.2.1.1 x.2.1.2.2.2.1.1⟩
theorem e19_7 (x : i19_7.E) : vround Try.prog C19_7 LO19_7 Try.f19.ntmps l19_7 i19_7 o19_7 x = T19_7 x.1.2.2.1 x.1.2.2.2.1 x.2.1.1.1 x.2.1.1.2.1 x.2.1.1.2.2.1 x.2.1.2.1.1 x.2.1.2.1.2.1 x.2.1.2.1.2.2.1 x.2.1.2.2.1.1 x.2.1.2.2.2.1.1 := by kernel_rfl
theorem k19_7_ok : Con.LOK Try.prog Try.f19.ntmps l19_7 k19_7 := (loop_ok C19_7_ok (loops_of (l := []) (by kernel_rfl) (show LoopsOK Try.prog Try.f19.ntmps [] LO19_7 from trivial)) i19_7 o19_7).congr fun x => (congrArg (fun T => loopF T x) (funext e19_7)).symm
noncomputable def C19 : Tab := [(27, c27), (31, c31), (32, c32)]
theorem C19_ok : TabOK Try.prog C19 := ⟨c27_ok, c31_ok, c32_ok, trivial⟩
noncomputable def LO19 : Tab := [(7, k19_7)]
noncomputable def i19 : Tm := { sl := [(0, .p 0 0), (1, .p 1 0)], bx := [[.v (.i .u64), .v (.i .i64), .v (.i .i64), .m (.i .u64) 2], [.v (.i .u64), .v (.i .i64), .v (.i .i64), .m (.i .u64) 3], [.r (.i .u64)], [.r (.i .u64)]], bf := [] }
noncomputable def o19 : OT := (.ret { sl := [(0, .v (.i .u64)), (1, .v (.i .i64)), (2, .v .b)], bx := [[.v (.i .u64), .v (.i .i64), .v (.i .i64), .m (.i .u64) 2], [.v (.i .u64), .v (.i .i64), .v (.i .i64), .m (.i .u64) 3], [.r (.i .u64)], [.r (.i .u64)]], bf := [] })
/-- anabranch/sums.Differ -/
noncomputable def F19 (b0_0 : Int) (b0_1 : Int) (b0_2 : Int) (b1_0 : Int) (b1_1 : Int) (b1_2 : Int) (b2_0 : (List Int)) (b3_0 : (List Int)) : Option ((Int × (Int × (Bool × Unit))) × ((Int × (Int × (Int × (Unit × Unit)))) × ((Int × (Int × (Int × (Unit × Unit)))) × (((List Int) × Unit) × (((List Int) × Unit) × Unit)))) × Unit) :=
  ((F32 b0_0 b0_1 b0_2 b2_0).bind fun y84 => ((F32 b1_0 b1_1 b1_2 b3_0).bind fun y85 => (bif ((y84.1.1 : Int) != y85.1.1) then (some ((0, 0, false, ()), ((y84.2.1.1.1, y84.2.1.1.2.1, y84.2.1.1.2.2.1, (), ()), (y85.2.1.1.1, y85.2.1.1.2.1, y85.2.1.1.2.2.1, (), ()), (y84.2.1.2.1.1, ()), (y85.2.1.2.1.1, ()), ()), ())) else ((F27 y84.2.1.1.1 y84.2.1.1.2.1 y84.2.1.1.2.2.1 y84.2.1.2.1.1).bind fun y86 => ((F27 y85.2.1.1.1 y85.2.1.1.2.1 y85.2.1.1.2.2.1 y85.2.1.2.1.1).bind fun y87 => (bif ((y86.1.1 : Int) != y87.1.1) then (some ((0, 0, false, ()), ((y86.2.1.1.1, y86.2.1.1.2.1, y86.2.1.1.2.2.1, (), ()), (y87.2.1.1.1, y87.2.1.1.2.1, y87.2.1.1.2.2.1, (), ()), (y86.2.1.2.1.1, ()), (y87.2.1.2.1.1, ()), ()), ())) else ((F27 y86.2.1.1.1 y86.2.1.1.2.1 y86.2.1.1.2.2.1 y86.2.1.2.1.1).bind fun y88 => (bif ((y88.1.1 : Int) == 0) then (some ((0, 0, false, ()), ((y88.2.1.1.1, y88.2.1.1.2.1, y88.2.1.1.2.2.1, (), ()), (y87.2.1.1.1, y87.2.1.1.2.1, y87.2.1.1.2.2.1, (), ()), (y88.2.1.2.1.1, ()), (y87.2.1.2.1.1, ()), ()), ())) else ((F31 y88.2.1.1.1 y88.2.1.1.2.1 y88.2.1.1.2.2.1 y88.2.1.2.1.1).bind fun y89 => ((F31 y87.2.1.1.1 y87.2.1.1.2.1 y87.2.1.1.2.2.1 y87.2.1.2.1.1).bind fun y90 => (bif ((y89.1.1 : Int) == y90.1.1) then (some ((0, 1, false, ()), ((y89.2.1.1.1, y89.2.1.1.2.1, y89.2.1.1.2.2.1, (), ()), (y90.2.1.1.1, y90.2.1.1.2.1, y90.2.1.1.2.2.1, (), ()), (y89.2.1.2.1.1, ()), (y90.2.1.2.1.1, ()), ()), ())) else ((L19_7 1 1 y89.2.1.1.1 y89.2.1.1.2.1 y89.2.1.1.2.2.1 y90.2.1.1.1 y90.2.1.1.2.1 y90.2.1.1.2.2.1 y89.2.1.2.1.1 y90.2.1.2.1.1).bind fun y91 => (some (((IntKind.wrap .u64 (y91.2.1.1.1 + (IntKind.wrap .u64 (IntKind.wrap .i64 (y91.1.2.1 - y91.2.1.1.2.2.1))))), y91.1.1, true, ()), ((y91.2.1.1.1, y91.2.1.1.2.1, y91.2.1.1.2.2.1, (), ()), (y91.2.1.2.1.1, y91.2.1.2.1.2.1, y91.2.1.2.1.2.2.1, (), ()), (y91.2.1.2.2.1.1, ()), (y91.2.1.2.2.2.1.1, ()), ()), ()))))))))))))))
noncomputable def c19 : Con := ⟨i19, o19, fun x => F19 x.2.1.1.1 x.2.1.1.2.1 x.2.1.1.2.2.1 x.2.1.2.1.1 x.2.1.2.1.2.1 x.2.1.2.1.2.2.1 x.2.1.2.2.1.1 x.2.1.2.2.2.1.1⟩
theorem e19 (x : i19.E) : vfn Try.prog C19 LO19 Try.f19 b19 i19 o19 x = F19 x.2.1.1.1 x.2.1.1.2.1 x.2.1.1.2.2.1 x.2.1.2.1.1 x.2.1.2.1.2.1 x.2.1.2.1.2.2.1 x.2.1.2.2.1.1 x.2.1.2.2.2.1.1 := by kernel_rfl
theorem c19_ok : Con.OK Try.prog 19 c19 := (fn_ok C19_ok Try.func19 body19 (loops_of (l := [l19_7]) (by kernel_rfl) (show LoopsOK Try.prog Try.f19.ntmps [l19_7] LO19 from ⟨k19_7_ok, trivial⟩)) i19 o19).congr fun x => (e19 x).symm
noncomputable def b16 : Code := (.seq (.region 0 (regOf Try.f16 0) false) (.seq (.region 1 (regOf Try.f16 1) false) (.seq (.region 2 (regOf Try.f16 2) false) (.seq (.seq (.region 3 (regOf Try.f16 3) false) (.cond (.tmp 25) (.seq (.region 4 (regOf Try.f16 4) false) .ret) .skip)) (.seq (.region 5 (regOf Try.f16 5) false) (.seq (.region 6 (regOf Try.f16 6) false) .ret))))))
theorem body16 : Try.f16.body = some b16 := by kernel_rfl
noncomputable def C16 : Tab := [(17, c17), (18, c18), (19, c19), (27, c27)]
theorem C16_ok : TabOK Try.prog C16 := ⟨c17_ok, c18_ok, c19_ok, c27_ok, trivial⟩
noncomputable def LO16 : Tab := []
noncomputable def i16 : Tm := { sl := [], bx := [], bf := [] }
noncomputable def o16 : OT := (.ret { sl := [(0, .v .b)], bx := [], bf := [] })
/-- anabranch/anabranchlaw26.awake -/
noncomputable def F16 : Option ((Bool × Unit) × Unit × Unit) :=
  ((F17 [1, 2, 3, 4, 5, 6, 7, 8] 1).bind fun y92 => ((F18 y92.1.1).bind fun y93 => ((F17 [1, 2, 3, 4, 5, 0, 7, 8] 1).bind fun y94 => ((F18 y94.1.1).bind fun y95 => (bif (!y93.1.2.1) then (some ((false, ()), (), ())) else (bif (!y95.1.2.1) then (some ((false, ()), (), ())) else ((F19 y93.2.1.1.1 y93.2.1.1.2.1 y93.2.1.1.2.2.1 y95.2.1.1.1 y95.2.1.1.2.1 y95.2.1.1.2.2.1 y93.2.1.2.1.1 y95.2.1.2.1.1).bind fun y96 => (bif ((y96.1.1 : Int) == 6) then (bif ((y96.1.2.1 : Int) == 4) then (bif y96.1.2.2.1 then ((F27 y96.2.1.1.1 y96.2.1.1.2.1 y96.2.1.1.2.2.1 y96.2.1.2.2.1.1).bind fun y97 => (some ((((y97.1.1 : Int) == 8), ()), (), ()))) else (some ((false, ()), (), ()))) else (some ((false, ()), (), ()))) else (some ((false, ()), (), ()))))))))))
noncomputable def c16 : Con := ⟨i16, o16, fun x => F16⟩
theorem e16 (x : i16.E) : vfn Try.prog C16 LO16 Try.f16 b16 i16 o16 x = F16 := by kernel_rfl
theorem c16_ok : Con.OK Try.prog 16 c16 := (fn_ok C16_ok Try.func16 body16 (loops_of (l := []) (by kernel_rfl) (show LoopsOK Try.prog Try.f16.ntmps [] LO16 from trivial)) i16 o16).congr fun x => (e16 x).symm
noncomputable def l6_9 : Code := (.seq (.seq (.region 9 (regOf Try.f6 9) false) (.cond (.tmp 55) .skip (.exit 0))) (.block 1 (.region 10 (regOf Try.f6 10) false)))
noncomputable def l6_12 : Code := (.seq (.seq (.region 12 (regOf Try.f6 12) false) (.cond (.tmp 61) .skip (.exit 2))) (.seq (.block 3 (.seq (.region 14 (regOf Try.f6 14) false) (.seq (.region 15 (regOf Try.f6 15) false) (.seq (.seq (.region 16 (regOf Try.f6 16) false) (.cond (.tmp 72) (.seq (.region 17 (regOf Try.f6 17) false) (.cond (.tmp 78) (.region 18 (regOf Try.f6 18) false) .skip)) (.seq (.region 19 (regOf Try.f6 19) false) (.seq (.region 20 (regOf Try.f6 20) false) (.region 21 (regOf Try.f6 21) false))))) (.seq (.region 22 (regOf Try.f6 22) false) (.cond (.tmp 110) (.seq (.region 23 (regOf Try.f6 23) false) .ret) .skip)))))) (.region 13 (regOf Try.f6 13) false)))
noncomputable def b6 : Code := (.seq (.region 0 (regOf Try.f6 0) false) (.seq (.seq (.region 1 (regOf Try.f6 1) false) (.cond (.tmp 30) (.seq (.region 2 (regOf Try.f6 2) false) .ret) .skip)) (.seq (.region 3 (regOf Try.f6 3) false) (.seq (.region 4 (regOf Try.f6 4) false) (.seq (.region 5 (regOf Try.f6 5) false) (.seq (.seq (.region 6 (regOf Try.f6 6) false) (.cond (.tmp 51) (.seq (.region 7 (regOf Try.f6 7) false) .ret) .skip)) (.seq (.region 8 (regOf Try.f6 8) false) (.seq (.block 0 (.loop l6_9)) (.seq (.seq (.region 11 (regOf Try.f6 11) false) (.block 2 (.loop l6_12))) (.seq (.region 24 (regOf Try.f6 24) false) (.seq (.region 25 (regOf Try.f6 25) false) (.seq (.region 26 (regOf Try.f6 26) false) (.seq (.region 27 (regOf Try.f6 27) false) (.seq (.seq (.region 28 (regOf Try.f6 28) false) (.cond (.tmp 131) (.region 29 (regOf Try.f6 29) false) .skip)) (.seq (.region 30 (regOf Try.f6 30) false) .ret)))))))))))))))
theorem body6 : Try.f6.body = some b6 := by kernel_rfl
noncomputable def C6_9 : Tab := []
theorem C6_9_ok : TabOK Try.prog C6_9 := trivial
noncomputable def LO6_9 : Tab := []
noncomputable def i6_9 : Tm := { sl := [(0, .v (.l (.i .u8))), (1, .v (.i .u64)), (5, .v (.l (.p (.i .i64) (.p (.i .u64) (.p (.i .u64) (.p (.i .u8) (.p .s (.p (.l (.i .u8)) (.p (.f .f64) (.p (.i .i64) .u)))))))))), (6, .p 0 0), (8, .v (.i .i64))], bx := [[.v (.i .u64), .v (.i .i64), .v (.i .i64), .m (.i .u64) 1], [.r (.i .u64)]], bf := [] }
noncomputable def o6_9 : OT := (.exit 0 { sl := [(8, .v (.i .i64))], bx := [[.v (.i .u64), .v (.i .i64), .v (.i .i64), .m (.i .u64) 1], [.r (.i .u64)]], bf := [] })
noncomputable def T6_9 (a0 : (List Int)) (a1 : Int) (a5 : (List (Int × (Int × (Int × (Int × (ByteArray × ((List Int) × (Nat × (Int × Unit)))))))))) (a8 : Int) (b0_0 : Int) (b0_1 : Int) (b0_2 : Int) (b1_0 : (List Int)) : Option ((((List Int) × (Int × ((List (Int × (Int × (Int × (Int × (ByteArray × ((List Int) × (Nat × (Int × Unit))))))))) × (Unit × (Int × Unit))))) × ((Int × (Int × (Int × (Unit × Unit)))) × (((List Int) × Unit) × Unit)) × Unit) ⊕ ((Int × Unit) × ((Int × (Int × (Int × (Unit × Unit)))) × (((List Int) × Unit) × Unit)) × Unit)) :=
  (bif (decide ((a8 : Int) < (((a0).length : Nat) : Int))) then (some (.inl ((a0, a1, a5, (), (IntKind.wrap .i64 (a8 * 2)), ()), ((b0_0, b0_1, b0_2, (), ()), (b1_0, ()), ()), ()))) else (some (.inr ((a8, ()), ((b0_0, b0_1, b0_2, (), ()), (b1_0, ()), ()), ()))))
noncomputable def L6_9 (a0 : (List Int)) (a1 : Int) (a5 : (List (Int × (Int × (Int × (Int × (ByteArray × ((List Int) × (Nat × (Int × Unit)))))))))) (a8 : Int) (b0_0 : Int) (b0_1 : Int) (b0_2 : Int) (b1_0 : (List Int)) : Option ((Int × Unit) × ((Int × (Int × (Int × (Unit × Unit)))) × (((List Int) × Unit) × Unit)) × Unit) := loopF (fun x : (((List Int) × (Int × ((List (Int × (Int × (Int × (Int × (ByteArray × ((List Int) × (Nat × (Int × Unit))))))))) × (Unit × (Int × Unit))))) × ((Int × (Int × (Int × (Unit × Unit)))) × (((List Int) × Unit) × Unit)) × Unit) => T6_9 x.1.1 x.1.2.1 x.1.2.2.1 x.1.2.2.2.2.1 x.2.1.1.1 x.2.1.1.2.1 x.2.1.1.2.2.1 x.2.1.2.1.1) ((a0, a1, a5, (), a8, ()), ((b0_0, b0_1, b0_2, (), ()), (b1_0, ()), ()), ())
theorem L6_9_eq (a0 : (List Int)) (a1 : Int) (a5 : (List (Int × (Int × (Int × (Int × (ByteArray × ((List Int) × (Nat × (Int × Unit)))))))))) (a8 : Int) (b0_0 : Int) (b0_1 : Int) (b0_2 : Int) (b1_0 : (List Int)) : L6_9 a0 a1 a5 a8 b0_0 b0_1 b0_2 b1_0 = (T6_9 a0 a1 a5 a8 b0_0 b0_1 b0_2 b1_0).bind (Sum.elim (fun x => L6_9 x.1.1 x.1.2.1 x.1.2.2.1 x.1.2.2.2.2.1 x.2.1.1.1 x.2.1.1.2.1 x.2.1.1.2.2.1 x.2.1.2.1.1) some) := loopF_eq _ _
noncomputable def k6_9 : Con := ⟨i6_9, o6_9, fun x => L6_9 x.1.1 x.1.2.1 x.1.2.2.1 x.1.2.2.2.2.1 x.2.1.1.1 x.2.1.1.2.1 x.2.1.1.2.2.1 x.2.1.2.1.1⟩
theorem e6_9 (x : i6_9.E) : vround Try.prog C6_9 LO6_9 Try.f6.ntmps l6_9 i6_9 o6_9 x = T6_9 x.1.1 x.1.2.1 x.1.2.2.1 x.1.2.2.2.2.1 x.2.1.1.1 x.2.1.1.2.1 x.2.1.1.2.2.1 x.2.1.2.1.1 := by kernel_rfl
theorem k6_9_ok : Con.LOK Try.prog Try.f6.ntmps l6_9 k6_9 := (loop_ok C6_9_ok (loops_of (l := []) (by kernel_rfl) (show LoopsOK Try.prog Try.f6.ntmps [] LO6_9 from trivial)) i6_9 o6_9).congr fun x => (congrArg (fun T => loopF T x) (funext e6_9)).symm
noncomputable def C6_12 : Tab := [(28, c28), (29, c29), (30, c30)]
theorem C6_12_ok : TabOK Try.prog C6_12 := ⟨c28_ok, c29_ok, c30_ok, trivial⟩
noncomputable def LO6_12 : Tab := []
noncomputable def i6_12 : Tm := { sl := [(0, .v (.l (.i .u8))), (1, .v (.i .u64)), (5, .v (.l (.p (.i .i64) (.p (.i .u64) (.p (.i .u64) (.p (.i .u8) (.p .s (.p (.l (.i .u8)) (.p (.f .f64) (.p (.i .i64) .u)))))))))), (6, .p 0 0), (8, .v (.i .i64)), (9, .v (.i .i64))], bx := [[.v (.i .u64), .v (.i .i64), .v (.i .i64), .m (.i .u64) 1], [.r (.i .u64)]], bf := [] }
noncomputable def o6_12 : OT := (.two (.ret { sl := [(4, .v .b)], bx := [[.v (.i .u64), .v (.i .i64), .v (.i .i64), .m (.i .u64) 1], [.r (.i .u64)]], bf := [] }) (.exit 2 { sl := [], bx := [[.v (.i .u64), .v (.i .i64), .v (.i .i64), .m (.i .u64) 1], [.r (.i .u64)]], bf := [] }))
noncomputable def T6_12 (a0 : (List Int)) (a1 : Int) (a5 : (List (Int × (Int × (Int × (Int × (ByteArray × ((List Int) × (Nat × (Int × Unit)))))))))) (a8 : Int) (a9 : Int) (b0_0 : Int) (b0_1 : Int) (b0_2 : Int) (b1_0 : (List Int)) : Option ((((List Int) × (Int × ((List (Int × (Int × (Int × (Int × (ByteArray × ((List Int) × (Nat × (Int × Unit))))))))) × (Unit × (Int × (Int × Unit)))))) × ((Int × (Int × (Int × (Unit × Unit)))) × (((List Int) × Unit) × Unit)) × Unit) ⊕ (((Bool × Unit) × ((Int × (Int × (Int × (Unit × Unit)))) × (((List Int) × Unit) × Unit)) × Unit) ⊕ (Unit × ((Int × (Int × (Int × (Unit × Unit)))) × (((List Int) × Unit) × Unit)) × Unit))) :=
  (bif (decide ((a9 : Int) < (IntKind.wrap .i64 (2 * a8)))) then ((F28 a9 b0_0 b0_1 b0_2 b1_0).bind fun y110 => (bif (decide ((a9 : Int) ≥ a8)) then (bif (decide (((IntKind.wrap .i64 (a9 - a8)) : Int) < (((a5).length : Nat) : Int))) then (bif (decide (0 ≤ ((IntKind.wrap .i64 (a9 - a8)) : Int) ∧ ((IntKind.wrap .i64 (a9 - a8)) : Int) < (((a5).length : Nat) : Int))) then ((F29 (((a5).getD ((IntKind.wrap .i64 (a9 - a8)) : Int).toNat ((0 : Int), ((0 : Int), ((0 : Int), ((0 : Int), (ByteArray.empty, ([], ((0 : Nat), ((0 : Int), ()))))))))).1, (((a5).getD ((IntKind.wrap .i64 (a9 - a8)) : Int).toNat ((0 : Int), ((0 : Int), ((0 : Int), ((0 : Int), (ByteArray.empty, ([], ((0 : Nat), ((0 : Int), ()))))))))).2.1, (((a5).getD ((IntKind.wrap .i64 (a9 - a8)) : Int).toNat ((0 : Int), ((0 : Int), ((0 : Int), ((0 : Int), (ByteArray.empty, ([], ((0 : Nat), ((0 : Int), ()))))))))).2.2.1, (((a5).getD ((IntKind.wrap .i64 (a9 - a8)) : Int).toNat ((0 : Int), ((0 : Int), ((0 : Int), ((0 : Int), (ByteArray.empty, ([], ((0 : Nat), ((0 : Int), ()))))))))).2.2.2.1, (((a5).getD ((IntKind.wrap .i64 (a9 - a8)) : Int).toNat ((0 : Int), ((0 : Int), ((0 : Int), ((0 : Int), (ByteArray.empty, ([], ((0 : Nat), ((0 : Int), ()))))))))).2.2.2.2.1, (((a5).getD ((IntKind.wrap .i64 (a9 - a8)) : Int).toNat ((0 : Int), ((0 : Int), ((0 : Int), ((0 : Int), (ByteArray.empty, ([], ((0 : Nat), ((0 : Int), ()))))))))).2.2.2.2.2.1, (((a5).getD ((IntKind.wrap .i64 (a9 - a8)) : Int).toNat ((0 : Int), ((0 : Int), ((0 : Int), ((0 : Int), (ByteArray.empty, ([], ((0 : Nat), ((0 : Int), ()))))))))).2.2.2.2.2.2.1, (((a5).getD ((IntKind.wrap .i64 (a9 - a8)) : Int).toNat ((0 : Int), ((0 : Int), ((0 : Int), ((0 : Int), (ByteArray.empty, ([], ((0 : Nat), ((0 : Int), ()))))))))).2.2.2.2.2.2.2.1, ()))))))))).bind fun y111 => (bif (!y110.1.2.1) then (some (.inr (.inl ((false, ()), ((y110.2.1.1.1, y110.2.1.1.2.1, y110.2.1.1.2.2.1, (), ()), (y110.2.1.2.1.1, ()), ()), ())))) else (bif ((y110.1.1 : Int) != y111.1.1) then (some (.inr (.inl ((false, ()), ((y110.2.1.1.1, y110.2.1.1.2.1, y110.2.1.1.2.2.1, (), ()), (y110.2.1.2.1.1, ()), ()), ())))) else (some (.inl ((a0, a1, a5, (), a8, (IntKind.wrap .i64 (a9 + 1)), ()), ((y110.2.1.1.1, y110.2.1.1.2.1, y110.2.1.1.2.2.1, (), ()), (y110.2.1.2.1.1, ()), ()), ())))))) else none) else (bif (!y110.1.2.1) then (some (.inr (.inl ((false, ()), ((y110.2.1.1.1, y110.2.1.1.2.1, y110.2.1.1.2.2.1, (), ()), (y110.2.1.2.1.1, ()), ()), ())))) else (bif ((y110.1.1 : Int) != 0) then (some (.inr (.inl ((false, ()), ((y110.2.1.1.1, y110.2.1.1.2.1, y110.2.1.1.2.2.1, (), ()), (y110.2.1.2.1.1, ()), ()), ())))) else (some (.inl ((a0, a1, a5, (), a8, (IntKind.wrap .i64 (a9 + 1)), ()), ((y110.2.1.1.1, y110.2.1.1.2.1, y110.2.1.1.2.2.1, (), ()), (y110.2.1.2.1.1, ()), ()), ())))))) else ((F28 (IntKind.wrap .i64 (2 * a9)) y110.2.1.1.1 y110.2.1.1.2.1 y110.2.1.1.2.2.1 y110.2.1.2.1.1).bind fun y112 => ((F28 (IntKind.wrap .i64 ((IntKind.wrap .i64 (2 * a9)) + 1)) y112.2.1.1.1 y112.2.1.1.2.1 y112.2.1.1.2.2.1 y112.2.1.2.1.1).bind fun y113 => ((F30 y112.1.1 y113.1.1).bind fun y114 => (bif (!y110.1.2.1) then (some (.inr (.inl ((false, ()), ((y113.2.1.1.1, y113.2.1.1.2.1, y113.2.1.1.2.2.1, (), ()), (y113.2.1.2.1.1, ()), ()), ())))) else (bif ((y110.1.1 : Int) != y114.1.1) then (some (.inr (.inl ((false, ()), ((y113.2.1.1.1, y113.2.1.1.2.1, y113.2.1.1.2.2.1, (), ()), (y113.2.1.2.1.1, ()), ()), ())))) else (some (.inl ((a0, a1, a5, (), a8, (IntKind.wrap .i64 (a9 + 1)), ()), ((y113.2.1.1.1, y113.2.1.1.2.1, y113.2.1.1.2.2.1, (), ()), (y113.2.1.2.1.1, ()), ()), ())))))))))) else (some (.inr (.inr ((), ((b0_0, b0_1, b0_2, (), ()), (b1_0, ()), ()), ())))))
noncomputable def L6_12 (a0 : (List Int)) (a1 : Int) (a5 : (List (Int × (Int × (Int × (Int × (ByteArray × ((List Int) × (Nat × (Int × Unit)))))))))) (a8 : Int) (a9 : Int) (b0_0 : Int) (b0_1 : Int) (b0_2 : Int) (b1_0 : (List Int)) : Option (((Bool × Unit) × ((Int × (Int × (Int × (Unit × Unit)))) × (((List Int) × Unit) × Unit)) × Unit) ⊕ (Unit × ((Int × (Int × (Int × (Unit × Unit)))) × (((List Int) × Unit) × Unit)) × Unit)) := loopF (fun x : (((List Int) × (Int × ((List (Int × (Int × (Int × (Int × (ByteArray × ((List Int) × (Nat × (Int × Unit))))))))) × (Unit × (Int × (Int × Unit)))))) × ((Int × (Int × (Int × (Unit × Unit)))) × (((List Int) × Unit) × Unit)) × Unit) => T6_12 x.1.1 x.1.2.1 x.1.2.2.1 x.1.2.2.2.2.1 x.1.2.2.2.2.2.1 x.2.1.1.1 x.2.1.1.2.1 x.2.1.1.2.2.1 x.2.1.2.1.1) ((a0, a1, a5, (), a8, a9, ()), ((b0_0, b0_1, b0_2, (), ()), (b1_0, ()), ()), ())
theorem L6_12_eq (a0 : (List Int)) (a1 : Int) (a5 : (List (Int × (Int × (Int × (Int × (ByteArray × ((List Int) × (Nat × (Int × Unit)))))))))) (a8 : Int) (a9 : Int) (b0_0 : Int) (b0_1 : Int) (b0_2 : Int) (b1_0 : (List Int)) : L6_12 a0 a1 a5 a8 a9 b0_0 b0_1 b0_2 b1_0 = (T6_12 a0 a1 a5 a8 a9 b0_0 b0_1 b0_2 b1_0).bind (Sum.elim (fun x => L6_12 x.1.1 x.1.2.1 x.1.2.2.1 x.1.2.2.2.2.1 x.1.2.2.2.2.2.1 x.2.1.1.1 x.2.1.1.2.1 x.2.1.1.2.2.1 x.2.1.2.1.1) some) := loopF_eq _ _
noncomputable def k6_12 : Con := ⟨i6_12, o6_12, fun x => L6_12 x.1.1 x.1.2.1 x.1.2.2.1 x.1.2.2.2.2.1 x.1.2.2.2.2.2.1 x.2.1.1.1 x.2.1.1.2.1 x.2.1.1.2.2.1 x.2.1.2.1.1⟩
theorem e6_12 (x : i6_12.E) : vround Try.prog C6_12 LO6_12 Try.f6.ntmps l6_12 i6_12 o6_12 x = T6_12 x.1.1 x.1.2.1 x.1.2.2.1 x.1.2.2.2.2.1 x.1.2.2.2.2.2.1 x.2.1.1.1 x.2.1.1.2.1 x.2.1.1.2.2.1 x.2.1.2.1.1 := by kernel_rfl
theorem k6_12_ok : Con.LOK Try.prog Try.f6.ntmps l6_12 k6_12 := (loop_ok C6_12_ok (loops_of (l := []) (by kernel_rfl) (show LoopsOK Try.prog Try.f6.ntmps [] LO6_12 from trivial)) i6_12 o6_12).congr fun x => (congrArg (fun T => loopF T x) (funext e6_12)).symm
noncomputable def C6 : Tab := [(16, c16), (17, c17), (18, c18), (27, c27), (28, c28), (29, c29), (30, c30), (31, c31), (32, c32)]
theorem C6_ok : TabOK Try.prog C6 := ⟨c16_ok, c17_ok, c18_ok, c27_ok, c28_ok, c29_ok, c30_ok, c31_ok, c32_ok, trivial⟩
noncomputable def LO6 : Tab := [(9, k6_9), (12, k6_12)]
noncomputable def i6 : Tm := { sl := [(0, .v (.l (.i .u8))), (1, .v (.i .u64))], bx := [], bf := [] }
noncomputable def o6 : OT := (.ret { sl := [(0, .v .b)], bx := [], bf := [] })
/-- anabranch/anabranchlaw26.SumsTrees -/
noncomputable def F6 (a0 : (List Int)) (a1 : Int) : Option ((Bool × Unit) × Unit × Unit) :=
  ((F16).bind fun y98 => (bif (!y98.1.1) then ((F16).bind fun y99 => (some ((y99.1.1, ()), (), ()))) else (bif (decide (((((a0).length : Nat) : Int) : Int) > 60)) then ((F16).bind fun y100 => (some ((y100.1.1, ()), (), ()))) else ((F17 a0 (IntKind.wrap .u64 (1 + ((a1 : Int).tmod 1152921504606846976)))).bind fun y101 => ((F18 y101.1.1).bind fun y102 => (bif (!y102.1.2.1) then (some ((false, ()), (), ())) else ((F27 y102.2.1.1.1 y102.2.1.1.2.1 y102.2.1.1.2.2.1 y102.2.1.2.1.1).bind fun y103 => (bif ((y103.1.1 : Int) != (((a0).length : Nat) : Int)) then (some ((false, ()), (), ())) else ((L6_9 a0 (IntKind.wrap .u64 (1 + ((a1 : Int).tmod 1152921504606846976))) y101.1.1 1 y103.2.1.1.1 y103.2.1.1.2.1 y103.2.1.1.2.2.1 y103.2.1.2.1.1).bind fun y104 => ((L6_12 a0 (IntKind.wrap .u64 (1 + ((a1 : Int).tmod 1152921504606846976))) y101.1.1 y104.1.1 1 y104.2.1.1.1 y104.2.1.1.2.1 y104.2.1.1.2.2.1 y104.2.1.2.1.1).bind fun y115 => (Sum.elim (fun y116 => (some ((y116.1.1, ()), (), ()))) (fun y116 => ((F28 1 y116.2.1.1.1 y116.2.1.1.2.1 y116.2.1.1.2.2.1 y116.2.1.2.1.1).bind fun y117 => ((F28 0 y117.2.1.1.1 y117.2.1.1.2.1 y117.2.1.1.2.2.1 y117.2.1.2.1.1).bind fun y118 => ((F28 (IntKind.wrap .i64 (2 * y104.1.1)) y118.2.1.1.1 y118.2.1.1.2.1 y118.2.1.1.2.2.1 y118.2.1.2.1.1).bind fun y119 => (bif (((((a0).length : Nat) : Int) : Int) == 0) then ((F31 y119.2.1.1.1 y119.2.1.1.2.1 y119.2.1.1.2.2.1 y119.2.1.2.1.1).bind fun y120 => (bif ((y120.1.1 : Int) == y117.1.1) then (bif (!y118.1.2.1) then (bif (!y119.1.2.1) then ((F32 y120.2.1.1.1 y120.2.1.1.2.1 y120.2.1.1.2.2.1 y120.2.1.2.1.1).bind fun y121 => (some ((((y121.1.1 : Int) == 1), ()), (), ()))) else (some ((false, ()), (), ()))) else (some ((false, ()), (), ()))) else (some ((false, ()), (), ())))) else ((F31 y119.2.1.1.1 y119.2.1.1.2.1 y119.2.1.1.2.2.1 y119.2.1.2.1.1).bind fun y122 => (bif ((y122.1.1 : Int) == y117.1.1) then (bif (!y118.1.2.1) then (bif (!y119.1.2.1) then ((F32 y122.2.1.1.1 y122.2.1.1.2.1 y122.2.1.1.2.2.1 y122.2.1.2.1.1).bind fun y123 => (some ((((y123.1.1 : Int) == (IntKind.wrap .u64 (1 + ((a1 : Int).tmod 1152921504606846976)))), ()), (), ()))) else (some ((false, ()), (), ()))) else (some ((false, ()), (), ()))) else (some ((false, ()), (), ()))))))))) y115)))))))))))
noncomputable def c6 : Con := ⟨i6, o6, fun x => F6 x.1.1 x.1.2.1⟩
theorem e6 (x : i6.E) : vfn Try.prog C6 LO6 Try.f6 b6 i6 o6 x = F6 x.1.1 x.1.2.1 := by kernel_rfl
theorem c6_ok : Con.OK Try.prog 6 c6 := (fn_ok C6_ok Try.func6 body6 (loops_of (l := [l6_9, l6_12]) (by kernel_rfl) (show LoopsOK Try.prog Try.f6.ntmps [l6_9, l6_12] LO6 from ⟨k6_9_ok, k6_12_ok, trivial⟩)) i6 o6).congr fun x => (e6 x).symm
noncomputable def l7_5 : Code := (.seq (.seq (.region 5 (regOf Try.f7 5) false) (.cond (.tmp 65) .skip (.exit 0))) (.seq (.block 1 (.region 7 (regOf Try.f7 7) true)) (.region 6 (regOf Try.f7 6) false)))
noncomputable def l7_17 : Code := (.seq (.seq (.region 17 (regOf Try.f7 17) false) (.cond (.tmp 121) .skip (.exit 2))) (.block 3 (.seq (.region 18 (regOf Try.f7 18) false) (.region 19 (regOf Try.f7 19) false))))
noncomputable def l7_21 : Code := (.seq (.seq (.region 21 (regOf Try.f7 21) false) (.cond (.tmp 128) .skip (.exit 4))) (.block 5 (.seq (.region 22 (regOf Try.f7 22) false) (.seq (.region 23 (regOf Try.f7 23) false) (.seq (.region 24 (regOf Try.f7 24) false) (.seq (.region 25 (regOf Try.f7 25) false) (.cond (.tmp 147) (.region 26 (regOf Try.f7 26) false) .skip)))))))
noncomputable def b7 : Code := (.seq (.region 0 (regOf Try.f7 0) false) (.seq (.seq (.region 1 (regOf Try.f7 1) false) (.cond (.tmp 41) (.seq (.region 2 (regOf Try.f7 2) false) .ret) .skip)) (.seq (.region 3 (regOf Try.f7 3) false) (.seq (.seq (.region 4 (regOf Try.f7 4) false) (.block 0 (.loop l7_5))) (.seq (.region 8 (regOf Try.f7 8) false) (.seq (.region 9 (regOf Try.f7 9) false) (.seq (.region 10 (regOf Try.f7 10) false) (.seq (.region 11 (regOf Try.f7 11) false) (.seq (.region 12 (regOf Try.f7 12) false) (.seq (.seq (.region 13 (regOf Try.f7 13) false) (.cond (.tmp 111) (.seq (.region 14 (regOf Try.f7 14) false) .ret) .skip)) (.seq (.region 15 (regOf Try.f7 15) false) (.seq (.region 16 (regOf Try.f7 16) false) (.seq (.block 2 (.loop l7_17)) (.seq (.region 20 (regOf Try.f7 20) false) (.seq (.block 4 (.loop l7_21)) (.seq (.region 27 (regOf Try.f7 27) false) .ret))))))))))))))))
theorem body7 : Try.f7.body = some b7 := by kernel_rfl
noncomputable def C7_5 : Tab := [(900044, cHot)]
theorem C7_5_ok : TabOK Try.prog C7_5 := ⟨cHot_ok, trivial⟩
noncomputable def LO7_5 : Tab := []
noncomputable def i7_5 : Tm := { sl := [(0, .v (.l (.i .u8))), (1, .v (.i .u8)), (2, .v (.l (.i .u8))), (7, .m (.i .u8) 0), (8, .v (.i .i64))], bx := [[.r (.i .u8)]], bf := [] }
noncomputable def o7_5 : OT := (.exit 0 { sl := [], bx := [[.r (.i .u8)]], bf := [] })
noncomputable def T7_5 (a0 : (List Int)) (a1 : Int) (a2 : (List Int)) (a8 : Int) (b0_0 : (List Int)) : Option ((((List Int) × (Int × ((List Int) × (Unit × (Int × Unit))))) × (((List Int) × Unit) × Unit) × Unit) ⊕ (Unit × (((List Int) × Unit) × Unit) × Unit)) :=
  (bif (decide ((a8 : Int) < (((a0).length : Nat) : Int))) then (bif (decide (((((a0).length : Nat) : Int) : Int) ≠ 0)) then (bif (decide (((IntKind.wrap .i64 (a8 - (((IntKind.wrap .i64 a1) : Int).tmod (((a0).length : Nat) : Int)))) : Int) < (((a2).length : Nat) : Int))) then (bif (decide (0 ≤ (a8 : Int) ∧ (a8 : Int) < (((b0_0).length : Nat) : Int))) then (bif (decide ((a8 : Int).toNat < (b0_0).length)) then (bif (decide (((((a0).length : Nat) : Int) : Int) ≠ 0)) then (bif (decide (0 ≤ ((IntKind.wrap .i64 (a8 - (((IntKind.wrap .i64 a1) : Int).tmod (((a0).length : Nat) : Int)))) : Int) ∧ ((IntKind.wrap .i64 (a8 - (((IntKind.wrap .i64 a1) : Int).tmod (((a0).length : Nat) : Int)))) : Int) < (((a2).length : Nat) : Int))) then (bif (decide (0 ≤ (a8 : Int) ∧ (a8 : Int) < (((b0_0).length : Nat) : Int))) then (bif (decide ((a8 : Int).toNat < (b0_0).length)) then (some (.inl ((a0, a1, a2, (), (IntKind.wrap .i64 (a8 + 1)), ()), ((((b0_0).set (a8 : Int).toNat (iXor .u8 ((b0_0).getD (a8 : Int).toNat (0 : Int)) ((a2).getD ((IntKind.wrap .i64 (a8 - (((IntKind.wrap .i64 a1) : Int).tmod (((a0).length : Nat) : Int)))) : Int).toNat (0 : Int)))), ()), ()), ()))) else none) else none) else none) else none) else none) else none) else (some (.inr ((), ((b0_0, ()), ()), ())))) else none) else (some (.inr ((), ((b0_0, ()), ()), ()))))
noncomputable def L7_5 (a0 : (List Int)) (a1 : Int) (a2 : (List Int)) (a8 : Int) (b0_0 : (List Int)) : Option (Unit × (((List Int) × Unit) × Unit) × Unit) := loopF (fun x : (((List Int) × (Int × ((List Int) × (Unit × (Int × Unit))))) × (((List Int) × Unit) × Unit) × Unit) => T7_5 x.1.1 x.1.2.1 x.1.2.2.1 x.1.2.2.2.2.1 x.2.1.1.1) ((a0, a1, a2, (), a8, ()), ((b0_0, ()), ()), ())
theorem L7_5_eq (a0 : (List Int)) (a1 : Int) (a2 : (List Int)) (a8 : Int) (b0_0 : (List Int)) : L7_5 a0 a1 a2 a8 b0_0 = (T7_5 a0 a1 a2 a8 b0_0).bind (Sum.elim (fun x => L7_5 x.1.1 x.1.2.1 x.1.2.2.1 x.1.2.2.2.2.1 x.2.1.1.1) some) := loopF_eq _ _
noncomputable def k7_5 : Con := ⟨i7_5, o7_5, fun x => L7_5 x.1.1 x.1.2.1 x.1.2.2.1 x.1.2.2.2.2.1 x.2.1.1.1⟩
theorem e7_5 (x : i7_5.E) : vround Try.prog C7_5 LO7_5 Try.f7.ntmps l7_5 i7_5 o7_5 x = T7_5 x.1.1 x.1.2.1 x.1.2.2.1 x.1.2.2.2.2.1 x.2.1.1.1 := by kernel_rfl
theorem k7_5_ok : Con.LOK Try.prog Try.f7.ntmps l7_5 k7_5 := (loop_ok C7_5_ok (loops_of (l := []) (by kernel_rfl) (show LoopsOK Try.prog Try.f7.ntmps [] LO7_5 from trivial)) i7_5 o7_5).congr fun x => (congrArg (fun T => loopF T x) (funext e7_5)).symm
noncomputable def C7_17 : Tab := [(900044, cHot)]
theorem C7_17_ok : TabOK Try.prog C7_17 := ⟨cHot_ok, trivial⟩
noncomputable def LO7_17 : Tab := []
noncomputable def i7_17 : Tm := { sl := [(0, .v (.l (.i .u8))), (11, .p 0 0), (13, .p 1 0), (15, .v (.i .u64)), (16, .v (.i .i64)), (17, .v .b), (18, .v (.i .i64)), (19, .v (.i .i64))], bx := [[.v (.i .u64), .v (.i .i64), .v (.i .i64), .m (.i .u64) 2], [.v (.i .u64), .v (.i .i64), .v (.i .i64), .m (.i .u64) 3], [.r (.i .u64)], [.r (.i .u64)]], bf := [] }
noncomputable def o7_17 : OT := (.exit 2 { sl := [(18, .v (.i .i64)), (19, .v (.i .i64))], bx := [[.v (.i .u64), .v (.i .i64), .v (.i .i64), .m (.i .u64) 2], [.v (.i .u64), .v (.i .i64), .v (.i .i64), .m (.i .u64) 3], [.r (.i .u64)], [.r (.i .u64)]], bf := [] })
noncomputable def T7_17 (a0 : (List Int)) (a15 : Int) (a16 : Int) (a17 : Bool) (a18 : Int) (a19 : Int) (b0_0 : Int) (b0_1 : Int) (b0_2 : Int) (b1_0 : Int) (b1_1 : Int) (b1_2 : Int) (b2_0 : (List Int)) (b3_0 : (List Int)) : Option ((((List Int) × (Unit × (Unit × (Int × (Int × (Bool × (Int × (Int × Unit)))))))) × ((Int × (Int × (Int × (Unit × Unit)))) × ((Int × (Int × (Int × (Unit × Unit)))) × (((List Int) × Unit) × (((List Int) × Unit) × Unit)))) × Unit) ⊕ ((Int × (Int × Unit)) × ((Int × (Int × (Int × (Unit × Unit)))) × ((Int × (Int × (Int × (Unit × Unit)))) × (((List Int) × Unit) × (((List Int) × Unit) × Unit)))) × Unit)) :=
  (bif (decide ((a18 : Int) < (((a0).length : Nat) : Int))) then (some (.inl ((a0, (), (), a15, a16, a17, (IntKind.wrap .i64 (a18 * 2)), (IntKind.wrap .i64 (a19 + 1)), ()), ((b0_0, b0_1, b0_2, (), ()), (b1_0, b1_1, b1_2, (), ()), (b2_0, ()), (b3_0, ()), ()), ()))) else (some (.inr ((a18, a19, ()), ((b0_0, b0_1, b0_2, (), ()), (b1_0, b1_1, b1_2, (), ()), (b2_0, ()), (b3_0, ()), ()), ()))))
noncomputable def L7_17 (a0 : (List Int)) (a15 : Int) (a16 : Int) (a17 : Bool) (a18 : Int) (a19 : Int) (b0_0 : Int) (b0_1 : Int) (b0_2 : Int) (b1_0 : Int) (b1_1 : Int) (b1_2 : Int) (b2_0 : (List Int)) (b3_0 : (List Int)) : Option ((Int × (Int × Unit)) × ((Int × (Int × (Int × (Unit × Unit)))) × ((Int × (Int × (Int × (Unit × Unit)))) × (((List Int) × Unit) × (((List Int) × Unit) × Unit)))) × Unit) := loopF (fun x : (((List Int) × (Unit × (Unit × (Int × (Int × (Bool × (Int × (Int × Unit)))))))) × ((Int × (Int × (Int × (Unit × Unit)))) × ((Int × (Int × (Int × (Unit × Unit)))) × (((List Int) × Unit) × (((List Int) × Unit) × Unit)))) × Unit) => T7_17 x.1.1 x.1.2.2.2.1 x.1.2.2.2.2.1 x.1.2.2.2.2.2.1 x.1.2.2.2.2.2.2.1 x.1.2.2.2.2.2.2.2.1 x.2.1.1.1 x.2.1.1.2.1 x.2.1.1.2.2.1 x.2.1.2.1.1 x.2.1.2.1.2.1 x.2.1.2.1.2.2.1 x.2.1.2.2.1.1 x.2.1.2.2.2.1.1) ((a0, (), (), a15, a16, a17, a18, a19, ()), ((b0_0, b0_1, b0_2, (), ()), (b1_0, b1_1, b1_2, (), ()), (b2_0, ()), (b3_0, ()), ()), ())
theorem L7_17_eq (a0 : (List Int)) (a15 : Int) (a16 : Int) (a17 : Bool) (a18 : Int) (a19 : Int) (b0_0 : Int) (b0_1 : Int) (b0_2 : Int) (b1_0 : Int) (b1_1 : Int) (b1_2 : Int) (b2_0 : (List Int)) (b3_0 : (List Int)) : L7_17 a0 a15 a16 a17 a18 a19 b0_0 b0_1 b0_2 b1_0 b1_1 b1_2 b2_0 b3_0 = (T7_17 a0 a15 a16 a17 a18 a19 b0_0 b0_1 b0_2 b1_0 b1_1 b1_2 b2_0 b3_0).bind (Sum.elim (fun x => L7_17 x.1.1 x.1.2.2.2.1 x.1.2.2.2.2.1 x.1.2.2.2.2.2.1 x.1.2.2.2.2.2.2.1 x.1.2.2.2.2.2.2.2.1 x.2.1.1.1 x.2.1.1.2.1 x.2.1.1.2.2.1 x.2.1.2.1.1 x.2.1.2.1.2.1 x.2.1.2.1.2.2.1 x.2.1.2.2.1.1 x.2.1.2.2.2.1.1) some) := loopF_eq _ _
noncomputable def k7_17 : Con := ⟨i7_17, o7_17, fun x => L7_17 x.1.1 x.1.2.2.2.1 x.1.2.2.2.2.1 x.1.2.2.2.2.2.1 x.1.2.2.2.2.2.2.1 x.1.2.2.2.2.2.2.2.1 x.2.1.1.1 x.2.1.1.2.1 x.2.1.1.2.2.1 x.2.1.2.1.1 x.2.1.2.1.2.1 x.2.1.2.1.2.2.1 x.2.1.2.2.1.1 x.2.1.2.2.2.1.1⟩
theorem e7_17 (x : i7_17.E) : vround Try.prog C7_17 LO7_17 Try.f7.ntmps l7_17 i7_17 o7_17 x = T7_17 x.1.1 x.1.2.2.2.1 x.1.2.2.2.2.1 x.1.2.2.2.2.2.1 x.1.2.2.2.2.2.2.1 x.1.2.2.2.2.2.2.2.1 x.2.1.1.1 x.2.1.1.2.1 x.2.1.1.2.2.1 x.2.1.2.1.1 x.2.1.2.1.2.1 x.2.1.2.1.2.2.1 x.2.1.2.2.1.1 x.2.1.2.2.2.1.1 := by kernel_rfl
theorem k7_17_ok : Con.LOK Try.prog Try.f7.ntmps l7_17 k7_17 := (loop_ok C7_17_ok (loops_of (l := []) (by kernel_rfl) (show LoopsOK Try.prog Try.f7.ntmps [] LO7_17 from trivial)) i7_17 o7_17).congr fun x => (congrArg (fun T => loopF T x) (funext e7_17)).symm
noncomputable def C7_21 : Tab := [(28, c28), (900044, cHot)]
theorem C7_21_ok : TabOK Try.prog C7_21 := ⟨c28_ok, cHot_ok, trivial⟩
noncomputable def LO7_21 : Tab := []
noncomputable def i7_21 : Tm := { sl := [(11, .p 0 0), (13, .p 1 0), (15, .v (.i .u64)), (16, .v (.i .i64)), (17, .v .b), (18, .v (.i .i64)), (19, .v (.i .i64)), (20, .v (.i .i64))], bx := [[.v (.i .u64), .v (.i .i64), .v (.i .i64), .m (.i .u64) 2], [.v (.i .u64), .v (.i .i64), .v (.i .i64), .m (.i .u64) 3], [.r (.i .u64)], [.r (.i .u64)]], bf := [] }
noncomputable def o7_21 : OT := (.exit 4 { sl := [(20, .v (.i .i64))], bx := [[.v (.i .u64), .v (.i .i64), .v (.i .i64), .m (.i .u64) 2], [.v (.i .u64), .v (.i .i64), .v (.i .i64), .m (.i .u64) 3], [.r (.i .u64)], [.r (.i .u64)]], bf := [] })
noncomputable def T7_21 (a15 : Int) (a16 : Int) (a17 : Bool) (a18 : Int) (a19 : Int) (a20 : Int) (b0_0 : Int) (b0_1 : Int) (b0_2 : Int) (b1_0 : Int) (b1_1 : Int) (b1_2 : Int) (b2_0 : (List Int)) (b3_0 : (List Int)) : Option (((Unit × (Unit × (Int × (Int × (Bool × (Int × (Int × (Int × Unit)))))))) × ((Int × (Int × (Int × (Unit × Unit)))) × ((Int × (Int × (Int × (Unit × Unit)))) × (((List Int) × Unit) × (((List Int) × Unit) × Unit)))) × Unit) ⊕ ((Int × Unit) × ((Int × (Int × (Int × (Unit × Unit)))) × ((Int × (Int × (Int × (Unit × Unit)))) × (((List Int) × Unit) × (((List Int) × Unit) × Unit)))) × Unit)) :=
  (bif (decide ((a20 : Int) < a18)) then ((F28 (IntKind.wrap .i64 (2 * a20)) b0_0 b0_1 b0_2 b2_0).bind fun y140 => ((F28 (IntKind.wrap .i64 (2 * a20)) b1_0 b1_1 b1_2 b3_0).bind fun y141 => (bif ((y140.1.1 : Int) == y141.1.1) then (some (.inl (((), (), a15, a16, a17, a18, a19, (IntKind.wrap .i64 ((IntKind.wrap .i64 (2 * a20)) + 1)), ()), ((y140.2.1.1.1, y140.2.1.1.2.1, y140.2.1.1.2.2.1, (), ()), (y141.2.1.1.1, y141.2.1.1.2.1, y141.2.1.1.2.2.1, (), ()), (y140.2.1.2.1.1, ()), (y141.2.1.2.1.1, ()), ()), ()))) else (some (.inl (((), (), a15, a16, a17, a18, a19, (IntKind.wrap .i64 (2 * a20)), ()), ((y140.2.1.1.1, y140.2.1.1.2.1, y140.2.1.1.2.2.1, (), ()), (y141.2.1.1.1, y141.2.1.1.2.1, y141.2.1.1.2.2.1, (), ()), (y140.2.1.2.1.1, ()), (y141.2.1.2.1.1, ()), ()), ())))))) else (some (.inr ((a20, ()), ((b0_0, b0_1, b0_2, (), ()), (b1_0, b1_1, b1_2, (), ()), (b2_0, ()), (b3_0, ()), ()), ()))))
noncomputable def L7_21 (a15 : Int) (a16 : Int) (a17 : Bool) (a18 : Int) (a19 : Int) (a20 : Int) (b0_0 : Int) (b0_1 : Int) (b0_2 : Int) (b1_0 : Int) (b1_1 : Int) (b1_2 : Int) (b2_0 : (List Int)) (b3_0 : (List Int)) : Option ((Int × Unit) × ((Int × (Int × (Int × (Unit × Unit)))) × ((Int × (Int × (Int × (Unit × Unit)))) × (((List Int) × Unit) × (((List Int) × Unit) × Unit)))) × Unit) := loopF (fun x : ((Unit × (Unit × (Int × (Int × (Bool × (Int × (Int × (Int × Unit)))))))) × ((Int × (Int × (Int × (Unit × Unit)))) × ((Int × (Int × (Int × (Unit × Unit)))) × (((List Int) × Unit) × (((List Int) × Unit) × Unit)))) × Unit) => T7_21 x.1.2.2.1 x.1.2.2.2.1 x.1.2.2.2.2.1 x.1.2.2.2.2.2.1 x.1.2.2.2.2.2.2.1 x.1.2.2.2.2.2.2.2.1 x.2.1.1.1 x.2.1.1.2.1 x.2.1.1.2.2.1 x.2.1.2.1.1 x.2.1.2.1.2.1 x.2.1.2.1.2.2.1 x.2.1.2.2.1.1 x.2.1.2.2.2.1.1) (((), (), a15, a16, a17, a18, a19, a20, ()), ((b0_0, b0_1, b0_2, (), ()), (b1_0, b1_1, b1_2, (), ()), (b2_0, ()), (b3_0, ()), ()), ())
theorem L7_21_eq (a15 : Int) (a16 : Int) (a17 : Bool) (a18 : Int) (a19 : Int) (a20 : Int) (b0_0 : Int) (b0_1 : Int) (b0_2 : Int) (b1_0 : Int) (b1_1 : Int) (b1_2 : Int) (b2_0 : (List Int)) (b3_0 : (List Int)) : L7_21 a15 a16 a17 a18 a19 a20 b0_0 b0_1 b0_2 b1_0 b1_1 b1_2 b2_0 b3_0 = (T7_21 a15 a16 a17 a18 a19 a20 b0_0 b0_1 b0_2 b1_0 b1_1 b1_2 b2_0 b3_0).bind (Sum.elim (fun x => L7_21 x.1.2.2.1 x.1.2.2.2.1 x.1.2.2.2.2.1 x.1.2.2.2.2.2.1 x.1.2.2.2.2.2.2.1 x.1.2.2.2.2.2.2.2.1 x.2.1.1.1 x.2.1.1.2.1 x.2.1.1.2.2.1 x.2.1.2.1.1 x.2.1.2.1.2.1 x.2.1.2.1.2.2.1 x.2.1.2.2.1.1 x.2.1.2.2.2.1.1) some) := loopF_eq _ _
noncomputable def k7_21 : Con := ⟨i7_21, o7_21, fun x => L7_21 x.1.2.2.1 x.1.2.2.2.1 x.1.2.2.2.2.1 x.1.2.2.2.2.2.1 x.1.2.2.2.2.2.2.1 x.1.2.2.2.2.2.2.2.1 x.2.1.1.1 x.2.1.1.2.1 x.2.1.1.2.2.1 x.2.1.2.1.1 x.2.1.2.1.2.1 x.2.1.2.1.2.2.1 x.2.1.2.2.1.1 x.2.1.2.2.2.1.1⟩
theorem e7_21 (x : i7_21.E) : vround Try.prog C7_21 LO7_21 Try.f7.ntmps l7_21 i7_21 o7_21 x = T7_21 x.1.2.2.1 x.1.2.2.2.1 x.1.2.2.2.2.1 x.1.2.2.2.2.2.1 x.1.2.2.2.2.2.2.1 x.1.2.2.2.2.2.2.2.1 x.2.1.1.1 x.2.1.1.2.1 x.2.1.1.2.2.1 x.2.1.2.1.1 x.2.1.2.1.2.1 x.2.1.2.1.2.2.1 x.2.1.2.2.1.1 x.2.1.2.2.2.1.1 := by kernel_rfl
theorem k7_21_ok : Con.LOK Try.prog Try.f7.ntmps l7_21 k7_21 := (loop_ok C7_21_ok (loops_of (l := []) (by kernel_rfl) (show LoopsOK Try.prog Try.f7.ntmps [] LO7_21 from trivial)) i7_21 o7_21).congr fun x => (congrArg (fun T => loopF T x) (funext e7_21)).symm
noncomputable def C7 : Tab := [(16, c16), (17, c17), (18, c18), (19, c19), (28, c28), (31, c31), (900044, cHot)]
theorem C7_ok : TabOK Try.prog C7 := ⟨c16_ok, c17_ok, c18_ok, c19_ok, c28_ok, c31_ok, cHot_ok, trivial⟩
noncomputable def LO7 : Tab := [(5, k7_5), (17, k7_17), (21, k7_21)]
noncomputable def i7 : Tm := { sl := [(0, .v (.l (.i .u8))), (1, .v (.i .u8)), (2, .v (.l (.i .u8)))], bx := [], bf := [] }
noncomputable def o7 : OT := (.ret { sl := [(0, .v .b)], bx := [], bf := [] })
/-- anabranch/anabranchlaw26.SumsDiffer -/
noncomputable def F7 (a0 : (List Int)) (a1 : Int) (a2 : (List Int)) : Option ((Bool × Unit) × Unit × Unit) :=
  ((F16).bind fun y124 => (bif (!y124.1.1) then ((F16).bind fun y125 => (some ((y125.1.1, ()), (), ()))) else (bif (((((a0).length : Nat) : Int) : Int) == 0) then ((F16).bind fun y126 => (some ((y126.1.1, ()), (), ()))) else (bif (decide (((((a0).length : Nat) : Int) : Int) > 60)) then ((F16).bind fun y127 => (some ((y127.1.1, ()), (), ()))) else (bif (decide (((((a2).length : Nat) : Int) : Int) > 60)) then ((F16).bind fun y128 => (some ((y128.1.1, ()), (), ()))) else (bif (decide ((a0).length < lim)) then (bif (decide (((((a0).length : Nat) : Int) : Int) ≠ 0)) then ((L7_5 a0 a1 a2 (((IntKind.wrap .i64 a1) : Int).tmod (((a0).length : Nat) : Int)) a0).bind fun y129 => ((F17 a0 1).bind fun y130 => ((F17 y129.2.1.1.1 1).bind fun y131 => ((F18 y130.1.1).bind fun y132 => ((F18 y131.1.1).bind fun y133 => ((F19 y132.2.1.1.1 y132.2.1.1.2.1 y132.2.1.1.2.2.1 y133.2.1.1.1 y133.2.1.1.2.1 y133.2.1.1.2.2.1 y132.2.1.2.1.1 y133.2.1.2.1.1).bind fun y134 => ((F31 y134.2.1.1.1 y134.2.1.1.2.1 y134.2.1.1.2.2.1 y134.2.1.2.2.1.1).bind fun y135 => ((F31 y134.2.1.2.1.1 y134.2.1.2.1.2.1 y134.2.1.2.1.2.2.1 y134.2.1.2.2.2.1.1).bind fun y136 => (bif ((y135.1.1 : Int) == y136.1.1) then (bif (!y134.1.2.2.1) then (some ((((y134.1.2.1 : Int) == 1), ()), (), ())) else (some ((false, ()), (), ()))) else ((L7_17 a0 y134.1.1 y134.1.2.1 y134.1.2.2.1 1 0 y135.2.1.1.1 y135.2.1.1.2.1 y135.2.1.1.2.2.1 y136.2.1.1.1 y136.2.1.1.2.1 y136.2.1.1.2.2.1 y135.2.1.2.1.1 y136.2.1.2.1.1).bind fun y137 => ((L7_21 y134.1.1 y134.1.2.1 y134.1.2.2.1 y137.1.1 y137.1.2.1 1 y137.2.1.1.1 y137.2.1.1.2.1 y137.2.1.1.2.2.1 y137.2.1.2.1.1 y137.2.1.2.1.2.1 y137.2.1.2.1.2.2.1 y137.2.1.2.2.1.1 y137.2.1.2.2.2.1.1).bind fun y142 => (bif y134.1.2.2.1 then (bif ((y134.1.1 : Int) == (IntKind.wrap .u64 ((IntKind.wrap .u64 (IntKind.wrap .i64 (y142.1.1 - y137.1.1))) + 1))) then (bif ((y134.1.2.1 : Int) == (IntKind.wrap .i64 (y137.1.2.1 + 1))) then (some (((decide ((y134.1.2.1 : Int) ≤ 8)), ()), (), ())) else (some ((false, ()), (), ()))) else (some ((false, ()), (), ()))) else (some ((false, ()), (), ())))))))))))))) else none) else none))))))
noncomputable def c7 : Con := ⟨i7, o7, fun x => F7 x.1.1 x.1.2.1 x.1.2.2.1⟩
theorem e7 (x : i7.E) : vfn Try.prog C7 LO7 Try.f7 b7 i7 o7 x = F7 x.1.1 x.1.2.1 x.1.2.2.1 := by kernel_rfl
theorem c7_ok : Con.OK Try.prog 7 c7 := (fn_ok C7_ok Try.func7 body7 (loops_of (l := [l7_5, l7_17, l7_21]) (by kernel_rfl) (show LoopsOK Try.prog Try.f7.ntmps [l7_5, l7_17, l7_21] LO7 from ⟨k7_5_ok, k7_17_ok, k7_21_ok, trivial⟩)) i7 o7).congr fun x => (e7 x).symm
noncomputable def l8_8 : Code := (.seq (.seq (.region 8 (regOf Try.f8 8) false) (.cond (.tmp 65) .skip (.exit 0))) (.block 1 (.region 9 (regOf Try.f8 9) false)))
noncomputable def l8_15 : Code := (.seq (.seq (.region 15 (regOf Try.f8 15) false) (.cond (.tmp 79) .skip (.exit 4))) (.block 5 (.seq (.region 16 (regOf Try.f8 16) false) (.region 17 (regOf Try.f8 17) false))))
noncomputable def l8_20 : Code := (.seq (.seq (.region 20 (regOf Try.f8 20) false) (.cond (.tmp 88) .skip (.exit 6))) (.seq (.block 7 (.seq (.region 22 (regOf Try.f8 22) true) (.cond (.tmp 112) (.region 23 (regOf Try.f8 23) false) .skip))) (.region 21 (regOf Try.f8 21) false)))
noncomputable def l8_11 : Code := (.seq (.seq (.region 11 (regOf Try.f8 11) false) (.cond (.tmp 72) .skip (.exit 2))) (.seq (.block 3 (.seq (.region 13 (regOf Try.f8 13) false) (.seq (.region 14 (regOf Try.f8 14) false) (.seq (.block 4 (.loop l8_15)) (.seq (.region 18 (regOf Try.f8 18) false) (.seq (.seq (.region 19 (regOf Try.f8 19) false) (.block 6 (.loop l8_20))) (.seq (.region 24 (regOf Try.f8 24) false) (.seq (.region 25 (regOf Try.f8 25) false) (.seq (.seq (.region 26 (regOf Try.f8 26) false) (.cond (.tmp 130) (.seq (.region 27 (regOf Try.f8 27) false) .ret) .skip)) (.seq (.region 28 (regOf Try.f8 28) false) (.cond (.tmp 137) (.seq (.region 29 (regOf Try.f8 29) false) .ret) .skip))))))))))) (.region 12 (regOf Try.f8 12) false)))
noncomputable def l8_32 : Code := (.seq (.seq (.region 32 (regOf Try.f8 32) false) (.cond (.tmp 148) .skip (.exit 8))) (.seq (.block 9 (.seq (.region 34 (regOf Try.f8 34) true) (.cond (.tmp 160) (.seq (.region 35 (regOf Try.f8 35) false) .ret) .skip))) (.region 33 (regOf Try.f8 33) false)))
noncomputable def b8 : Code := (.seq (.region 0 (regOf Try.f8 0) false) (.seq (.seq (.region 1 (regOf Try.f8 1) false) (.cond (.tmp 43) (.seq (.region 2 (regOf Try.f8 2) false) .ret) .skip)) (.seq (.region 3 (regOf Try.f8 3) false) (.seq (.region 4 (regOf Try.f8 4) false) (.seq (.region 5 (regOf Try.f8 5) false) (.seq (.region 6 (regOf Try.f8 6) false) (.seq (.region 7 (regOf Try.f8 7) false) (.seq (.block 0 (.loop l8_8)) (.seq (.seq (.region 10 (regOf Try.f8 10) false) (.block 2 (.loop l8_11))) (.seq (.region 30 (regOf Try.f8 30) false) (.seq (.seq (.region 31 (regOf Try.f8 31) false) (.block 8 (.loop l8_32))) (.seq (.region 36 (regOf Try.f8 36) false) .ret))))))))))))
theorem body8 : Try.f8.body = some b8 := by kernel_rfl
noncomputable def C8_8 : Tab := []
theorem C8_8_ok : TabOK Try.prog C8_8 := trivial
noncomputable def LO8_8 : Tab := []
noncomputable def i8_8 : Tm := { sl := [(0, .v (.l (.i .u8))), (5, .v (.l (.p (.i .i64) (.p (.i .u64) (.p (.i .u64) (.p (.i .u8) (.p .s (.p (.l (.i .u8)) (.p (.f .f64) (.p (.i .i64) .u)))))))))), (6, .v (.l (.p (.i .i64) (.p (.i .u64) (.p (.i .u64) (.p (.i .u8) (.p .s (.p (.l (.i .u8)) (.p (.f .f64) (.p (.i .i64) .u)))))))))), (7, .p 0 0), (9, .p 1 0), (11, .v (.i .i64))], bx := [[.v (.i .u64), .v (.i .i64), .v (.i .i64), .m (.i .u64) 2], [.v (.i .u64), .v (.i .i64), .v (.i .i64), .m (.i .u64) 3], [.r (.i .u64)], [.r (.i .u64)]], bf := [] }
noncomputable def o8_8 : OT := (.exit 0 { sl := [(11, .v (.i .i64))], bx := [[.v (.i .u64), .v (.i .i64), .v (.i .i64), .m (.i .u64) 2], [.v (.i .u64), .v (.i .i64), .v (.i .i64), .m (.i .u64) 3], [.r (.i .u64)], [.r (.i .u64)]], bf := [] })
noncomputable def T8_8 (a0 : (List Int)) (a5 : (List (Int × (Int × (Int × (Int × (ByteArray × ((List Int) × (Nat × (Int × Unit)))))))))) (a6 : (List (Int × (Int × (Int × (Int × (ByteArray × ((List Int) × (Nat × (Int × Unit)))))))))) (a11 : Int) (b0_0 : Int) (b0_1 : Int) (b0_2 : Int) (b1_0 : Int) (b1_1 : Int) (b1_2 : Int) (b2_0 : (List Int)) (b3_0 : (List Int)) : Option ((((List Int) × ((List (Int × (Int × (Int × (Int × (ByteArray × ((List Int) × (Nat × (Int × Unit))))))))) × ((List (Int × (Int × (Int × (Int × (ByteArray × ((List Int) × (Nat × (Int × Unit))))))))) × (Unit × (Unit × (Int × Unit)))))) × ((Int × (Int × (Int × (Unit × Unit)))) × ((Int × (Int × (Int × (Unit × Unit)))) × (((List Int) × Unit) × (((List Int) × Unit) × Unit)))) × Unit) ⊕ ((Int × Unit) × ((Int × (Int × (Int × (Unit × Unit)))) × ((Int × (Int × (Int × (Unit × Unit)))) × (((List Int) × Unit) × (((List Int) × Unit) × Unit)))) × Unit)) :=
  (bif (decide ((a11 : Int) < (((a0).length : Nat) : Int))) then (some (.inl ((a0, a5, a6, (), (), (IntKind.wrap .i64 (a11 * 2)), ()), ((b0_0, b0_1, b0_2, (), ()), (b1_0, b1_1, b1_2, (), ()), (b2_0, ()), (b3_0, ()), ()), ()))) else (some (.inr ((a11, ()), ((b0_0, b0_1, b0_2, (), ()), (b1_0, b1_1, b1_2, (), ()), (b2_0, ()), (b3_0, ()), ()), ()))))
noncomputable def L8_8 (a0 : (List Int)) (a5 : (List (Int × (Int × (Int × (Int × (ByteArray × ((List Int) × (Nat × (Int × Unit)))))))))) (a6 : (List (Int × (Int × (Int × (Int × (ByteArray × ((List Int) × (Nat × (Int × Unit)))))))))) (a11 : Int) (b0_0 : Int) (b0_1 : Int) (b0_2 : Int) (b1_0 : Int) (b1_1 : Int) (b1_2 : Int) (b2_0 : (List Int)) (b3_0 : (List Int)) : Option ((Int × Unit) × ((Int × (Int × (Int × (Unit × Unit)))) × ((Int × (Int × (Int × (Unit × Unit)))) × (((List Int) × Unit) × (((List Int) × Unit) × Unit)))) × Unit) := loopF (fun x : (((List Int) × ((List (Int × (Int × (Int × (Int × (ByteArray × ((List Int) × (Nat × (Int × Unit))))))))) × ((List (Int × (Int × (Int × (Int × (ByteArray × ((List Int) × (Nat × (Int × Unit))))))))) × (Unit × (Unit × (Int × Unit)))))) × ((Int × (Int × (Int × (Unit × Unit)))) × ((Int × (Int × (Int × (Unit × Unit)))) × (((List Int) × Unit) × (((List Int) × Unit) × Unit)))) × Unit) => T8_8 x.1.1 x.1.2.1 x.1.2.2.1 x.1.2.2.2.2.2.1 x.2.1.1.1 x.2.1.1.2.1 x.2.1.1.2.2.1 x.2.1.2.1.1 x.2.1.2.1.2.1 x.2.1.2.1.2.2.1 x.2.1.2.2.1.1 x.2.1.2.2.2.1.1) ((a0, a5, a6, (), (), a11, ()), ((b0_0, b0_1, b0_2, (), ()), (b1_0, b1_1, b1_2, (), ()), (b2_0, ()), (b3_0, ()), ()), ())
theorem L8_8_eq (a0 : (List Int)) (a5 : (List (Int × (Int × (Int × (Int × (ByteArray × ((List Int) × (Nat × (Int × Unit)))))))))) (a6 : (List (Int × (Int × (Int × (Int × (ByteArray × ((List Int) × (Nat × (Int × Unit)))))))))) (a11 : Int) (b0_0 : Int) (b0_1 : Int) (b0_2 : Int) (b1_0 : Int) (b1_1 : Int) (b1_2 : Int) (b2_0 : (List Int)) (b3_0 : (List Int)) : L8_8 a0 a5 a6 a11 b0_0 b0_1 b0_2 b1_0 b1_1 b1_2 b2_0 b3_0 = (T8_8 a0 a5 a6 a11 b0_0 b0_1 b0_2 b1_0 b1_1 b1_2 b2_0 b3_0).bind (Sum.elim (fun x => L8_8 x.1.1 x.1.2.1 x.1.2.2.1 x.1.2.2.2.2.2.1 x.2.1.1.1 x.2.1.1.2.1 x.2.1.1.2.2.1 x.2.1.2.1.1 x.2.1.2.1.2.1 x.2.1.2.1.2.2.1 x.2.1.2.2.1.1 x.2.1.2.2.2.1.1) some) := loopF_eq _ _
noncomputable def k8_8 : Con := ⟨i8_8, o8_8, fun x => L8_8 x.1.1 x.1.2.1 x.1.2.2.1 x.1.2.2.2.2.2.1 x.2.1.1.1 x.2.1.1.2.1 x.2.1.1.2.2.1 x.2.1.2.1.1 x.2.1.2.1.2.1 x.2.1.2.1.2.2.1 x.2.1.2.2.1.1 x.2.1.2.2.2.1.1⟩
theorem e8_8 (x : i8_8.E) : vround Try.prog C8_8 LO8_8 Try.f8.ntmps l8_8 i8_8 o8_8 x = T8_8 x.1.1 x.1.2.1 x.1.2.2.1 x.1.2.2.2.2.2.1 x.2.1.1.1 x.2.1.1.2.1 x.2.1.1.2.2.1 x.2.1.2.1.1 x.2.1.2.1.2.1 x.2.1.2.1.2.2.1 x.2.1.2.2.1.1 x.2.1.2.2.2.1.1 := by kernel_rfl
theorem k8_8_ok : Con.LOK Try.prog Try.f8.ntmps l8_8 k8_8 := (loop_ok C8_8_ok (loops_of (l := []) (by kernel_rfl) (show LoopsOK Try.prog Try.f8.ntmps [] LO8_8 from trivial)) i8_8 o8_8).congr fun x => (congrArg (fun T => loopF T x) (funext e8_8)).symm
noncomputable def C8_15 : Tab := []
theorem C8_15_ok : TabOK Try.prog C8_15 := trivial
noncomputable def LO8_15 : Tab := []
noncomputable def i8_15 : Tm := { sl := [(0, .v (.l (.i .u8))), (5, .v (.l (.p (.i .i64) (.p (.i .u64) (.p (.i .u64) (.p (.i .u8) (.p .s (.p (.l (.i .u8)) (.p (.f .f64) (.p (.i .i64) .u)))))))))), (6, .v (.l (.p (.i .i64) (.p (.i .u64) (.p (.i .u64) (.p (.i .u8) (.p .s (.p (.l (.i .u8)) (.p (.f .f64) (.p (.i .i64) .u)))))))))), (7, .p 0 0), (9, .p 1 0), (11, .v (.i .i64)), (12, .v (.i .i64)), (13, .v (.i .i64)), (14, .v (.i .i64))], bx := [[.v (.i .u64), .v (.i .i64), .v (.i .i64), .m (.i .u64) 2], [.v (.i .u64), .v (.i .i64), .v (.i .i64), .m (.i .u64) 3], [.r (.i .u64)], [.r (.i .u64)]], bf := [] }
noncomputable def o8_15 : OT := (.exit 4 { sl := [(13, .v (.i .i64)), (14, .v (.i .i64))], bx := [[.v (.i .u64), .v (.i .i64), .v (.i .i64), .m (.i .u64) 2], [.v (.i .u64), .v (.i .i64), .v (.i .i64), .m (.i .u64) 3], [.r (.i .u64)], [.r (.i .u64)]], bf := [] })
noncomputable def T8_15 (a0 : (List Int)) (a5 : (List (Int × (Int × (Int × (Int × (ByteArray × ((List Int) × (Nat × (Int × Unit)))))))))) (a6 : (List (Int × (Int × (Int × (Int × (ByteArray × ((List Int) × (Nat × (Int × Unit)))))))))) (a11 : Int) (a12 : Int) (a13 : Int) (a14 : Int) (b0_0 : Int) (b0_1 : Int) (b0_2 : Int) (b1_0 : Int) (b1_1 : Int) (b1_2 : Int) (b2_0 : (List Int)) (b3_0 : (List Int)) : Option ((((List Int) × ((List (Int × (Int × (Int × (Int × (ByteArray × ((List Int) × (Nat × (Int × Unit))))))))) × ((List (Int × (Int × (Int × (Int × (ByteArray × ((List Int) × (Nat × (Int × Unit))))))))) × (Unit × (Unit × (Int × (Int × (Int × (Int × Unit))))))))) × ((Int × (Int × (Int × (Unit × Unit)))) × ((Int × (Int × (Int × (Unit × Unit)))) × (((List Int) × Unit) × (((List Int) × Unit) × Unit)))) × Unit) ⊕ ((Int × (Int × Unit)) × ((Int × (Int × (Int × (Unit × Unit)))) × ((Int × (Int × (Int × (Unit × Unit)))) × (((List Int) × Unit) × (((List Int) × Unit) × Unit)))) × Unit)) :=
  (bif (decide ((a13 : Int) < a11)) then (some (.inl ((a0, a5, a6, (), (), a11, a12, (IntKind.wrap .i64 (2 * a13)), (IntKind.wrap .i64 ((IntKind.wrap .i64 (2 * a14)) + 1)), ()), ((b0_0, b0_1, b0_2, (), ()), (b1_0, b1_1, b1_2, (), ()), (b2_0, ()), (b3_0, ()), ()), ()))) else (some (.inr ((a13, a14, ()), ((b0_0, b0_1, b0_2, (), ()), (b1_0, b1_1, b1_2, (), ()), (b2_0, ()), (b3_0, ()), ()), ()))))
noncomputable def L8_15 (a0 : (List Int)) (a5 : (List (Int × (Int × (Int × (Int × (ByteArray × ((List Int) × (Nat × (Int × Unit)))))))))) (a6 : (List (Int × (Int × (Int × (Int × (ByteArray × ((List Int) × (Nat × (Int × Unit)))))))))) (a11 : Int) (a12 : Int) (a13 : Int) (a14 : Int) (b0_0 : Int) (b0_1 : Int) (b0_2 : Int) (b1_0 : Int) (b1_1 : Int) (b1_2 : Int) (b2_0 : (List Int)) (b3_0 : (List Int)) : Option ((Int × (Int × Unit)) × ((Int × (Int × (Int × (Unit × Unit)))) × ((Int × (Int × (Int × (Unit × Unit)))) × (((List Int) × Unit) × (((List Int) × Unit) × Unit)))) × Unit) := loopF (fun x : (((List Int) × ((List (Int × (Int × (Int × (Int × (ByteArray × ((List Int) × (Nat × (Int × Unit))))))))) × ((List (Int × (Int × (Int × (Int × (ByteArray × ((List Int) × (Nat × (Int × Unit))))))))) × (Unit × (Unit × (Int × (Int × (Int × (Int × Unit))))))))) × ((Int × (Int × (Int × (Unit × Unit)))) × ((Int × (Int × (Int × (Unit × Unit)))) × (((List Int) × Unit) × (((List Int) × Unit) × Unit)))) × Unit) => T8_15 x.1.1 x.1.2.1 x.1.2.2.1 x.1.2.2.2.2.2.1 x.1.2.2.2.2.2.2.1 x.1.2.2.2.2.2.2.2.1 x.1.2.2.2.2.2.2.2.2.1 x.2.1.1.1 x.2.1.1.2.1 x.2.1.1.2.2.1 x.2.1.2.1.1 x.2.1.2.1.2.1 x.2.1.2.1.2.2.1 x.2.1.2.2.1.1 x.2.1.2.2.2.1.1) ((a0, a5, a6, (), (), a11, a12, a13, a14, ()), ((b0_0, b0_1, b0_2, (), ()), (b1_0, b1_1, b1_2, (), ()), (b2_0, ()), (b3_0, ()), ()), ())
theorem L8_15_eq (a0 : (List Int)) (a5 : (List (Int × (Int × (Int × (Int × (ByteArray × ((List Int) × (Nat × (Int × Unit)))))))))) (a6 : (List (Int × (Int × (Int × (Int × (ByteArray × ((List Int) × (Nat × (Int × Unit)))))))))) (a11 : Int) (a12 : Int) (a13 : Int) (a14 : Int) (b0_0 : Int) (b0_1 : Int) (b0_2 : Int) (b1_0 : Int) (b1_1 : Int) (b1_2 : Int) (b2_0 : (List Int)) (b3_0 : (List Int)) : L8_15 a0 a5 a6 a11 a12 a13 a14 b0_0 b0_1 b0_2 b1_0 b1_1 b1_2 b2_0 b3_0 = (T8_15 a0 a5 a6 a11 a12 a13 a14 b0_0 b0_1 b0_2 b1_0 b1_1 b1_2 b2_0 b3_0).bind (Sum.elim (fun x => L8_15 x.1.1 x.1.2.1 x.1.2.2.1 x.1.2.2.2.2.2.1 x.1.2.2.2.2.2.2.1 x.1.2.2.2.2.2.2.2.1 x.1.2.2.2.2.2.2.2.2.1 x.2.1.1.1 x.2.1.1.2.1 x.2.1.1.2.2.1 x.2.1.2.1.1 x.2.1.2.1.2.1 x.2.1.2.1.2.2.1 x.2.1.2.2.1.1 x.2.1.2.2.2.1.1) some) := loopF_eq _ _
noncomputable def k8_15 : Con := ⟨i8_15, o8_15, fun x => L8_15 x.1.1 x.1.2.1 x.1.2.2.1 x.1.2.2.2.2.2.1 x.1.2.2.2.2.2.2.1 x.1.2.2.2.2.2.2.2.1 x.1.2.2.2.2.2.2.2.2.1 x.2.1.1.1 x.2.1.1.2.1 x.2.1.1.2.2.1 x.2.1.2.1.1 x.2.1.2.1.2.1 x.2.1.2.1.2.2.1 x.2.1.2.2.1.1 x.2.1.2.2.2.1.1⟩
theorem e8_15 (x : i8_15.E) : vround Try.prog C8_15 LO8_15 Try.f8.ntmps l8_15 i8_15 o8_15 x = T8_15 x.1.1 x.1.2.1 x.1.2.2.1 x.1.2.2.2.2.2.1 x.1.2.2.2.2.2.2.1 x.1.2.2.2.2.2.2.2.1 x.1.2.2.2.2.2.2.2.2.1 x.2.1.1.1 x.2.1.1.2.1 x.2.1.1.2.2.1 x.2.1.2.1.1 x.2.1.2.1.2.1 x.2.1.2.1.2.2.1 x.2.1.2.2.1.1 x.2.1.2.2.2.1.1 := by kernel_rfl
theorem k8_15_ok : Con.LOK Try.prog Try.f8.ntmps l8_15 k8_15 := (loop_ok C8_15_ok (loops_of (l := []) (by kernel_rfl) (show LoopsOK Try.prog Try.f8.ntmps [] LO8_15 from trivial)) i8_15 o8_15).congr fun x => (congrArg (fun T => loopF T x) (funext e8_15)).symm
noncomputable def C8_20 : Tab := [(33, c33)]
theorem C8_20_ok : TabOK Try.prog C8_20 := ⟨c33_ok, trivial⟩
noncomputable def LO8_20 : Tab := []
noncomputable def i8_20 : Tm := { sl := [(0, .v (.l (.i .u8))), (5, .v (.l (.p (.i .i64) (.p (.i .u64) (.p (.i .u64) (.p (.i .u8) (.p .s (.p (.l (.i .u8)) (.p (.f .f64) (.p (.i .i64) .u)))))))))), (6, .v (.l (.p (.i .i64) (.p (.i .u64) (.p (.i .u64) (.p (.i .u8) (.p .s (.p (.l (.i .u8)) (.p (.f .f64) (.p (.i .i64) .u)))))))))), (7, .p 0 0), (9, .p 1 0), (11, .v (.i .i64)), (12, .v (.i .i64)), (14, .v (.i .i64)), (15, .v .b), (16, .v (.i .i64))], bx := [[.v (.i .u64), .v (.i .i64), .v (.i .i64), .m (.i .u64) 2], [.v (.i .u64), .v (.i .i64), .v (.i .i64), .m (.i .u64) 3], [.r (.i .u64)], [.r (.i .u64)]], bf := [] }
noncomputable def o8_20 : OT := (.exit 6 { sl := [(15, .v .b)], bx := [[.v (.i .u64), .v (.i .i64), .v (.i .i64), .m (.i .u64) 2], [.v (.i .u64), .v (.i .i64), .v (.i .i64), .m (.i .u64) 3], [.r (.i .u64)], [.r (.i .u64)]], bf := [] })
noncomputable def T8_20 (a0 : (List Int)) (a5 : (List (Int × (Int × (Int × (Int × (ByteArray × ((List Int) × (Nat × (Int × Unit)))))))))) (a6 : (List (Int × (Int × (Int × (Int × (ByteArray × ((List Int) × (Nat × (Int × Unit)))))))))) (a11 : Int) (a12 : Int) (a14 : Int) (a15 : Bool) (a16 : Int) (b0_0 : Int) (b0_1 : Int) (b0_2 : Int) (b1_0 : Int) (b1_1 : Int) (b1_2 : Int) (b2_0 : (List Int)) (b3_0 : (List Int)) : Option ((((List Int) × ((List (Int × (Int × (Int × (Int × (ByteArray × ((List Int) × (Nat × (Int × Unit))))))))) × ((List (Int × (Int × (Int × (Int × (ByteArray × ((List Int) × (Nat × (Int × Unit))))))))) × (Unit × (Unit × (Int × (Int × (Int × (Bool × (Int × Unit)))))))))) × ((Int × (Int × (Int × (Unit × Unit)))) × ((Int × (Int × (Int × (Unit × Unit)))) × (((List Int) × Unit) × (((List Int) × Unit) × Unit)))) × Unit) ⊕ ((Bool × Unit) × ((Int × (Int × (Int × (Unit × Unit)))) × ((Int × (Int × (Int × (Unit × Unit)))) × (((List Int) × Unit) × (((List Int) × Unit) × Unit)))) × Unit)) :=
  (bif (decide ((a16 : Int) ≤ a14)) then (bif (decide (((IntKind.wrap .i64 (a16 - a11)) : Int) < (((a0).length : Nat) : Int))) then (bif (decide (0 ≤ ((IntKind.wrap .i64 (a16 - a11)) : Int) ∧ ((IntKind.wrap .i64 (a16 - a11)) : Int) < (((a5).length : Nat) : Int))) then (bif (decide (0 ≤ ((IntKind.wrap .i64 (a16 - a11)) : Int) ∧ ((IntKind.wrap .i64 (a16 - a11)) : Int) < (((a6).length : Nat) : Int))) then ((F33 (((a5).getD ((IntKind.wrap .i64 (a16 - a11)) : Int).toNat ((0 : Int), ((0 : Int), ((0 : Int), ((0 : Int), (ByteArray.empty, ([], ((0 : Nat), ((0 : Int), ()))))))))).1, (((a5).getD ((IntKind.wrap .i64 (a16 - a11)) : Int).toNat ((0 : Int), ((0 : Int), ((0 : Int), ((0 : Int), (ByteArray.empty, ([], ((0 : Nat), ((0 : Int), ()))))))))).2.1, (((a5).getD ((IntKind.wrap .i64 (a16 - a11)) : Int).toNat ((0 : Int), ((0 : Int), ((0 : Int), ((0 : Int), (ByteArray.empty, ([], ((0 : Nat), ((0 : Int), ()))))))))).2.2.1, (((a5).getD ((IntKind.wrap .i64 (a16 - a11)) : Int).toNat ((0 : Int), ((0 : Int), ((0 : Int), ((0 : Int), (ByteArray.empty, ([], ((0 : Nat), ((0 : Int), ()))))))))).2.2.2.1, (((a5).getD ((IntKind.wrap .i64 (a16 - a11)) : Int).toNat ((0 : Int), ((0 : Int), ((0 : Int), ((0 : Int), (ByteArray.empty, ([], ((0 : Nat), ((0 : Int), ()))))))))).2.2.2.2.1, (((a5).getD ((IntKind.wrap .i64 (a16 - a11)) : Int).toNat ((0 : Int), ((0 : Int), ((0 : Int), ((0 : Int), (ByteArray.empty, ([], ((0 : Nat), ((0 : Int), ()))))))))).2.2.2.2.2.1, (((a5).getD ((IntKind.wrap .i64 (a16 - a11)) : Int).toNat ((0 : Int), ((0 : Int), ((0 : Int), ((0 : Int), (ByteArray.empty, ([], ((0 : Nat), ((0 : Int), ()))))))))).2.2.2.2.2.2.1, (((a5).getD ((IntKind.wrap .i64 (a16 - a11)) : Int).toNat ((0 : Int), ((0 : Int), ((0 : Int), ((0 : Int), (ByteArray.empty, ([], ((0 : Nat), ((0 : Int), ()))))))))).2.2.2.2.2.2.2.1, ())))))))) (((a6).getD ((IntKind.wrap .i64 (a16 - a11)) : Int).toNat ((0 : Int), ((0 : Int), ((0 : Int), ((0 : Int), (ByteArray.empty, ([], ((0 : Nat), ((0 : Int), ()))))))))).1, (((a6).getD ((IntKind.wrap .i64 (a16 - a11)) : Int).toNat ((0 : Int), ((0 : Int), ((0 : Int), ((0 : Int), (ByteArray.empty, ([], ((0 : Nat), ((0 : Int), ()))))))))).2.1, (((a6).getD ((IntKind.wrap .i64 (a16 - a11)) : Int).toNat ((0 : Int), ((0 : Int), ((0 : Int), ((0 : Int), (ByteArray.empty, ([], ((0 : Nat), ((0 : Int), ()))))))))).2.2.1, (((a6).getD ((IntKind.wrap .i64 (a16 - a11)) : Int).toNat ((0 : Int), ((0 : Int), ((0 : Int), ((0 : Int), (ByteArray.empty, ([], ((0 : Nat), ((0 : Int), ()))))))))).2.2.2.1, (((a6).getD ((IntKind.wrap .i64 (a16 - a11)) : Int).toNat ((0 : Int), ((0 : Int), ((0 : Int), ((0 : Int), (ByteArray.empty, ([], ((0 : Nat), ((0 : Int), ()))))))))).2.2.2.2.1, (((a6).getD ((IntKind.wrap .i64 (a16 - a11)) : Int).toNat ((0 : Int), ((0 : Int), ((0 : Int), ((0 : Int), (ByteArray.empty, ([], ((0 : Nat), ((0 : Int), ()))))))))).2.2.2.2.2.1, (((a6).getD ((IntKind.wrap .i64 (a16 - a11)) : Int).toNat ((0 : Int), ((0 : Int), ((0 : Int), ((0 : Int), (ByteArray.empty, ([], ((0 : Nat), ((0 : Int), ()))))))))).2.2.2.2.2.2.1, (((a6).getD ((IntKind.wrap .i64 (a16 - a11)) : Int).toNat ((0 : Int), ((0 : Int), ((0 : Int), ((0 : Int), (ByteArray.empty, ([], ((0 : Nat), ((0 : Int), ()))))))))).2.2.2.2.2.2.2.1, ()))))))))).bind fun y155 => (bif (!y155.1.1) then (some (.inl ((a0, a5, a6, (), (), a11, a12, a14, false, (IntKind.wrap .i64 (a16 + 1)), ()), ((b0_0, b0_1, b0_2, (), ()), (b1_0, b1_1, b1_2, (), ()), (b2_0, ()), (b3_0, ()), ()), ()))) else (some (.inl ((a0, a5, a6, (), (), a11, a12, a14, a15, (IntKind.wrap .i64 (a16 + 1)), ()), ((b0_0, b0_1, b0_2, (), ()), (b1_0, b1_1, b1_2, (), ()), (b2_0, ()), (b3_0, ()), ()), ()))))) else none) else none) else (some (.inl ((a0, a5, a6, (), (), a11, a12, a14, a15, (IntKind.wrap .i64 (a16 + 1)), ()), ((b0_0, b0_1, b0_2, (), ()), (b1_0, b1_1, b1_2, (), ()), (b2_0, ()), (b3_0, ()), ()), ())))) else (some (.inr ((a15, ()), ((b0_0, b0_1, b0_2, (), ()), (b1_0, b1_1, b1_2, (), ()), (b2_0, ()), (b3_0, ()), ()), ()))))
noncomputable def L8_20 (a0 : (List Int)) (a5 : (List (Int × (Int × (Int × (Int × (ByteArray × ((List Int) × (Nat × (Int × Unit)))))))))) (a6 : (List (Int × (Int × (Int × (Int × (ByteArray × ((List Int) × (Nat × (Int × Unit)))))))))) (a11 : Int) (a12 : Int) (a14 : Int) (a15 : Bool) (a16 : Int) (b0_0 : Int) (b0_1 : Int) (b0_2 : Int) (b1_0 : Int) (b1_1 : Int) (b1_2 : Int) (b2_0 : (List Int)) (b3_0 : (List Int)) : Option ((Bool × Unit) × ((Int × (Int × (Int × (Unit × Unit)))) × ((Int × (Int × (Int × (Unit × Unit)))) × (((List Int) × Unit) × (((List Int) × Unit) × Unit)))) × Unit) := loopF (fun x : (((List Int) × ((List (Int × (Int × (Int × (Int × (ByteArray × ((List Int) × (Nat × (Int × Unit))))))))) × ((List (Int × (Int × (Int × (Int × (ByteArray × ((List Int) × (Nat × (Int × Unit))))))))) × (Unit × (Unit × (Int × (Int × (Int × (Bool × (Int × Unit)))))))))) × ((Int × (Int × (Int × (Unit × Unit)))) × ((Int × (Int × (Int × (Unit × Unit)))) × (((List Int) × Unit) × (((List Int) × Unit) × Unit)))) × Unit) => T8_20 x.1.1 x.1.2.1 x.1.2.2.1 x.1.2.2.2.2.2.1 x.1.2.2.2.2.2.2.1 x.1.2.2.2.2.2.2.2.1 x.1.2.2.2.2.2.2.2.2.1 x.1.2.2.2.2.2.2.2.2.2.1 x.2.1.1.1 x.2.1.1.2.1 x.2.1.1.2.2.1 x.2.1.2.1.1 x.2.1.2.1.2.1 x.2.1.2.1.2.2.1 x.2.1.2.2.1.1 x.2.1.2.2.2.1.1) ((a0, a5, a6, (), (), a11, a12, a14, a15, a16, ()), ((b0_0, b0_1, b0_2, (), ()), (b1_0, b1_1, b1_2, (), ()), (b2_0, ()), (b3_0, ()), ()), ())
theorem L8_20_eq (a0 : (List Int)) (a5 : (List (Int × (Int × (Int × (Int × (ByteArray × ((List Int) × (Nat × (Int × Unit)))))))))) (a6 : (List (Int × (Int × (Int × (Int × (ByteArray × ((List Int) × (Nat × (Int × Unit)))))))))) (a11 : Int) (a12 : Int) (a14 : Int) (a15 : Bool) (a16 : Int) (b0_0 : Int) (b0_1 : Int) (b0_2 : Int) (b1_0 : Int) (b1_1 : Int) (b1_2 : Int) (b2_0 : (List Int)) (b3_0 : (List Int)) : L8_20 a0 a5 a6 a11 a12 a14 a15 a16 b0_0 b0_1 b0_2 b1_0 b1_1 b1_2 b2_0 b3_0 = (T8_20 a0 a5 a6 a11 a12 a14 a15 a16 b0_0 b0_1 b0_2 b1_0 b1_1 b1_2 b2_0 b3_0).bind (Sum.elim (fun x => L8_20 x.1.1 x.1.2.1 x.1.2.2.1 x.1.2.2.2.2.2.1 x.1.2.2.2.2.2.2.1 x.1.2.2.2.2.2.2.2.1 x.1.2.2.2.2.2.2.2.2.1 x.1.2.2.2.2.2.2.2.2.2.1 x.2.1.1.1 x.2.1.1.2.1 x.2.1.1.2.2.1 x.2.1.2.1.1 x.2.1.2.1.2.1 x.2.1.2.1.2.2.1 x.2.1.2.2.1.1 x.2.1.2.2.2.1.1) some) := loopF_eq _ _
noncomputable def k8_20 : Con := ⟨i8_20, o8_20, fun x => L8_20 x.1.1 x.1.2.1 x.1.2.2.1 x.1.2.2.2.2.2.1 x.1.2.2.2.2.2.2.1 x.1.2.2.2.2.2.2.2.1 x.1.2.2.2.2.2.2.2.2.1 x.1.2.2.2.2.2.2.2.2.2.1 x.2.1.1.1 x.2.1.1.2.1 x.2.1.1.2.2.1 x.2.1.2.1.1 x.2.1.2.1.2.1 x.2.1.2.1.2.2.1 x.2.1.2.2.1.1 x.2.1.2.2.2.1.1⟩
theorem e8_20 (x : i8_20.E) : vround Try.prog C8_20 LO8_20 Try.f8.ntmps l8_20 i8_20 o8_20 x = T8_20 x.1.1 x.1.2.1 x.1.2.2.1 x.1.2.2.2.2.2.1 x.1.2.2.2.2.2.2.1 x.1.2.2.2.2.2.2.2.1 x.1.2.2.2.2.2.2.2.2.1 x.1.2.2.2.2.2.2.2.2.2.1 x.2.1.1.1 x.2.1.1.2.1 x.2.1.1.2.2.1 x.2.1.2.1.1 x.2.1.2.1.2.1 x.2.1.2.1.2.2.1 x.2.1.2.2.1.1 x.2.1.2.2.2.1.1 := by kernel_rfl
theorem k8_20_ok : Con.LOK Try.prog Try.f8.ntmps l8_20 k8_20 := (loop_ok C8_20_ok (loops_of (l := []) (by kernel_rfl) (show LoopsOK Try.prog Try.f8.ntmps [] LO8_20 from trivial)) i8_20 o8_20).congr fun x => (congrArg (fun T => loopF T x) (funext e8_20)).symm
noncomputable def C8_11 : Tab := [(28, c28)]
theorem C8_11_ok : TabOK Try.prog C8_11 := ⟨c28_ok, trivial⟩
noncomputable def LO8_11 : Tab := [(15, k8_15), (20, k8_20)]
noncomputable def i8_11 : Tm := { sl := [(0, .v (.l (.i .u8))), (5, .v (.l (.p (.i .i64) (.p (.i .u64) (.p (.i .u64) (.p (.i .u8) (.p .s (.p (.l (.i .u8)) (.p (.f .f64) (.p (.i .i64) .u)))))))))), (6, .v (.l (.p (.i .i64) (.p (.i .u64) (.p (.i .u64) (.p (.i .u8) (.p .s (.p (.l (.i .u8)) (.p (.f .f64) (.p (.i .i64) .u)))))))))), (7, .p 0 0), (9, .p 1 0), (11, .v (.i .i64)), (12, .v (.i .i64))], bx := [[.v (.i .u64), .v (.i .i64), .v (.i .i64), .m (.i .u64) 2], [.v (.i .u64), .v (.i .i64), .v (.i .i64), .m (.i .u64) 3], [.r (.i .u64)], [.r (.i .u64)]], bf := [] }
noncomputable def o8_11 : OT := (.two (.ret { sl := [(4, .v .b)], bx := [[.v (.i .u64), .v (.i .i64), .v (.i .i64), .m (.i .u64) 2], [.v (.i .u64), .v (.i .i64), .v (.i .i64), .m (.i .u64) 3], [.r (.i .u64)], [.r (.i .u64)]], bf := [] }) (.exit 2 { sl := [], bx := [[.v (.i .u64), .v (.i .i64), .v (.i .i64), .m (.i .u64) 2], [.v (.i .u64), .v (.i .i64), .v (.i .i64), .m (.i .u64) 3], [.r (.i .u64)], [.r (.i .u64)]], bf := [] }))
noncomputable def T8_11 (a0 : (List Int)) (a5 : (List (Int × (Int × (Int × (Int × (ByteArray × ((List Int) × (Nat × (Int × Unit)))))))))) (a6 : (List (Int × (Int × (Int × (Int × (ByteArray × ((List Int) × (Nat × (Int × Unit)))))))))) (a11 : Int) (a12 : Int) (b0_0 : Int) (b0_1 : Int) (b0_2 : Int) (b1_0 : Int) (b1_1 : Int) (b1_2 : Int) (b2_0 : (List Int)) (b3_0 : (List Int)) : Option ((((List Int) × ((List (Int × (Int × (Int × (Int × (ByteArray × ((List Int) × (Nat × (Int × Unit))))))))) × ((List (Int × (Int × (Int × (Int × (ByteArray × ((List Int) × (Nat × (Int × Unit))))))))) × (Unit × (Unit × (Int × (Int × Unit))))))) × ((Int × (Int × (Int × (Unit × Unit)))) × ((Int × (Int × (Int × (Unit × Unit)))) × (((List Int) × Unit) × (((List Int) × Unit) × Unit)))) × Unit) ⊕ (((Bool × Unit) × ((Int × (Int × (Int × (Unit × Unit)))) × ((Int × (Int × (Int × (Unit × Unit)))) × (((List Int) × Unit) × (((List Int) × Unit) × Unit)))) × Unit) ⊕ (Unit × ((Int × (Int × (Int × (Unit × Unit)))) × ((Int × (Int × (Int × (Unit × Unit)))) × (((List Int) × Unit) × (((List Int) × Unit) × Unit)))) × Unit))) :=
  (bif (decide ((a12 : Int) > 0)) then ((L8_15 a0 a5 a6 a11 a12 a12 a12 b0_0 b0_1 b0_2 b1_0 b1_1 b1_2 b2_0 b3_0).bind fun y159 => ((L8_20 a0 a5 a6 a11 a12 y159.1.2.1 true y159.1.1 y159.2.1.1.1 y159.2.1.1.2.1 y159.2.1.1.2.2.1 y159.2.1.2.1.1 y159.2.1.2.1.2.1 y159.2.1.2.1.2.2.1 y159.2.1.2.2.1.1 y159.2.1.2.2.2.1.1).bind fun y160 => ((F28 a12 y160.2.1.1.1 y160.2.1.1.2.1 y160.2.1.1.2.2.1 y160.2.1.2.2.1.1).bind fun y161 => ((F28 a12 y160.2.1.2.1.1 y160.2.1.2.1.2.1 y160.2.1.2.1.2.2.1 y160.2.1.2.2.2.1.1).bind fun y162 => (bif y160.1.1 then (bif ((y161.1.1 : Int) != y162.1.1) then (some (.inr (.inl ((false, ()), ((y161.2.1.1.1, y161.2.1.1.2.1, y161.2.1.1.2.2.1, (), ()), (y162.2.1.1.1, y162.2.1.1.2.1, y162.2.1.1.2.2.1, (), ()), (y161.2.1.2.1.1, ()), (y162.2.1.2.1.1, ()), ()), ())))) else (bif (!y160.1.1) then (bif ((y161.1.1 : Int) == y162.1.1) then (some (.inr (.inl ((true, ()), ((y161.2.1.1.1, y161.2.1.1.2.1, y161.2.1.1.2.2.1, (), ()), (y162.2.1.1.1, y162.2.1.1.2.1, y162.2.1.1.2.2.1, (), ()), (y161.2.1.2.1.1, ()), (y162.2.1.2.1.1, ()), ()), ())))) else (some (.inl ((a0, a5, a6, (), (), a11, (IntKind.wrap .i64 (a12 - 1)), ()), ((y161.2.1.1.1, y161.2.1.1.2.1, y161.2.1.1.2.2.1, (), ()), (y162.2.1.1.1, y162.2.1.1.2.1, y162.2.1.1.2.2.1, (), ()), (y161.2.1.2.1.1, ()), (y162.2.1.2.1.1, ()), ()), ())))) else (some (.inl ((a0, a5, a6, (), (), a11, (IntKind.wrap .i64 (a12 - 1)), ()), ((y161.2.1.1.1, y161.2.1.1.2.1, y161.2.1.1.2.2.1, (), ()), (y162.2.1.1.1, y162.2.1.1.2.1, y162.2.1.1.2.2.1, (), ()), (y161.2.1.2.1.1, ()), (y162.2.1.2.1.1, ()), ()), ()))))) else (bif (!y160.1.1) then (bif ((y161.1.1 : Int) == y162.1.1) then (some (.inr (.inl ((true, ()), ((y161.2.1.1.1, y161.2.1.1.2.1, y161.2.1.1.2.2.1, (), ()), (y162.2.1.1.1, y162.2.1.1.2.1, y162.2.1.1.2.2.1, (), ()), (y161.2.1.2.1.1, ()), (y162.2.1.2.1.1, ()), ()), ())))) else (some (.inl ((a0, a5, a6, (), (), a11, (IntKind.wrap .i64 (a12 - 1)), ()), ((y161.2.1.1.1, y161.2.1.1.2.1, y161.2.1.1.2.2.1, (), ()), (y162.2.1.1.1, y162.2.1.1.2.1, y162.2.1.1.2.2.1, (), ()), (y161.2.1.2.1.1, ()), (y162.2.1.2.1.1, ()), ()), ())))) else (some (.inl ((a0, a5, a6, (), (), a11, (IntKind.wrap .i64 (a12 - 1)), ()), ((y161.2.1.1.1, y161.2.1.1.2.1, y161.2.1.1.2.2.1, (), ()), (y162.2.1.1.1, y162.2.1.1.2.1, y162.2.1.1.2.2.1, (), ()), (y161.2.1.2.1.1, ()), (y162.2.1.2.1.1, ()), ()), ()))))))))) else (some (.inr (.inr ((), ((b0_0, b0_1, b0_2, (), ()), (b1_0, b1_1, b1_2, (), ()), (b2_0, ()), (b3_0, ()), ()), ())))))
noncomputable def L8_11 (a0 : (List Int)) (a5 : (List (Int × (Int × (Int × (Int × (ByteArray × ((List Int) × (Nat × (Int × Unit)))))))))) (a6 : (List (Int × (Int × (Int × (Int × (ByteArray × ((List Int) × (Nat × (Int × Unit)))))))))) (a11 : Int) (a12 : Int) (b0_0 : Int) (b0_1 : Int) (b0_2 : Int) (b1_0 : Int) (b1_1 : Int) (b1_2 : Int) (b2_0 : (List Int)) (b3_0 : (List Int)) : Option (((Bool × Unit) × ((Int × (Int × (Int × (Unit × Unit)))) × ((Int × (Int × (Int × (Unit × Unit)))) × (((List Int) × Unit) × (((List Int) × Unit) × Unit)))) × Unit) ⊕ (Unit × ((Int × (Int × (Int × (Unit × Unit)))) × ((Int × (Int × (Int × (Unit × Unit)))) × (((List Int) × Unit) × (((List Int) × Unit) × Unit)))) × Unit)) := loopF (fun x : (((List Int) × ((List (Int × (Int × (Int × (Int × (ByteArray × ((List Int) × (Nat × (Int × Unit))))))))) × ((List (Int × (Int × (Int × (Int × (ByteArray × ((List Int) × (Nat × (Int × Unit))))))))) × (Unit × (Unit × (Int × (Int × Unit))))))) × ((Int × (Int × (Int × (Unit × Unit)))) × ((Int × (Int × (Int × (Unit × Unit)))) × (((List Int) × Unit) × (((List Int) × Unit) × Unit)))) × Unit) => T8_11 x.1.1 x.1.2.1 x.1.2.2.1 x.1.2.2.2.2.2.1 x.1.2.2.2.2.2.2.1 x.2.1.1.1 x.2.1.1.2.1 x.2.1.1.2.2.1 x.2.1.2.1.1 x.2.1.2.1.2.1 x.2.1.2.1.2.2.1 x.2.1.2.2.1.1 x.2.1.2.2.2.1.1) ((a0, a5, a6, (), (), a11, a12, ()), ((b0_0, b0_1, b0_2, (), ()), (b1_0, b1_1, b1_2, (), ()), (b2_0, ()), (b3_0, ()), ()), ())
theorem L8_11_eq (a0 : (List Int)) (a5 : (List (Int × (Int × (Int × (Int × (ByteArray × ((List Int) × (Nat × (Int × Unit)))))))))) (a6 : (List (Int × (Int × (Int × (Int × (ByteArray × ((List Int) × (Nat × (Int × Unit)))))))))) (a11 : Int) (a12 : Int) (b0_0 : Int) (b0_1 : Int) (b0_2 : Int) (b1_0 : Int) (b1_1 : Int) (b1_2 : Int) (b2_0 : (List Int)) (b3_0 : (List Int)) : L8_11 a0 a5 a6 a11 a12 b0_0 b0_1 b0_2 b1_0 b1_1 b1_2 b2_0 b3_0 = (T8_11 a0 a5 a6 a11 a12 b0_0 b0_1 b0_2 b1_0 b1_1 b1_2 b2_0 b3_0).bind (Sum.elim (fun x => L8_11 x.1.1 x.1.2.1 x.1.2.2.1 x.1.2.2.2.2.2.1 x.1.2.2.2.2.2.2.1 x.2.1.1.1 x.2.1.1.2.1 x.2.1.1.2.2.1 x.2.1.2.1.1 x.2.1.2.1.2.1 x.2.1.2.1.2.2.1 x.2.1.2.2.1.1 x.2.1.2.2.2.1.1) some) := loopF_eq _ _
noncomputable def k8_11 : Con := ⟨i8_11, o8_11, fun x => L8_11 x.1.1 x.1.2.1 x.1.2.2.1 x.1.2.2.2.2.2.1 x.1.2.2.2.2.2.2.1 x.2.1.1.1 x.2.1.1.2.1 x.2.1.1.2.2.1 x.2.1.2.1.1 x.2.1.2.1.2.1 x.2.1.2.1.2.2.1 x.2.1.2.2.1.1 x.2.1.2.2.2.1.1⟩
theorem e8_11 (x : i8_11.E) : vround Try.prog C8_11 LO8_11 Try.f8.ntmps l8_11 i8_11 o8_11 x = T8_11 x.1.1 x.1.2.1 x.1.2.2.1 x.1.2.2.2.2.2.1 x.1.2.2.2.2.2.2.1 x.2.1.1.1 x.2.1.1.2.1 x.2.1.1.2.2.1 x.2.1.2.1.1 x.2.1.2.1.2.1 x.2.1.2.1.2.2.1 x.2.1.2.2.1.1 x.2.1.2.2.2.1.1 := by kernel_rfl
theorem k8_11_ok : Con.LOK Try.prog Try.f8.ntmps l8_11 k8_11 := (loop_ok C8_11_ok (loops_of (l := [l8_15, l8_20]) (by kernel_rfl) (show LoopsOK Try.prog Try.f8.ntmps [l8_15, l8_20] LO8_11 from ⟨k8_15_ok, k8_20_ok, trivial⟩)) i8_11 o8_11).congr fun x => (congrArg (fun T => loopF T x) (funext e8_11)).symm
noncomputable def C8_32 : Tab := [(33, c33)]
theorem C8_32_ok : TabOK Try.prog C8_32 := ⟨c33_ok, trivial⟩
noncomputable def LO8_32 : Tab := []
noncomputable def i8_32 : Tm := { sl := [(0, .v (.l (.i .u8))), (5, .v (.l (.p (.i .i64) (.p (.i .u64) (.p (.i .u64) (.p (.i .u8) (.p .s (.p (.l (.i .u8)) (.p (.f .f64) (.p (.i .i64) .u)))))))))), (6, .v (.l (.p (.i .i64) (.p (.i .u64) (.p (.i .u64) (.p (.i .u8) (.p .s (.p (.l (.i .u8)) (.p (.f .f64) (.p (.i .i64) .u)))))))))), (21, .v (.i .u64)), (23, .v .b), (24, .v (.i .i64))], bx := [], bf := [] }
noncomputable def o8_32 : OT := (.two (.ret { sl := [(4, .v .b)], bx := [], bf := [] }) (.exit 8 { sl := [], bx := [], bf := [] }))
noncomputable def T8_32 (a0 : (List Int)) (a5 : (List (Int × (Int × (Int × (Int × (ByteArray × ((List Int) × (Nat × (Int × Unit)))))))))) (a6 : (List (Int × (Int × (Int × (Int × (ByteArray × ((List Int) × (Nat × (Int × Unit)))))))))) (a21 : Int) (a23 : Bool) (a24 : Int) : Option ((((List Int) × ((List (Int × (Int × (Int × (Int × (ByteArray × ((List Int) × (Nat × (Int × Unit))))))))) × ((List (Int × (Int × (Int × (Int × (ByteArray × ((List Int) × (Nat × (Int × Unit))))))))) × (Int × (Bool × (Int × Unit)))))) × Unit × Unit) ⊕ (((Bool × Unit) × Unit × Unit) ⊕ (Unit × Unit × Unit))) :=
  (bif (decide ((a24 : Int) < (((a0).length : Nat) : Int))) then (bif (decide (0 ≤ (a24 : Int) ∧ (a24 : Int) < (((a5).length : Nat) : Int))) then (bif (decide (0 ≤ (a24 : Int) ∧ (a24 : Int) < (((a6).length : Nat) : Int))) then ((F33 (((a5).getD (a24 : Int).toNat ((0 : Int), ((0 : Int), ((0 : Int), ((0 : Int), (ByteArray.empty, ([], ((0 : Nat), ((0 : Int), ()))))))))).1, (((a5).getD (a24 : Int).toNat ((0 : Int), ((0 : Int), ((0 : Int), ((0 : Int), (ByteArray.empty, ([], ((0 : Nat), ((0 : Int), ()))))))))).2.1, (((a5).getD (a24 : Int).toNat ((0 : Int), ((0 : Int), ((0 : Int), ((0 : Int), (ByteArray.empty, ([], ((0 : Nat), ((0 : Int), ()))))))))).2.2.1, (((a5).getD (a24 : Int).toNat ((0 : Int), ((0 : Int), ((0 : Int), ((0 : Int), (ByteArray.empty, ([], ((0 : Nat), ((0 : Int), ()))))))))).2.2.2.1, (((a5).getD (a24 : Int).toNat ((0 : Int), ((0 : Int), ((0 : Int), ((0 : Int), (ByteArray.empty, ([], ((0 : Nat), ((0 : Int), ()))))))))).2.2.2.2.1, (((a5).getD (a24 : Int).toNat ((0 : Int), ((0 : Int), ((0 : Int), ((0 : Int), (ByteArray.empty, ([], ((0 : Nat), ((0 : Int), ()))))))))).2.2.2.2.2.1, (((a5).getD (a24 : Int).toNat ((0 : Int), ((0 : Int), ((0 : Int), ((0 : Int), (ByteArray.empty, ([], ((0 : Nat), ((0 : Int), ()))))))))).2.2.2.2.2.2.1, (((a5).getD (a24 : Int).toNat ((0 : Int), ((0 : Int), ((0 : Int), ((0 : Int), (ByteArray.empty, ([], ((0 : Nat), ((0 : Int), ()))))))))).2.2.2.2.2.2.2.1, ())))))))) (((a6).getD (a24 : Int).toNat ((0 : Int), ((0 : Int), ((0 : Int), ((0 : Int), (ByteArray.empty, ([], ((0 : Nat), ((0 : Int), ()))))))))).1, (((a6).getD (a24 : Int).toNat ((0 : Int), ((0 : Int), ((0 : Int), ((0 : Int), (ByteArray.empty, ([], ((0 : Nat), ((0 : Int), ()))))))))).2.1, (((a6).getD (a24 : Int).toNat ((0 : Int), ((0 : Int), ((0 : Int), ((0 : Int), (ByteArray.empty, ([], ((0 : Nat), ((0 : Int), ()))))))))).2.2.1, (((a6).getD (a24 : Int).toNat ((0 : Int), ((0 : Int), ((0 : Int), ((0 : Int), (ByteArray.empty, ([], ((0 : Nat), ((0 : Int), ()))))))))).2.2.2.1, (((a6).getD (a24 : Int).toNat ((0 : Int), ((0 : Int), ((0 : Int), ((0 : Int), (ByteArray.empty, ([], ((0 : Nat), ((0 : Int), ()))))))))).2.2.2.2.1, (((a6).getD (a24 : Int).toNat ((0 : Int), ((0 : Int), ((0 : Int), ((0 : Int), (ByteArray.empty, ([], ((0 : Nat), ((0 : Int), ()))))))))).2.2.2.2.2.1, (((a6).getD (a24 : Int).toNat ((0 : Int), ((0 : Int), ((0 : Int), ((0 : Int), (ByteArray.empty, ([], ((0 : Nat), ((0 : Int), ()))))))))).2.2.2.2.2.2.1, (((a6).getD (a24 : Int).toNat ((0 : Int), ((0 : Int), ((0 : Int), ((0 : Int), (ByteArray.empty, ([], ((0 : Nat), ((0 : Int), ()))))))))).2.2.2.2.2.2.2.1, ()))))))))).bind fun y167 => (bif (!y167.1.1) then (bif a23 then (some (.inr (.inl ((((a21 : Int) == (IntKind.wrap .u64 ((IntKind.wrap .u64 a24) + 1))), ()), (), ())))) else (some (.inr (.inl ((false, ()), (), ()))))) else (some (.inl ((a0, a5, a6, a21, a23, (IntKind.wrap .i64 (a24 + 1)), ()), (), ()))))) else none) else none) else (some (.inr (.inr ((), (), ())))))
noncomputable def L8_32 (a0 : (List Int)) (a5 : (List (Int × (Int × (Int × (Int × (ByteArray × ((List Int) × (Nat × (Int × Unit)))))))))) (a6 : (List (Int × (Int × (Int × (Int × (ByteArray × ((List Int) × (Nat × (Int × Unit)))))))))) (a21 : Int) (a23 : Bool) (a24 : Int) : Option (((Bool × Unit) × Unit × Unit) ⊕ (Unit × Unit × Unit)) := loopF (fun x : (((List Int) × ((List (Int × (Int × (Int × (Int × (ByteArray × ((List Int) × (Nat × (Int × Unit))))))))) × ((List (Int × (Int × (Int × (Int × (ByteArray × ((List Int) × (Nat × (Int × Unit))))))))) × (Int × (Bool × (Int × Unit)))))) × Unit × Unit) => T8_32 x.1.1 x.1.2.1 x.1.2.2.1 x.1.2.2.2.1 x.1.2.2.2.2.1 x.1.2.2.2.2.2.1) ((a0, a5, a6, a21, a23, a24, ()), (), ())
theorem L8_32_eq (a0 : (List Int)) (a5 : (List (Int × (Int × (Int × (Int × (ByteArray × ((List Int) × (Nat × (Int × Unit)))))))))) (a6 : (List (Int × (Int × (Int × (Int × (ByteArray × ((List Int) × (Nat × (Int × Unit)))))))))) (a21 : Int) (a23 : Bool) (a24 : Int) : L8_32 a0 a5 a6 a21 a23 a24 = (T8_32 a0 a5 a6 a21 a23 a24).bind (Sum.elim (fun x => L8_32 x.1.1 x.1.2.1 x.1.2.2.1 x.1.2.2.2.1 x.1.2.2.2.2.1 x.1.2.2.2.2.2.1) some) := loopF_eq _ _
noncomputable def k8_32 : Con := ⟨i8_32, o8_32, fun x => L8_32 x.1.1 x.1.2.1 x.1.2.2.1 x.1.2.2.2.1 x.1.2.2.2.2.1 x.1.2.2.2.2.2.1⟩
theorem e8_32 (x : i8_32.E) : vround Try.prog C8_32 LO8_32 Try.f8.ntmps l8_32 i8_32 o8_32 x = T8_32 x.1.1 x.1.2.1 x.1.2.2.1 x.1.2.2.2.1 x.1.2.2.2.2.1 x.1.2.2.2.2.2.1 := by kernel_rfl
theorem k8_32_ok : Con.LOK Try.prog Try.f8.ntmps l8_32 k8_32 := (loop_ok C8_32_ok (loops_of (l := []) (by kernel_rfl) (show LoopsOK Try.prog Try.f8.ntmps [] LO8_32 from trivial)) i8_32 o8_32).congr fun x => (congrArg (fun T => loopF T x) (funext e8_32)).symm
noncomputable def C8 : Tab := [(16, c16), (17, c17), (18, c18), (19, c19), (28, c28), (33, c33)]
theorem C8_ok : TabOK Try.prog C8 := ⟨c16_ok, c17_ok, c18_ok, c19_ok, c28_ok, c33_ok, trivial⟩
noncomputable def LO8 : Tab := [(8, k8_8), (11, k8_11), (32, k8_32)]
noncomputable def i8 : Tm := { sl := [(0, .v (.l (.i .u8))), (1, .v (.l (.i .u8)))], bx := [], bf := [] }
noncomputable def o8 : OT := (.ret { sl := [(0, .v .b)], bx := [], bf := [] })
/-- anabranch/anabranchlaw26.SumsFirst -/
noncomputable def F8 (a0 : (List Int)) (a1 : (List Int)) : Option ((Bool × Unit) × Unit × Unit) :=
  ((F16).bind fun y143 => (bif (!y143.1.1) then ((F16).bind fun y144 => (some ((y144.1.1, ()), (), ()))) else (bif (((((a0).length : Nat) : Int) : Int) == 0) then ((F16).bind fun y145 => (some ((y145.1.1, ()), (), ()))) else (bif (decide (((((a0).length : Nat) : Int) : Int) > 30)) then ((F16).bind fun y146 => (some ((y146.1.1, ()), (), ()))) else (bif (decide (((((a1).length : Nat) : Int) : Int) < (((a0).length : Nat) : Int))) then ((F16).bind fun y147 => (some ((y147.1.1, ()), (), ()))) else ((F17 a0 1).bind fun y148 => (bif (decide (0 ≤ ((((a0).length : Nat) : Int) : Int) ∧ ((((a0).length : Nat) : Int) : Int) ≤ (((a1).length : Nat) : Int))) then ((F17 ((a1).take ((((a0).length : Nat) : Int) : Int).toNat) 1).bind fun y149 => ((F18 y148.1.1).bind fun y150 => ((F18 y149.1.1).bind fun y151 => ((L8_8 a0 y148.1.1 y149.1.1 1 y150.2.1.1.1 y150.2.1.1.2.1 y150.2.1.1.2.2.1 y151.2.1.1.1 y151.2.1.1.2.1 y151.2.1.1.2.2.1 y150.2.1.2.1.1 y151.2.1.2.1.1).bind fun y152 => ((L8_11 a0 y148.1.1 y149.1.1 y152.1.1 (IntKind.wrap .i64 ((IntKind.wrap .i64 (2 * y152.1.1)) - 1)) y152.2.1.1.1 y152.2.1.1.2.1 y152.2.1.1.2.2.1 y152.2.1.2.1.1 y152.2.1.2.1.2.1 y152.2.1.2.1.2.2.1 y152.2.1.2.2.1.1 y152.2.1.2.2.2.1.1).bind fun y163 => (Sum.elim (fun y164 => (some ((y164.1.1, ()), (), ()))) (fun y164 => ((F19 y164.2.1.1.1 y164.2.1.1.2.1 y164.2.1.1.2.2.1 y164.2.1.2.1.1 y164.2.1.2.1.2.1 y164.2.1.2.1.2.2.1 y164.2.1.2.2.1.1 y164.2.1.2.2.2.1.1).bind fun y165 => ((L8_32 a0 y148.1.1 y149.1.1 y165.1.1 y165.1.2.2.1 0).bind fun y168 => (Sum.elim (fun y169 => (some ((y169.1.1, ()), (), ()))) (fun y169 => (some (((!y165.1.2.2.1), ()), (), ()))) y168)))) y163)))))) else none)))))))
noncomputable def c8 : Con := ⟨i8, o8, fun x => F8 x.1.1 x.1.2.1⟩
theorem e8 (x : i8.E) : vfn Try.prog C8 LO8 Try.f8 b8 i8 o8 x = F8 x.1.1 x.1.2.1 := by kernel_rfl
theorem c8_ok : Con.OK Try.prog 8 c8 := (fn_ok C8_ok Try.func8 body8 (loops_of (l := [l8_8, l8_11, l8_32]) (by kernel_rfl) (show LoopsOK Try.prog Try.f8.ntmps [l8_8, l8_11, l8_32] LO8 from ⟨k8_8_ok, k8_11_ok, k8_32_ok, trivial⟩)) i8 o8).congr fun x => (e8 x).symm
end Go.IM.V

/- The value machine: texts held against one another. -/
set_option linter.unusedVariables false
set_option linter.unusedSimpArgs false
namespace Go.IM.V
open Go Go.IM

theorem toList_loop (bs : ByteArray) : ∀ (d i : Nat) (r : List UInt8), i + d = bs.size → ByteArray.toList.loop bs i r = r.reverse ++ bs.data.toList.drop i := by
  intro d
  induction d with
  | zero =>
    intro i r h
    unfold ByteArray.toList.loop
    rw [if_neg (by omega), List.drop_eq_nil_of_le (by simp; omega), List.append_nil]
  | succ d ih =>
    intro i r h
    have hs : bs.size = bs.data.toList.length := by simp
    unfold ByteArray.toList.loop
    rw [if_pos (by omega), ih (i + 1) _ (by omega), List.drop_eq_getElem_cons (l := bs.data.toList) (i := i) (by omega)]
    have hlt : i < bs.data.size := by have : bs.size = bs.data.size := rfl; omega
    have : bs.get! i = bs.data.toList[i]'(by omega) := by
      show bs.data[i]! = _
      rw [getElem!_pos bs.data i hlt]
      simp
    simp [this]
theorem toListB (bs : ByteArray) : bs.toList = bs.data.toList := by
  have := toList_loop bs bs.size 0 [] (by omega)
  unfold ByteArray.toList
  rw [this]; simp
theorem strL_toList (l : List Int) : (strL l).toList = l.map fun n => UInt8.ofNat n.toNat := by rw [toListB]; simp [strL]
theorem strL_beq {a b : List Int} (ha : ∀ x ∈ a, 0 ≤ x ∧ x < 256) (hb : ∀ x ∈ b, 0 ≤ x ∧ x < 256) : ((strL a).toList == (strL b).toList) = decide (a = b) := by
  rw [strL_toList, strL_toList, Bool.eq_iff_iff, beq_iff_eq, decide_eq_true_iff]
  constructor
  · intro h
    have back : ∀ l : List Int, (∀ x ∈ l, 0 ≤ x ∧ x < 256) → (l.map fun n => UInt8.ofNat n.toNat).map (fun b => (b.toNat : Int)) = l := by
      intro l hl
      rw [List.map_map]
      conv => rhs; rw [← List.map_id l]
      apply List.map_congr_left
      intro x hx
      have := hl x hx
      simp [UInt8.toNat_ofNat']
      omega
    rw [← back a ha, ← back b hb, h]
  · intro h; rw [h]
end Go.IM.V

/- Digits and events: what the printed functions tell. -/
set_option linter.unusedVariables false
set_option linter.unusedSimpArgs false
set_option linter.constructorNameAsVariable false
namespace Go.IM.V
open Go Go.IM Go.Proofs

/-- A number as digits: seven bits each, the lowest first. -/
def dgF : Nat → Int → List Int
  | 0, n => [n]
  | f + 1, n => if n < 128 then [n] else (128 + n % 128) :: dgF f (n / 128)
def dg (n : Int) : List Int := dgF 9 n
theorem dgF_len : ∀ (f : Nat) (n : Int), (dgF f n).length ≤ f + 1
  | 0, _ => by simp [dgF]
  | f + 1, n => by
    unfold dgF
    split
    · simp
    · have := dgF_len f (n / 128); simp; omega
theorem dg_len (n : Int) : (dg n).length ≤ 10 := dgF_len 9 n
theorem dgF_lt {f : Nat} {n : Int} (h : n < 128) : dgF f n = [n] := by
  cases f with
  | zero => rfl
  | succ f => unfold dgF; rw [if_pos h]
theorem or128' : ∀ a : Fin 256, iOr .u8 (a.val : Int) 128 = 128 + (a.val : Int) % 128 := by decide +kernel
theorem or128 (n : Int) : iOr .u8 (IntKind.wrap .u8 n) 128 = 128 + n % 128 := by
  rw [wu8_mod]
  have := or128' ⟨(n % 256).toNat, by omega⟩
  simp only at this
  rw [show (((n % 256).toNat : Nat) : Int) = n % 256 from by omega] at this
  rw [this]; omega
theorem shr7 {n : Int} (h : 0 ≤ n) : iShr .u64 n 7 = n / 128 := by
  unfold iShr
  show n.fdiv (2 ^ 7) = _
  rw [Int.fdiv_eq_ediv_of_nonneg _ (by omega)]
  rfl

theorem L58_run : ∀ (f : Nat) (n : Int) (q : List Int), 0 ≤ n → n < 128 ^ (f + 1) → q.length + f < lim →
    ∃ n' p, L58_1 n q = some (((), n', ()), (), (q ++ p, ())) ∧ 0 ≤ n' ∧ n' < 128 ∧ p ++ [n'] = dgF f n ∧ p.length ≤ f := by
  intro f
  induction f with
  | zero =>
    intro n q h0 h1 hq
    refine ⟨n, [], ?_, h0, by omega, rfl, by simp⟩
    rw [L58_1_eq]
    simp only [T58_1, cif]
    rw [if_neg (by omega)]
    simp
  | succ f ih =>
    intro n q h0 h1 hq
    by_cases hn : n < 128
    · refine ⟨n, [], ?_, h0, hn, by rw [dgF_lt hn]; rfl, by simp⟩
      rw [L58_1_eq]
      simp only [T58_1, cif]
      rw [if_neg (by omega)]
      simp
    · have hl : (q ++ [128 + n % 128]).length = q.length + 1 := by simp
      obtain ⟨n', p, e, a, b, c, d⟩ := ih (n / 128) (q ++ [128 + n % 128]) (by omega) (by rw [Int.pow_succ] at h1; omega) (by rw [hl]; omega)
      refine ⟨n', (128 + n % 128) :: p, ?_, a, b, ?_, by simp; omega⟩
      · rw [L58_1_eq]
        simp only [T58_1, cif]
        rw [if_pos (by omega), if_pos (by simp; omega), or128, shr7 h0]
        simp only [Option.bind_some, Sum.elim_inl]
        rw [e]
        simp
      · rw [dgF, if_neg hn, List.cons_append, c]
theorem F58_eq (n : Int) (q : List Int) (h0 : 0 ≤ n) (h1 : n < 18446744073709551616) (hq : q.length + 10 < lim) : F58 n q = some (ro (q ++ dg n)) := by
  obtain ⟨n', p, e, a, b, c, d⟩ := L58_run 9 n q h0 (by rw [show (128 : Int) ^ (9 + 1) = 1180591620717411303424 from by decide]; omega) (by omega)
  unfold F58
  rw [e]
  simp only [Option.bind_some, cif]
  rw [if_pos (by simp; omega), wu8_mod, Int.emod_eq_of_lt a (by omega), List.append_assoc, c]
  rfl
theorem L62_run : ∀ (f : Nat) (n : Int) (q : List Int), 0 ≤ n → n < 18446744073709551616 → n < 128 ^ (f + 1) → q.length + f < lim →
    ∃ n' p, L62_3 n q = some ((n', (), ()), (), (q ++ p, ())) ∧ 0 ≤ n' ∧ n' < 128 ∧ p ++ [n'] = dgF f n ∧ p.length ≤ f := by
  intro f
  induction f with
  | zero =>
    intro n q h0 h2 h1 hq
    refine ⟨n, [], ?_, h0, by omega, rfl, by simp⟩
    rw [L62_3_eq]
    simp only [T62_3, cif]
    rw [if_neg (by omega)]
    simp
  | succ f ih =>
    intro n q h0 h2 h1 hq
    by_cases hn : n < 128
    · refine ⟨n, [], ?_, h0, hn, by rw [dgF_lt hn]; rfl, by simp⟩
      rw [L62_3_eq]
      simp only [T62_3, cif]
      rw [if_neg (by omega)]
      simp
    · have hl : (q ++ [128 + n % 128]).length = q.length + 1 := by simp
      obtain ⟨n', p, e, a, b, c, d⟩ := ih (n / 128) (q ++ [128 + n % 128]) (by omega) (by omega) (by rw [Int.pow_succ] at h1; omega) (by rw [hl]; omega)
      refine ⟨n', (128 + n % 128) :: p, ?_, a, b, ?_, by simp; omega⟩
      · rw [L62_3_eq]
        simp only [T62_3, cif]
        rw [if_pos (by omega), if_pos (by simp; omega), Int.tmod_eq_emod_of_nonneg h0, Int.tdiv_eq_ediv_of_nonneg h0, wu64 (n := 128 + n % 128) (by omega) (by omega),
          wu8_mod, Int.emod_eq_of_lt (a := 128 + n % 128) (by omega) (by omega), wu64 (n := n / 128) (by omega) (by omega)]
        simp only [Option.bind_some, Sum.elim_inl]
        rw [e]
        simp
      · rw [dgF, if_neg hn, List.cons_append, c]
theorem F62_eq (q : List Int) (n : Int) (h0 : 0 ≤ n) (h1 : n < 18446744073709551616) (hq : q.length + 10 < lim) : F62 q n = some (ro (q ++ dg n)) := by
  obtain ⟨n', p, e, a, b, c, d⟩ := L62_run 9 n q h0 h1 (by rw [show (128 : Int) ^ (9 + 1) = 1180591620717411303424 from by decide]; omega) (by omega)
  unfold F62
  simp only [cif]
  rw [if_pos (by omega), e]
  simp only [Option.bind_some, cif]
  rw [if_pos (by simp; omega), wu8_mod, Int.emod_eq_of_lt a (by omega), List.append_assoc, c]
  rfl

/-- A text: how many bytes, and they. -/
def dgT (t : List Int) : List Int := dg t.length ++ t
theorem dgT_len (t : List Int) : (dgT t).length ≤ 10 + t.length := by unfold dgT; have := dg_len t.length; simp; omega
theorem F59_eq (t q : List Int) (ht : t.length < 4294967296) (hq : q.length + t.length + 10 < lim) : F59 t q = some (ro (q ++ dgT t)) := by
  unfold F59
  rw [wu64 (by omega) (by omega), F58_eq _ _ (by omega) (by omega) (by omega)]
  have := dg_len t.length
  simp only [Option.bind_some, cif]
  rw [if_pos (by simp; omega), List.append_assoc]
  rfl
theorem F63_eq (q t : List Int) (ht : t.length < 4294967296) (hq : q.length + t.length + 10 < lim) : F63 q t = some (ro (q ++ dgT t)) := by
  unfold F63
  rw [wu64 (by omega) (by omega), F62_eq _ _ (by omega) (by omega) (by omega)]
  have := dg_len t.length
  simp only [Option.bind_some, cif]
  rw [if_pos (by simp; omega), List.append_assoc]
  rfl

/-- A number in eight bytes, the highest first; the last k of these. -/
def fixF (n : Int) : Nat → List Int
  | 0 => []
  | k + 1 => (n / 256 ^ k) % 256 :: fixF n k
def fix8 (n : Int) : List Int := fixF n 8
theorem fixF_len (n : Int) : ∀ k, (fixF n k).length = k
  | 0 => rfl
  | k + 1 => by simp [fixF, fixF_len n k]
theorem shr8 {n : Int} (h : 0 ≤ n) (k : Nat) (hk : k < 8) : IntKind.wrap .u8 (iShr .u64 n ((8 * k : Nat) : Int)) = (n / 256 ^ k) % 256 := by
  rw [wu8_mod]
  unfold iShr
  rw [Int.toNat_natCast, Nat.min_eq_left (by show 8 * k ≤ 64; omega), Int.fdiv_eq_ediv_of_nonneg _ (by exact Int.le_of_lt (Int.pow_pos (by decide))), Int.pow_mul]
  rfl
theorem L60_run (n : Int) (h0 : 0 ≤ n) : ∀ (k : Nat) (q : List Int), k ≤ 8 → q.length + k < lim → L60_2 n ((k : Int) - 1) q = some (((), ()), (), (q ++ fixF n k, ())) := by
  intro k
  induction k with
  | zero =>
    intro q hk hq
    rw [L60_2_eq]
    simp only [T60_2, cif]
    rw [if_neg (by omega)]
    simp [fixF]
  | succ k ih =>
    intro q hk hq
    rw [L60_2_eq]
    simp only [T60_2, cif]
    have hw : IntKind.wrap .i64 (8 * (((k + 1 : Nat) : Int) - 1)) = ((8 * k : Nat) : Int) := by rw [w64 (by omega) (by omega)]; omega
    have hw2 : IntKind.wrap .i64 (((k + 1 : Nat) : Int) - 1 - 1) = (k : Int) - 1 := by rw [w64 (by omega) (by omega)]; omega
    rw [if_pos (by omega), hw, hw2, shr8 h0 k (by omega), if_pos (by omega), if_pos (by simp; omega)]
    simp only [Option.bind_some, Sum.elim_inl]
    rw [ih (q ++ [(n / 256 ^ k) % 256]) (by omega) (by simp; omega)]
    simp [fixF]
theorem F60_eq (n : Int) (q : List Int) (h0 : 0 ≤ n) (hq : q.length + 8 < lim) : F60 n q = some (ro (q ++ fix8 n)) := by
  unfold F60
  have := L60_run n h0 8 q (by omega) hq
  rw [show ((8 : Nat) : Int) - 1 = 7 from rfl] at this
  rw [this]
  rfl
theorem L64_run (n : Int) (h0 : 0 ≤ n) : ∀ (k : Nat) (q : List Int), k ≤ 8 → q.length + k < lim → L64_4 n (8 - (k : Int)) q = some (((), ()), (), (q ++ fixF n k, ())) := by
  intro k
  induction k with
  | zero =>
    intro q hk hq
    rw [L64_4_eq]
    simp only [T64_4, cif]
    rw [if_neg (by omega)]
    simp [fixF]
  | succ k ih =>
    intro q hk hq
    rw [L64_4_eq]
    simp only [T64_4, cif]
    have hw : IntKind.wrap .i64 (56 - IntKind.wrap .i64 (8 * (8 - ((k + 1 : Nat) : Int)))) = ((8 * k : Nat) : Int) := by
      rw [w64 (n := 8 * (8 - ((k + 1 : Nat) : Int))) (by omega) (by omega), w64 (by omega) (by omega)]; omega
    have hw2 : IntKind.wrap .i64 (8 - ((k + 1 : Nat) : Int) + 1) = 8 - (k : Int) := by rw [w64 (by omega) (by omega)]; omega
    rw [if_pos (by omega), hw, hw2, shr8 h0 k (by omega), if_pos (by omega), if_pos (by simp; omega)]
    simp only [Option.bind_some, Sum.elim_inl]
    rw [ih (q ++ [(n / 256 ^ k) % 256]) (by omega) (by simp; omega)]
    simp [fixF]
theorem F64_eq (q : List Int) (n : Int) (h0 : 0 ≤ n) (hq : q.length + 8 < lim) : F64 q n = some (ro (q ++ fix8 n)) := by
  unfold F64
  simp only [cif]
  rw [if_pos (by omega)]
  have := L64_run n h0 8 q (by omega) hq
  rw [show (8 : Int) - ((8 : Nat) : Int) = 0 from rfl] at this
  rw [this]
  rfl

/-- A quantity's bits. -/
def qbits (x : Nat) : Int := if FloatKind.f64.format.order x x != some Ordering.eq then 9221120237041090561 else (x : Int)
theorem F65_eq (x : Nat) : F65 x = some (r1 (qbits x)) := by
  unfold F65 F70 qbits
  simp only [Option.bind_some]
  cases FloatKind.f64.format.order x x != some Ordering.eq <;> rfl
theorem F61_eq (x : Nat) : F61 x = some (r1 (qbits x)) := F65_eq x
theorem qbits_nn (x : Nat) : 0 ≤ qbits x := by unfold qbits; split <;> omega

abbrev Ev : Type := Int × Int × Int × Int × ByteArray × List Int × Nat × Int × Unit
/-- What a kind tells behind the key. -/
def encR (k : Int) (text : List Int) (num : Nat) (node : Int) : List Int :=
  if k = 1 then dgT text else if k = 2 ∨ k = 3 then fix8 (qbits num) else if k = 5 then dg (IntKind.wrap .u64 node) else []
def encE (e : Ev) : List Int :=
  dg (IntKind.wrap .u64 e.1) ++ dg e.2.1 ++ dg e.2.2.1 ++ [e.2.2.2.1] ++ (if 1 ≤ e.2.2.2.1 ∧ e.2.2.2.1 ≤ 4 then dgT (bytesL e.2.2.2.2.1) else []) ++ encR e.2.2.2.1 e.2.2.2.2.2.1 e.2.2.2.2.2.2.1 e.2.2.2.2.2.2.2.1
theorem bytesL_len (s : ByteArray) : (bytesL s).length = s.size := by unfold bytesL; simp

/-- An event with numbers that a word can have, and texts that aren't endless. -/
structure EvOK (e : Ev) : Prop where
  s0 : 0 ≤ e.2.1
  s1 : e.2.1 < 18446744073709551616
  t0 : 0 ≤ e.2.2.1
  t1 : e.2.2.1 < 18446744073709551616
  key : e.2.2.2.2.1.size < 4294967296
  text : e.2.2.2.1 = 1 → e.2.2.2.2.2.1.length < 4294967296

theorem F47_eq (e : Ev) (h : EvOK e) : F47 e = some (ro (encE e)) := by
  obtain ⟨w, s, t, k, key, text, num, node, ⟨⟩⟩ := e
  obtain ⟨s0, s1, t0, t1, hk, ht⟩ := h
  simp only at s0 s1 t0 t1 hk ht
  have l1 := dg_len (IntKind.wrap .u64 w)
  have l2 := dg_len s
  have l3 := dg_len t
  have l4 := bytesL_len key
  have l5 := dgT_len (bytesL key)
  have hw : 0 ≤ IntKind.wrap .u64 w ∧ IntKind.wrap .u64 w < 18446744073709551616 := by rw [wu64_mod]; omega
  have hn : 0 ≤ IntKind.wrap .u64 node ∧ IntKind.wrap .u64 node < 18446744073709551616 := by rw [wu64_mod]; omega
  have hlim : lim = 1099511627776 := rfl
  unfold F47 encE
  simp only [cif, beq_iff_eq, Bool.cond_eq_ite, decide_eq_true_eq]
  rw [F58_eq _ _ hw.1 hw.2 (by simp; omega)]
  simp only [Option.bind_some, List.nil_append]
  rw [F58_eq _ _ s0 s1 (by omega)]
  simp only [Option.bind_some]
  rw [F58_eq _ _ t0 t1 (by simp; omega)]
  simp only [Option.bind_some]
  rw [if_pos (by simp; omega)]
  unfold encR
  have key' : ∀ q : List Int, q.length ≤ 31 → F59 (bytesL key) q = some (ro (q ++ dgT (bytesL key))) := fun q hq => F59_eq _ _ (by omega) (by omega)
  have text' : k = 1 → ∀ q : List Int, q.length ≤ 4294967396 → F59 text q = some (ro (q ++ dgT text)) := fun h1 q hq => F59_eq _ _ (ht h1) (by have := ht h1; omega)
  have node' : ∀ q : List Int, q.length ≤ 4294967396 → F58 (IntKind.wrap .u64 node) q = some (ro (q ++ dg (IntKind.wrap .u64 node))) := fun q hq => F58_eq _ _ hn.1 hn.2 (by omega)
  have num' : ∀ q : List Int, q.length ≤ 4294967396 → F60 (qbits num) q = some (ro (q ++ fix8 (qbits num))) := fun q hq => F60_eq _ _ (qbits_nn _) (by omega)
  by_cases k1 : 1 ≤ k
  · by_cases k4 : k ≤ 4
    · rw [if_pos (show k ≥ 1 from k1), if_pos k4, if_pos ⟨k1, k4⟩, key' _ (by simp; omega)]
      simp only [Option.bind_some]
      by_cases e1 : k = 1
      · rw [if_pos e1, if_pos e1, text' e1 _ (by simp; omega)]; rfl
      rw [if_neg e1, if_neg e1]
      by_cases e2 : k = 2
      · rw [if_pos e2, if_pos (Or.inl e2), F61_eq]; simp only [Option.bind_some]; rw [num' _ (by simp; omega)]; rfl
      rw [if_neg e2]
      by_cases e3 : k = 3
      · rw [if_pos e3, if_pos (Or.inr e3), F61_eq]; simp only [Option.bind_some]; rw [num' _ (by simp; omega)]; rfl
      simp only [e2, e3, show ¬ k = 5 from by omega, if_false, or_self, List.append_nil]
    · rw [if_pos (show k ≥ 1 from k1), if_neg k4]
      simp only [show ¬ k = 1 from by omega, show ¬ k = 2 from by omega, show ¬ k = 3 from by omega, show ¬ (1 ≤ k ∧ k ≤ 4) from by omega, if_false, or_self, List.append_nil]
      by_cases e5 : k = 5
      · rw [if_pos e5, if_pos e5, node' _ (by simp; omega)]; rfl
      · rw [if_neg e5, if_neg e5, List.append_nil]
  · rw [if_neg (show ¬ k ≥ 1 from k1)]
    simp only [show ¬ k = 1 from by omega, show ¬ k = 2 from by omega, show ¬ k = 3 from by omega, show ¬ k = 5 from by omega, show ¬ (1 ≤ k ∧ k ≤ 4) from by omega, if_false, or_self, List.append_nil]
theorem F49_eq (e : Ev) (h : EvOK e) (h1 : 1 ≤ e.2.2.2.1) : F49 e = some (ro (encE e)) := by
  obtain ⟨w, s, t, k, key, text, num, node, ⟨⟩⟩ := e
  obtain ⟨s0, s1, t0, t1, hk, ht⟩ := h
  simp only at s0 s1 t0 t1 hk ht h1
  have l1 := dg_len (IntKind.wrap .u64 w)
  have l2 := dg_len s
  have l3 := dg_len t
  have l4 := bytesL_len key
  have l5 := dgT_len (bytesL key)
  have hw : 0 ≤ IntKind.wrap .u64 w ∧ IntKind.wrap .u64 w < 18446744073709551616 := by rw [wu64_mod]; omega
  have hn : 0 ≤ IntKind.wrap .u64 node ∧ IntKind.wrap .u64 node < 18446744073709551616 := by rw [wu64_mod]; omega
  have hlim : lim = 1099511627776 := rfl
  unfold F49 encE
  simp only [cif, beq_iff_eq, Bool.cond_eq_ite, decide_eq_true_eq]
  rw [F62_eq _ _ hw.1 hw.2 (by simp; omega)]
  simp only [Option.bind_some, List.nil_append]
  rw [F62_eq _ _ s0 s1 (by omega)]
  simp only [Option.bind_some]
  rw [F62_eq _ _ t0 t1 (by simp; omega)]
  simp only [Option.bind_some]
  rw [if_pos (by simp; omega)]
  unfold encR
  have key' : ∀ q : List Int, q.length ≤ 31 → F63 q (bytesL key) = some (ro (q ++ dgT (bytesL key))) := fun q hq => F63_eq _ _ (by omega) (by omega)
  have text' : k = 1 → ∀ q : List Int, q.length ≤ 4294967396 → F63 q text = some (ro (q ++ dgT text)) := fun h1 q hq => F63_eq _ _ (ht h1) (by have := ht h1; omega)
  have node' : ∀ q : List Int, q.length ≤ 4294967396 → F62 q (IntKind.wrap .u64 node) = some (ro (q ++ dg (IntKind.wrap .u64 node))) := fun q hq => F62_eq _ _ hn.1 hn.2 (by omega)
  have num' : ∀ q : List Int, q.length ≤ 4294967396 → F64 q (qbits num) = some (ro (q ++ fix8 (qbits num))) := fun q hq => F64_eq _ _ (qbits_nn _) (by omega)
  by_cases k4 : k ≤ 4
  · rw [if_pos k4, if_pos ⟨h1, k4⟩, key' _ (by simp; omega)]
    simp only [Option.bind_some]
    by_cases e1 : k = 1
    · rw [if_pos e1, if_pos e1, text' e1 _ (by simp; omega)]; simp only [Option.bind_some, show ¬ k = 2 from by omega, show ¬ k = 3 from by omega, show ¬ k = 5 from by omega, if_false]
    rw [if_neg e1, if_neg e1]
    by_cases e2 : k = 2
    · rw [if_pos e2, if_pos (Or.inl e2), F65_eq]; simp only [Option.bind_some]; rw [num' _ (by simp; omega)]; simp only [Option.bind_some, show ¬ k = 5 from by omega, if_false]
    rw [if_neg e2]
    by_cases e3 : k = 3
    · rw [if_pos e3, if_pos (Or.inr e3), F65_eq]; simp only [Option.bind_some]; rw [num' _ (by simp; omega)]; simp only [Option.bind_some, show ¬ k = 5 from by omega, if_false]
    simp only [e2, e3, show ¬ k = 5 from by omega, if_false, or_self, List.append_nil]
  · rw [if_neg k4]
    simp only [show ¬ k = 1 from by omega, show ¬ k = 2 from by omega, show ¬ k = 3 from by omega, show ¬ (1 ≤ k ∧ k ≤ 4) from by omega, if_false, or_self, List.append_nil]
    by_cases e5 : k = 5
    · rw [if_pos e5, if_pos e5, node' _ (by simp; omega)]; rfl
    · rw [if_neg e5, if_neg e5, List.append_nil]

theorem F33_eq (a b : Ev) (ha : EvOK a) (hb : EvOK b) (ka : 1 ≤ a.2.2.2.1) (kb : 1 ≤ b.2.2.2.1) : F33 a b = some (r1 ((strL (encE a)).toList == (strL (encE b)).toList)) := by
  unfold F33
  rw [show F49 _ = _ from F49_eq a ha ka, show F49 _ = _ from F49_eq b hb kb]
  rfl

end Go.IM.V

/- Sums: what the printed functions tell. -/
set_option linter.unusedVariables false
set_option linter.unusedSimpArgs false
set_option linter.constructorNameAsVariable false
namespace Go.IM.V
open Go Go.IM Go.Proofs

noncomputable def mixI (n : Int) : Int :=
  iXor .u64 (IntKind.wrap .u64 ((iXor .u64 (IntKind.wrap .u64 ((iXor .u64 n (iShr .u64 n 30)) * 13787848793156543929)) (iShr .u64 (IntKind.wrap .u64 ((iXor .u64 n (iShr .u64 n 30)) * 13787848793156543929)) 27)) * 10723151780598845931)) (iShr .u64 (IntKind.wrap .u64 ((iXor .u64 (IntKind.wrap .u64 ((iXor .u64 n (iShr .u64 n 30)) * 13787848793156543929)) (iShr .u64 (IntKind.wrap .u64 ((iXor .u64 n (iShr .u64 n 30)) * 13787848793156543929)) 27)) * 10723151780598845931)) 31)
theorem F48_eq (n : Int) : F48 n = some (r1 (mixI n)) := rfl
noncomputable def two (a b : Int) : Int := mixI (iXor .u64 (mixI (IntKind.wrap .u64 (a + 7146057691288625177))) b)
theorem F30_eq (a b : Int) : F30 a b = some (r1 (two a b)) := rfl
noncomputable def ofL : List Int → Int → Int
  | [], s => s
  | b :: r, s => ofL r (mixI (iXor .u64 s (IntKind.wrap .u64 b)))
/-- The sum of an event. -/
noncomputable def ofE (e : Ev) : Int := ofL (encE e) 11400714819323198485
theorem L29_run (xs : List Int) (hl : xs.length < 2 ^ 62) : ∀ (d k : Nat) (s : Int), k + d = xs.length → L29_3 s xs (xs.length : Nat) (k : Nat) = some (r1 (ofL (xs.drop k) s)) := by
  intro d
  induction d with
  | zero =>
    intro k s hk
    rw [L29_3_eq]
    simp only [T29_3, cif]
    rw [if_neg (by omega), show k = xs.length from by omega, List.drop_length]
    rfl
  | succ d ih =>
    intro k s hk
    have hw : IntKind.wrap .i64 ((k : Int) + 1) = ((k + 1 : Nat) : Int) := by rw [w64 (by omega) (by omega)]; omega
    rw [L29_3_eq]
    simp only [T29_3, cif]
    rw [if_pos (by omega), if_pos (by omega), Int.toNat_natCast, F48_eq]
    simp only [Option.bind_some, Sum.elim_inl, hw]
    rw [ih (k + 1) _ (by omega), List.drop_eq_getElem_cons (i := k) (by omega)]
    rw [List.getD_eq_getElem?_getD, List.getElem?_eq_getElem (by omega)]
    rfl
theorem F29_eq (e : Ev) (h : EvOK e) (hl : (encE e).length < 2 ^ 62) : F29 e = some (r1 (ofE e)) := by
  unfold F29
  rw [show F47 _ = _ from F47_eq e h]
  simp only [Option.bind_some]
  have := L29_run (encE e) hl (encE e).length 0 11400714819323198485 (by omega)
  rw [show ((0 : Nat) : Int) = 0 from rfl] at this
  rw [this]
  rfl

/-! ### Events of bytes -/
def evA (b first : Int) (i : Nat) : Ev := (1, IntKind.wrap .u64 (first + IntKind.wrap .u64 (i : Int)), IntKind.wrap .u64 (IntKind.wrap .i64 ((i : Int) + 1)), 1, ⟨#[107]⟩, [b], 0, 0, ())
def evF (first : Int) : List Int → Nat → List Ev
  | [], _ => []
  | b :: r, i => evA b first i :: evF first r (i + 1)
theorem evF_len (first : Int) : ∀ (l : List Int) (i : Nat), (evF first l i).length = l.length
  | [], _ => rfl
  | b :: r, i => by rw [evF, List.length_cons, evF_len, List.length_cons]
abbrev E0 : Ev := ((0 : Int), ((0 : Int), ((0 : Int), ((0 : Int), (ByteArray.empty, ([], ((0 : Nat), ((0 : Int), ()))))))))
theorem evF_get (first : Int) : ∀ (l : List Int) (i j : Nat), j < l.length → (evF first l i).getD j E0 = evA (l.getD j 0) first (i + j)
  | [], _, _, h => by cases h
  | b :: r, i, 0, _ => rfl
  | b :: r, i, j + 1, h => by
    have := evF_get first r (i + 1) j (by simpa using h)
    rw [show i + (j + 1) = i + 1 + j from by omega]
    exact this
theorem L17_run (l : List Int) (first : Int) (hl : l.length < 2 ^ 30) : ∀ (d i : Nat) (q : List Ev), i + d = l.length → q.length + d < 2 ^ 31 → L17_3 l first (i : Nat) q = some (((), ()), (), (q ++ evF first (l.drop i) i, ())) := by
  intro d
  induction d with
  | zero =>
    intro i q hi hq
    rw [L17_3_eq]
    simp only [T17_3, cif]
    rw [if_neg (by omega), show i = l.length from by omega, List.drop_length]
    simp [evF]
  | succ d ih =>
    intro i q hi hq
    have hw : IntKind.wrap .i64 ((i : Int) + 1) = ((i + 1 : Nat) : Int) := by rw [w64 (by omega) (by omega)]; omega
    have hlim : lim = 1099511627776 := rfl
    rw [L17_3_eq]
    simp only [T17_3, cif]
    rw [if_pos (by omega), if_pos (by omega), if_pos (by simp; omega), Int.toNat_natCast]
    simp only [Option.bind_some, Sum.elim_inl, hw]
    rw [ih (i + 1) _ (by omega) (by simp; omega), List.drop_eq_getElem_cons (i := i) (by omega)]
    rw [List.getD_eq_getElem?_getD, List.getElem?_eq_getElem (by omega), List.append_assoc]
    have : IntKind.wrap .u64 (((i + 1 : Nat) : Int)) = IntKind.wrap .u64 (IntKind.wrap .i64 ((i : Int) + 1)) := by rw [hw]
    rw [this]
    rfl
theorem F17_eq (l : List Int) (first : Int) (hl : l.length < 2 ^ 30) : F17 l first = some (r1 (evF first l 0)) := by
  unfold F17
  have := L17_run l first hl l.length 0 [] (by omega) (by simp; omega)
  rw [show ((0 : Nat) : Int) = 0 from rfl, List.nil_append, List.drop_zero] at this
  rw [show (([] : List (Int × (Int × (Int × (Int × (ByteArray × ((List Int) × (Nat × (Int × Unit)))))))))) = ([] : List Ev) from rfl, this]
  rfl
/-- Events that are laid as they are. -/
def EvsOK (es : List Ev) : Prop := ∀ i < es.length, EvOK (es.getD i E0) ∧ (encE (es.getD i E0)).length < 2 ^ 62
theorem evA_ok (b first : Int) (i : Nat) : EvOK (evA b first i) := by
  refine ⟨?_, ?_, ?_, ?_, (show (1 : Nat) < 4294967296 by decide), fun _ => (show (1 : Nat) < 4294967296 by decide)⟩
  all_goals (show _; unfold evA; simp only [wu64_mod]; omega)
theorem evA_len (b first : Int) (i : Nat) : (encE (evA b first i)).length < 2 ^ 62 := by
  have h1 := dg_len (IntKind.wrap .u64 (evA b first i).1)
  have h2 := dg_len (evA b first i).2.1
  have h3 := dg_len (evA b first i).2.2.1
  have h4 := dgT_len (bytesL (⟨#[107]⟩ : ByteArray))
  have h5 := dgT_len [b]
  rw [bytesL_len] at h4
  have : encE (evA b first i) = dg (IntKind.wrap .u64 (evA b first i).1) ++ dg (evA b first i).2.1 ++ dg (evA b first i).2.2.1 ++ [1] ++ dgT (bytesL (⟨#[107]⟩ : ByteArray)) ++ dgT [b] := rfl
  rw [this]
  simp only [List.length_append, List.length_cons, List.length_nil]
  have h6 : (⟨#[107]⟩ : ByteArray).size = 1 := rfl
  simp only [List.length_cons, List.length_nil] at h5
  omega
theorem evF_ok (first : Int) (l : List Int) : EvsOK (evF first l 0) := fun i hi => by
  rw [evF_len] at hi
  rw [evF_get _ _ _ _ hi]
  exact ⟨evA_ok _ _ _, evA_len _ _ _⟩
end Go.IM.V

/- Sums: trees. -/
set_option linter.unusedVariables false
set_option linter.unusedSimpArgs false
set_option linter.constructorNameAsVariable false
namespace Go.IM.V
open Go Go.IM Go.Proofs

def tab (m : Nat) (f : Nat → Int) : List Int := (List.range m).map f
theorem tab_len (m : Nat) (f : Nat → Int) : (tab m f).length = m := by simp [tab]
theorem tab_get {m : Nat} {f : Nat → Int} {j : Nat} (h : j < m) : (tab m f).getD j 0 = f j := by
  rw [List.getD_eq_getElem?_getD, List.getElem?_eq_getElem (by rw [tab_len]; exact h)]
  simp [tab]
theorem tab_set (m : Nat) (f : Nat → Int) (i : Nat) (v : Int) : (tab m f).set i v = tab m (fun j => if j = i then v else f j) := by
  apply List.ext_getElem
  · simp [tab]
  · intro j h1 h2
    rw [List.getElem_set]
    simp only [tab, List.getElem_map, List.getElem_range]
    by_cases h : i = j
    · rw [if_pos h, if_pos h.symm]
    · rw [if_neg h, if_neg (Ne.symm h)]
theorem tab_congr {m : Nat} {f g : Nat → Int} (h : ∀ j < m, f j = g j) : tab m f = tab m g := by
  unfold tab
  exact List.map_congr_left fun j hj => h j (List.mem_range.1 hj)
/-- The bottom of a tree. -/
noncomputable def leaf (es : List Ev) (W i : Nat) (j : Nat) : Int := if W ≤ j ∧ j < W + i then ofE (es.getD (j - W) E0) else 0
noncomputable def upF : Nat → (Nat → Int) → Nat → Int
  | 0, f => f
  | i + 1, f => upF i fun j => if j = i + 1 then two (f (2 * (i + 1))) (f (2 * (i + 1) + 1)) else f j
/-- A tree's numbers. -/
noncomputable def tf (es : List Ev) (W : Nat) : Nat → Int := upF (W - 1) (leaf es W es.length)
noncomputable def tree (es : List Ev) (W : Nat) : List Int := tab (2 * W) (tf es W)
theorem upF_above : ∀ (i : Nat) (f : Nat → Int) (j : Nat), i < j → upF i f j = f j
  | 0, _, _, _ => rfl
  | i + 1, f, j, h => by
    rw [upF, upF_above i _ j (by omega), if_neg (by omega)]
theorem upF_two : ∀ (i : Nat) (f : Nat → Int) (j : Nat), 1 ≤ j → j ≤ i → upF i f j = two (upF i f (2 * j)) (upF i f (2 * j + 1))
  | 0, _, _, h1, h2 => by omega
  | i + 1, f, j, h1, h2 => by
    by_cases h : j = i + 1
    · subst h
      rw [upF_above (i + 1) f (2 * (i + 1)) (by omega), upF_above (i + 1) f (2 * (i + 1) + 1) (by omega)]
      rw [upF, upF_above i _ (i + 1) (by omega), if_pos rfl]
    · rw [upF]
      exact upF_two i _ j h1 (by omega)
theorem tf_leaf {es : List Ev} {W j : Nat} (h : W ≤ j) (hW : 1 ≤ W) : tf es W j = leaf es W es.length j := upF_above _ _ _ (by omega)
theorem tf_two {es : List Ev} {W j : Nat} (h1 : 1 ≤ j) (h : j < W) : tf es W j = two (tf es W (2 * j)) (tf es W (2 * j + 1)) := upF_two _ _ _ h1 (by omega)

/-! ### How wide? -/
structure Wide (n k : Nat) : Prop where
  le : n ≤ 2 ^ k
  lt : ∀ j < k, 2 ^ j < n
theorem wide_ex {n : Nat} (h : n ≤ 64) : ∃ k, k ≤ 6 ∧ Wide n k := by
  by_cases h0 : n ≤ 1
  · exact ⟨0, by omega, by simpa using h0, fun j hj => by omega⟩
  by_cases h1 : n ≤ 2
  · exact ⟨1, by omega, h1, fun j hj => by rw [show j = 0 from by omega]; omega⟩
  by_cases h2 : n ≤ 4
  · exact ⟨2, by omega, h2, fun j hj => by rcases (show j = 0 ∨ j = 1 by omega) with rfl | rfl <;> omega⟩
  by_cases h3 : n ≤ 8
  · exact ⟨3, by omega, h3, fun j hj => by rcases (show j = 0 ∨ j = 1 ∨ j = 2 by omega) with rfl | rfl | rfl <;> omega⟩
  by_cases h4 : n ≤ 16
  · exact ⟨4, by omega, h4, fun j hj => by rcases (show j = 0 ∨ j = 1 ∨ j = 2 ∨ j = 3 by omega) with rfl | rfl | rfl | rfl <;> omega⟩
  by_cases h5 : n ≤ 32
  · exact ⟨5, by omega, h5, fun j hj => by rcases (show j = 0 ∨ j = 1 ∨ j = 2 ∨ j = 3 ∨ j = 4 by omega) with rfl | rfl | rfl | rfl | rfl <;> omega⟩
  · exact ⟨6, by omega, h, fun j hj => by rcases (show j = 0 ∨ j = 1 ∨ j = 2 ∨ j = 3 ∨ j = 4 ∨ j = 5 by omega) with rfl | rfl | rfl | rfl | rfl | rfl <;> omega⟩
theorem pow_le6 {k : Nat} (h : k ≤ 6) : 1 ≤ 2 ^ k ∧ 2 ^ k ≤ 64 := ⟨Nat.one_le_two_pow, by
  have := Nat.pow_le_pow_right (n := 2) (by omega) h
  omega⟩
theorem dbl {w : Nat} (h : w < 2 ^ 61) : IntKind.wrap .i64 ((w : Int) * 2) = ((2 * w : Nat) : Int) := by rw [w64 (by omega) (by omega)]; omega
theorem dbl' {w : Nat} (h : w < 2 ^ 61) : IntKind.wrap .i64 (2 * (w : Int)) = ((2 * w : Nat) : Int) := by rw [w64 (by omega) (by omega)]; omega
/-- A tree's two boxes. -/
abbrev bxT (f n w : Int) (L : List Int) : (Int × Int × Int × Unit × Unit) × (List Int × Unit) × Unit := ((f, n, w, (), ()), (L, ()), ())
theorem L18a_run {es : List Ev} {k : Nat} (hk : k ≤ 6) (hW : Wide es.length k) (f n : Int) : ∀ (d j : Nat), j + d = k → L18_2 es f n ((2 ^ j : Nat) : Int) [] = some ((), ((f, n, ((2 ^ k : Nat) : Int), [], ()), ()), ()) := by
  intro d
  induction d with
  | zero =>
    intro j hj
    have := hW.le
    have : k = j := by omega
    subst this
    rw [L18_2_eq]
    simp only [T18_2, cif]
    rw [if_neg (by omega)]
    rfl
  | succ d ih =>
    intro j hj
    have := hW.lt j (by omega)
    have h6 := pow_le6 (show j ≤ 6 by omega)
    rw [L18_2_eq]
    simp only [T18_2, cif]
    rw [if_pos (by omega), dbl (by omega), show 2 * 2 ^ j = 2 ^ (j + 1) from by rw [Nat.pow_succ]; omega]
    simp only [Option.bind_some, Sum.elim_inl]
    exact ih (j + 1) (by omega)
def fst1 : List Ev → Int
  | [] => 1
  | e :: _ => e.2.1
/-- The numbers rise by one. -/
def Rises (es : List Ev) : Prop := ∀ i < es.length, (es.getD i E0).2.1 = IntKind.wrap .u64 (fst1 es + IntKind.wrap .u64 (i : Int))
theorem L18b_run {es : List Ev} {W : Nat} (hn : es.length ≤ W) (hW : W ≤ 64) (hok : EvsOK es) (hr : Rises es) (n : Int) : ∀ (d i : Nat) (f : Int), i + d = es.length → (0 < i ∨ es.length = 0 → f = fst1 es) →
    L18_6 es (es.length : Nat) (i : Nat) f n (W : Nat) (tab (2 * W) (leaf es W i)) = some (.inr ((), bxT (fst1 es) n (W : Nat) (tab (2 * W) (leaf es W es.length)), ())) := by
  intro d
  induction d with
  | zero =>
    intro i f hi hf
    rw [L18_6_eq]
    simp only [T18_6, cif]
    rw [if_neg (by omega), show i = es.length from by omega, hf (by omega)]
    rfl
  | succ d ih =>
    intro i f hi hf
    have hw : IntKind.wrap .i64 ((i : Int) + 1) = ((i + 1 : Nat) : Int) := by rw [w64 (by omega) (by omega)]; omega
    have hw2 : IntKind.wrap .i64 ((W : Int) + (i : Int)) = ((W + i : Nat) : Int) := by rw [w64 (by omega) (by omega)]; omega
    obtain ⟨ok, ol⟩ := hok i (by omega)
    have hs := hr i (by omega)
    have he : ∀ v, v = ofE (es.getD i E0) → (tab (2 * W) (leaf es W i)).set (W + i) v = tab (2 * W) (leaf es W (i + 1)) := by
      rintro v rfl
      rw [tab_set]
      refine tab_congr fun j hj => ?_
      unfold leaf
      by_cases h : j = W + i
      · rw [if_pos h, if_pos (by omega), show j - W = i from by omega]
      · rw [if_neg h]
        by_cases h2 : W ≤ j ∧ j < W + i
        · rw [if_pos h2, if_pos (by omega)]
        · rw [if_neg h2, if_neg (by omega)]
    rw [L18_6_eq]
    simp only [T18_6, cif]
    rw [if_pos (by omega), if_pos (by omega), Int.toNat_natCast]
    by_cases h0 : i = 0
    · subst h0
      have hf1 : (es.getD 0 E0).2.1 = fst1 es := by
        cases es with
        | nil => simp at hi
        | cons e r => rfl
      have hz : IntKind.wrap .u64 ((es.getD 0 E0).2.1 + IntKind.wrap .u64 ((0 : Nat) : Int)) = (es.getD 0 E0).2.1 := by rw [hf1, ← hs, hf1]
      rw [show (((0 : Nat) : Int) == 0) = true from rfl]
      simp only [cond_true]
      rw [show ((es.getD 0 E0).2.1 != IntKind.wrap .u64 ((es.getD 0 E0).2.1 + IntKind.wrap .u64 ((0 : Nat) : Int))) = false from by rw [hz]; simp]
      simp only [cond_false]
      rw [show F29 _ = _ from F29_eq (es.getD 0 E0) ok ol]
      simp only [Option.bind_some, hw, hw2, Int.toNat_natCast]
      rw [if_pos (by rw [tab_len]; omega), if_pos (by rw [tab_len]; omega), he _ rfl]
      simp only [Option.bind_some, Sum.elim_inl]
      exact ih 1 _ (by omega) (fun _ => hf1)
    · rw [show ((i : Int) == 0) = false from by rw [beq_eq_false_iff_ne]; omega]
      simp only [cond_false]
      have hf2 := hf (by omega)
      subst hf2
      rw [show ((es.getD i E0).2.1 != IntKind.wrap .u64 (fst1 es + IntKind.wrap .u64 (i : Int))) = false from by rw [← hs]; simp]
      simp only [cond_false]
      rw [show F29 _ = _ from F29_eq (es.getD i E0) ok ol]
      simp only [Option.bind_some, hw, hw2, Int.toNat_natCast]
      rw [if_pos (by rw [tab_len]; omega), if_pos (by rw [tab_len]; omega), he _ rfl]
      simp only [Option.bind_some, Sum.elim_inl]
      exact ih (i + 1) _ (by omega) (fun _ => rfl)
theorem L18c_run {W : Nat} (hW : W ≤ 64) (f n w : Int) : ∀ (i : Nat) (g : Nat → Int), i < W → L18_15 (i : Nat) f n w (tab (2 * W) g) = some ((), bxT f n w (tab (2 * W) (upF i g)), ()) := by
  intro i
  induction i with
  | zero =>
    intro g hi
    rw [L18_15_eq]
    simp only [T18_15, cif]
    rw [if_neg (by omega)]
    rfl
  | succ i ih =>
    intro g hi
    have hw : IntKind.wrap .i64 (((i + 1 : Nat) : Int) - 1) = (i : Int) := by rw [w64 (by omega) (by omega)]; omega
    have hw2 := dbl' (w := i + 1) (by omega)
    have hw3 : IntKind.wrap .i64 (((2 * (i + 1) : Nat) : Int) + 1) = ((2 * (i + 1) + 1 : Nat) : Int) := by rw [w64 (by omega) (by omega)]; omega
    rw [L18_15_eq]
    simp only [T18_15, cif]
    simp only [hw2, hw3, Int.toNat_natCast, tab_len]
    rw [if_pos (by omega), if_pos (by omega), if_pos (by omega), if_pos (by omega), if_pos (by omega), F30_eq]
    simp only [Option.bind_some]
    rw [if_pos (by omega), if_pos (by omega), hw]
    simp only [Option.bind_some, Sum.elim_inl]
    rw [tab_get (by omega), tab_get (by omega), tab_set]
    exact ih _ (by omega)
theorem F18_eq {es : List Ev} {k : Nat} (hk : k ≤ 6) (hW : Wide es.length k) (hok : EvsOK es) (hr : Rises es) :
    F18 es = some (((), true, ()), bxT (fst1 es) (es.length : Nat) ((2 ^ k : Nat) : Int) (tree es (2 ^ k)), ()) := by
  have h6 := pow_le6 hk
  have hle := hW.le
  have hlim : lim = 1099511627776 := rfl
  have h1 := L18a_run hk hW 1 (es.length : Nat) k 0 (by omega)
  rw [show ((2 ^ 0 : Nat) : Int) = 1 from rfl] at h1
  unfold F18
  generalize 2 ^ k = W at *
  rw [h1]
  have hw2 := dbl' (w := W) (by omega)
  have hw3 : IntKind.wrap .i64 (((W : Nat) : Int) - 1) = ((W - 1 : Nat) : Int) := by rw [w64 (by omega) (by omega)]; omega
  simp only [Option.bind_some, hw2, cand, Int.toNat_natCast]
  rw [if_pos ⟨⟨by omega, trivial, by omega⟩, by omega⟩]
  have h2 := L18b_run (W := W) hle h6.2 hok hr (es.length : Nat) es.length 0 1 (by omega) (fun h => by
    rcases h with h | h
    · omega
    · rw [List.length_eq_zero_iff.1 h]; rfl)
  have hz : List.replicate (2 * W) (0 : Int) = tab (2 * W) (leaf es W 0) := by
    apply List.ext_getElem
    · simp [tab]
    · intro j a b
      simp only [tab, List.getElem_map, List.getElem_range, List.getElem_replicate]
      unfold leaf
      rw [if_neg (by omega)]
  rw [hz]
  rw [show ((0 : Nat) : Int) = 0 from rfl] at h2
  rw [h2]
  simp only [Option.bind_some, Sum.elim_inr]
  rw [hw3, L18c_run h6.2 _ _ _ _ _ (by omega)]
  rfl
end Go.IM.V

/- Sums: the laws SumsTrees and SumsDiffer. -/
set_option linter.unusedVariables false
set_option linter.unusedSimpArgs false
set_option linter.constructorNameAsVariable false
namespace Go.IM.V
open Go Go.IM Go.Proofs

theorem F28_in {i : Nat} {L : List Int} (f n w : Int) (h1 : 1 ≤ i) (h2 : i < L.length) : F28 (i : Nat) f n w L = some ((L.getD i 0, true, ()), bxT f n w L, ()) := by
  unfold F28
  simp only [cif]
  rw [if_neg (by omega), if_neg (by omega), if_pos (by omega), if_pos (by omega), Int.toNat_natCast]
theorem F28_out {i : Nat} {L : List Int} (f n w : Int) (h : i = 0 ∨ L.length ≤ i) : F28 (i : Nat) f n w L = some ((0, false, ()), bxT f n w L, ()) := by
  unfold F28
  simp only [cif]
  by_cases h0 : i = 0
  · rw [if_pos (by omega)]
  · rw [if_neg (by omega), if_pos (by omega)]
theorem F31_eq {L : List Int} (f n w : Int) (h : 1 < L.length) : F31 f n w L = some ((L.getD 1 0, ()), bxT f n w L, ()) := by
  unfold F31
  simp only [cif]
  rw [if_pos (by omega), if_pos (by simpa using h)]
  rfl
/-- Down two trees, where they aren't alike. -/
def wk (a b : Nat → Int) : Nat → Nat → Nat
  | 0, i => i
  | d + 1, i => wk a b d (if a (2 * i) = b (2 * i) then 2 * i + 1 else 2 * i)
abbrev bxTT (f n w f' n' w' : Int) (L L' : List Int) : (Int × Int × Int × Unit × Unit) × (Int × Int × Int × Unit × Unit) × (List Int × Unit) × (List Int × Unit) × Unit := ((f, n, w, (), ()), (f', n', w', (), ()), (L, ()), (L', ()), ())
theorem pow_s (j : Nat) : 2 ^ (j + 1) = 2 * 2 ^ j := by rw [Nat.pow_succ]; omega
theorem L19_run {k : Nat} (hk : k ≤ 6) (a b : Nat → Int) (f n f' n' w' : Int) : ∀ (d j asked i : Nat), j + d = k → 2 ^ j ≤ i → i < 2 ^ (j + 1) → asked + d < 100 →
    L19_7 (asked : Nat) (i : Nat) f n ((2 ^ k : Nat) : Int) f' n' w' (tab (2 * 2 ^ k) a) (tab (2 * 2 ^ k) b) = some ((((asked + d : Nat) : Int), ((wk a b d i : Nat) : Int), ()), bxTT f n ((2 ^ k : Nat) : Int) f' n' w' (tab (2 * 2 ^ k) a) (tab (2 * 2 ^ k) b), ()) := by
  intro d
  induction d with
  | zero =>
    intro j asked i hj h1 h2 ha
    have : k = j := by omega
    subst this
    rw [L19_7_eq]
    simp only [T19_7, cif]
    rw [if_neg (by omega)]
    rfl
  | succ d ih =>
    intro j asked i hj h1 h2 ha
    have h6 := pow_le6 (show j + 1 ≤ 6 by omega)
    have hlt : 2 ^ (j + 1) ≤ 2 ^ k := Nat.pow_le_pow_right (by omega) (by omega)
    have ps := pow_s j
    have ps2 := pow_s (j + 1)
    have hw : IntKind.wrap .i64 ((asked : Int) + 1) = ((asked + 1 : Nat) : Int) := by rw [w64 (by omega) (by omega)]; omega
    have hw3 : IntKind.wrap .i64 (((2 * i : Nat) : Int) + 1) = ((2 * i + 1 : Nat) : Int) := by rw [w64 (by omega) (by omega)]; omega
    rw [L19_7_eq]
    simp only [T19_7, cif]
    rw [if_pos (by omega)]
    simp only [dbl (show i < 2 ^ 61 by omega), hw, hw3, Int.toNat_natCast, tab_len]
    rw [if_pos (by omega), if_pos (by omega), if_pos (by omega), if_pos (by omega), tab_get (by omega), tab_get (by omega)]
    by_cases hc : a (2 * i) = b (2 * i)
    · rw [show (a (2 * i) == b (2 * i)) = true from beq_iff_eq.2 hc]
      simp only [cond_true, Option.bind_some, Sum.elim_inl]
      rw [ih (j + 1) (asked + 1) (2 * i + 1) (by omega) (by omega) (by omega) (by omega), show asked + 1 + d = asked + (d + 1) from by omega]
      rw [show wk a b (d + 1) i = wk a b d (2 * i + 1) from by rw [wk, if_pos hc]]
    · rw [show (a (2 * i) == b (2 * i)) = false from beq_eq_false_iff_ne.2 hc]
      simp only [cond_false, Option.bind_some, Sum.elim_inl]
      rw [ih (j + 1) (asked + 1) (2 * i) (by omega) (by omega) (by omega) (by omega), show asked + 1 + d = asked + (d + 1) from by omega]
      rw [show wk a b (d + 1) i = wk a b d (2 * i) from by rw [wk, if_neg hc]]
theorem wk_rng (a b : Nat → Int) : ∀ (d i j : Nat), 2 ^ j ≤ i → i < 2 ^ (j + 1) → 2 ^ (j + d) ≤ wk a b d i ∧ wk a b d i < 2 ^ (j + d + 1)
  | 0, i, j, h1, h2 => ⟨h1, h2⟩
  | d + 1, i, j, h1, h2 => by
    have ps := pow_s j
    have ps2 := pow_s (j + 1)
    have := wk_rng a b d (if a (2 * i) = b (2 * i) then 2 * i + 1 else 2 * i) (j + 1) (by split <;> omega) (by split <;> omega)
    rw [show j + (d + 1) = j + 1 + d from by omega]
    exact this
/-- Two trees of as many events, from one number on. -/
theorem F19_eq {k n : Nat} (hk : k ≤ 6) (hn : 0 < n) (hn2 : n ≤ 64) (f : Int) (a b : Nat → Int) :
    F19 f (n : Nat) ((2 ^ k : Nat) : Int) f (n : Nat) ((2 ^ k : Nat) : Int) (tab (2 * 2 ^ k) a) (tab (2 * 2 ^ k) b) =
      some (if a 1 = b 1 then (0, 1, false, ()) else (IntKind.wrap .u64 (f + IntKind.wrap .u64 (((wk a b k 1 - 2 ^ k : Nat) : Nat) : Int)), ((1 + k : Nat) : Int), true, ()), bxTT f (n : Nat) ((2 ^ k : Nat) : Int) f (n : Nat) ((2 ^ k : Nat) : Int) (tab (2 * 2 ^ k) a) (tab (2 * 2 ^ k) b), ()) := by
  have h6 := pow_le6 hk
  have e1 : ∀ (f n w : Int) (L : List Int), F32 f n w L = some ((f, ()), bxT f n w L, ()) := fun _ _ _ _ => rfl
  have e2 : ∀ (f n w : Int) (L : List Int), F27 f n w L = some ((n, ()), bxT f n w L, ()) := fun _ _ _ _ => rfl
  unfold F19
  simp only [e1, e2, Option.bind_some, bne_self_eq_false, cond_false]
  rw [show (((n : Nat) : Int) == 0) = false from by rw [beq_eq_false_iff_ne]; omega]
  simp only [cond_false]
  rw [F31_eq _ _ _ (by rw [tab_len]; omega), F31_eq _ _ _ (by rw [tab_len]; omega)]
  simp only [Option.bind_some]
  rw [tab_get (by omega), tab_get (by omega)]
  by_cases hc : a 1 = b 1
  · rw [show (a 1 == b 1) = true from beq_iff_eq.2 hc, if_pos hc]
    rfl
  · rw [show (a 1 == b 1) = false from beq_eq_false_iff_ne.2 hc, if_neg hc]
    simp only [cond_false]
    have := L19_run hk a b f (n : Nat) f (n : Nat) ((2 ^ k : Nat) : Int) k 0 1 1 (by omega) (by decide) (by decide) (by omega)
    rw [show ((1 : Nat) : Int) = 1 from rfl] at this
    rw [this]
    obtain ⟨g1, g2⟩ := wk_rng a b k 1 0 (by decide) (by decide)
    rw [Nat.zero_add] at g1 g2
    have ps := pow_s k
    have hw : IntKind.wrap .i64 (((wk a b k 1 : Nat) : Int) - ((2 ^ k : Nat) : Int)) = ((wk a b k 1 - 2 ^ k : Nat) : Int) := by
      generalize wk a b k 1 = x at *
      generalize 2 ^ k = W at *
      rw [w64 (by omega) (by omega)]; omega
    simp only [Option.bind_some, hw]
theorem fst1_evF {first : Int} (h0 : 0 ≤ first) (h1 : first < 18446744073709551616) (l : List Int) (hl : 0 < l.length) : fst1 (evF first l 0) = first := by
  cases l with
  | nil => simp at hl
  | cons b r =>
    show IntKind.wrap .u64 (first + IntKind.wrap .u64 ((0 : Nat) : Int)) = first
    rw [show IntKind.wrap .u64 ((0 : Nat) : Int) = 0 from rfl, Int.add_zero, wu64 h0 h1]
theorem evF_rises {first : Int} (h0 : 0 ≤ first) (h1 : first < 18446744073709551616) (l : List Int) : Rises (evF first l 0) := fun i hi => by
  rw [evF_len] at hi
  rw [evF_get _ _ _ _ hi, fst1_evF h0 h1 l (by omega), Nat.zero_add]
  rfl
theorem F18_evF {first : Int} (h0 : 0 ≤ first) (h1 : first < 18446744073709551616) (l : List Int) {k : Nat} (hk : k ≤ 6) (hW : Wide l.length k) :
    F18 (evF first l 0) = some (((), true, ()), bxT (fst1 (evF first l 0)) (l.length : Nat) ((2 ^ k : Nat) : Int) (tab (2 * 2 ^ k) (tf (evF first l 0) (2 ^ k))), ()) := by
  have := F18_eq (es := evF first l 0) hk (by rw [evF_len]; exact hW) (evF_ok first l) (evF_rises h0 h1 l)
  rw [this, evF_len]
  rfl
theorem F16_eq : F16 = some (r1 true) := by
  have hW : Wide 8 3 := ⟨by decide, fun j hj => by rcases (show j = 0 ∨ j = 1 ∨ j = 2 by omega) with rfl | rfl | rfl <;> decide⟩
  have e1 := F18_evF (first := 1) (by decide) (by decide) [1, 2, 3, 4, 5, 6, 7, 8] (k := 3) (by decide) hW
  have e2 := F18_evF (first := 1) (by decide) (by decide) [1, 2, 3, 4, 5, 0, 7, 8] (k := 3) (by decide) hW
  have f1 : fst1 (evF 1 [1, 2, 3, 4, 5, 6, 7, 8] 0) = 1 := fst1_evF (by decide) (by decide) _ (by decide)
  have f2 : fst1 (evF 1 [1, 2, 3, 4, 5, 0, 7, 8] 0) = 1 := fst1_evF (by decide) (by decide) _ (by decide)
  have hr : ¬ tf (evF 1 [1, 2, 3, 4, 5, 6, 7, 8] 0) (2 ^ 3) 1 = tf (evF 1 [1, 2, 3, 4, 5, 0, 7, 8] 0) (2 ^ 3) 1 := by decide +kernel
  have hwk : wk (tf (evF 1 [1, 2, 3, 4, 5, 6, 7, 8] 0) (2 ^ 3)) (tf (evF 1 [1, 2, 3, 4, 5, 0, 7, 8] 0) (2 ^ 3)) 3 1 = 13 := by decide +kernel
  unfold F16
  rw [F17_eq _ _ (by decide), F17_eq _ _ (by decide)]
  simp only [Option.bind_some]
  rw [e1, e2, f1, f2]
  simp only [Option.bind_some, Bool.not_true, cond_false]
  have := F19_eq (k := 3) (n := 8) (by decide) (by decide) (by decide) 1 (tf (evF 1 [1, 2, 3, 4, 5, 6, 7, 8] 0) (2 ^ 3)) (tf (evF 1 [1, 2, 3, 4, 5, 0, 7, 8] 0) (2 ^ 3))
  rw [if_neg hr, hwk] at this
  rw [show (([1, 2, 3, 4, 5, 6, 7, 8] : List Int).length) = 8 from rfl, show (([1, 2, 3, 4, 5, 0, 7, 8] : List Int).length) = 8 from rfl, this]
  rfl
end Go.IM.V

/- Trees that grow: what the code comes to. -/
set_option linter.unusedVariables false
set_option linter.constructorNameAsVariable false
namespace Go.IM.V
open Go Go.IM Go.Proofs

noncomputable def l50_5 : Code := (.seq (.seq (.region 5 (regOf Try.f50 5) false) (.cond (.tmp 44) .skip (.exit 0))) (.seq (.block 1 (.region 7 (regOf Try.f50 7) true)) (.region 6 (regOf Try.f50 6) false)))
noncomputable def b50 : Code := (.seq (.region 0 (regOf Try.f50 0) false) (.seq (.region 1 (regOf Try.f50 1) true) (.seq (.region 2 (regOf Try.f50 2) false) (.seq (.region 3 (regOf Try.f50 3) false) (.seq (.region 4 (regOf Try.f50 4) false) (.block 0 (.loop l50_5)))))))
theorem body50 : Try.f50.body = some b50 := by kernel_rfl
noncomputable def C50_5 : Tab := [(30, c30), (900009, cHot)]
theorem C50_5_ok : TabOK Try.prog C50_5 := ⟨c30_ok, cHot_ok, trivial⟩
noncomputable def LO50_5 : Tab := []
noncomputable def i50_5 : Tm := { sl := [(0, .p 0 0), (3, .v (.i .i64))], bx := [[.v (.i .u64), .v (.i .i64), .v (.i .i64), .m (.i .u64) 1], [.r (.i .u64)]], bf := [] }
noncomputable def o50_5 : OT := (.exit 0 { sl := [], bx := [[.v (.i .u64), .v (.i .i64), .v (.i .i64), .m (.i .u64) 1], [.r (.i .u64)]], bf := [] })
noncomputable def T50_5 (a3 : Int) (b0_0 : Int) (b0_1 : Int) (b0_2 : Int) (b1_0 : (List Int)) : Option (((Unit × (Int × Unit)) × ((Int × (Int × (Int × (Unit × Unit)))) × (((List Int) × Unit) × Unit)) × Unit) ⊕ (Unit × ((Int × (Int × (Int × (Unit × Unit)))) × (((List Int) × Unit) × Unit)) × Unit)) :=
  (bif (decide ((a3 : Int) > 0)) then (bif (decide (0 ≤ ((IntKind.wrap .i64 (2 * a3)) : Int) ∧ ((IntKind.wrap .i64 (2 * a3)) : Int) < (((b1_0).length : Nat) : Int))) then (bif (decide (((IntKind.wrap .i64 (2 * a3)) : Int).toNat < (b1_0).length)) then (bif (decide (0 ≤ ((IntKind.wrap .i64 ((IntKind.wrap .i64 (2 * a3)) + 1)) : Int) ∧ ((IntKind.wrap .i64 ((IntKind.wrap .i64 (2 * a3)) + 1)) : Int) < (((b1_0).length : Nat) : Int))) then (bif (decide (((IntKind.wrap .i64 ((IntKind.wrap .i64 (2 * a3)) + 1)) : Int).toNat < (b1_0).length)) then ((F30 ((b1_0).getD ((IntKind.wrap .i64 (2 * a3)) : Int).toNat (0 : Int)) ((b1_0).getD ((IntKind.wrap .i64 ((IntKind.wrap .i64 (2 * a3)) + 1)) : Int).toNat (0 : Int))).bind fun y171 => (bif (decide (0 ≤ (a3 : Int) ∧ (a3 : Int) < (((b1_0).length : Nat) : Int))) then (bif (decide ((a3 : Int).toNat < (b1_0).length)) then (some (.inl (((), (IntKind.wrap .i64 (a3 - 1)), ()), ((b0_0, b0_1, b0_2, (), ()), (((b1_0).set (a3 : Int).toNat y171.1.1), ()), ()), ()))) else none) else none)) else none) else none) else none) else none) else (some (.inr ((), ((b0_0, b0_1, b0_2, (), ()), (b1_0, ()), ()), ()))))
noncomputable def L50_5 (a3 : Int) (b0_0 : Int) (b0_1 : Int) (b0_2 : Int) (b1_0 : (List Int)) : Option (Unit × ((Int × (Int × (Int × (Unit × Unit)))) × (((List Int) × Unit) × Unit)) × Unit) := loopF (fun x : ((Unit × (Int × Unit)) × ((Int × (Int × (Int × (Unit × Unit)))) × (((List Int) × Unit) × Unit)) × Unit) => T50_5 x.1.2.1 x.2.1.1.1 x.2.1.1.2.1 x.2.1.1.2.2.1 x.2.1.2.1.1) (((), a3, ()), ((b0_0, b0_1, b0_2, (), ()), (b1_0, ()), ()), ())
theorem L50_5_eq (a3 : Int) (b0_0 : Int) (b0_1 : Int) (b0_2 : Int) (b1_0 : (List Int)) : L50_5 a3 b0_0 b0_1 b0_2 b1_0 = (T50_5 a3 b0_0 b0_1 b0_2 b1_0).bind (Sum.elim (fun x => L50_5 x.1.2.1 x.2.1.1.1 x.2.1.1.2.1 x.2.1.1.2.2.1 x.2.1.2.1.1) some) := loopF_eq _ _
noncomputable def k50_5 : Con := ⟨i50_5, o50_5, fun x => L50_5 x.1.2.1 x.2.1.1.1 x.2.1.1.2.1 x.2.1.1.2.2.1 x.2.1.2.1.1⟩
theorem e50_5 (x : i50_5.E) : vround Try.prog C50_5 LO50_5 Try.f50.ntmps l50_5 i50_5 o50_5 x = T50_5 x.1.2.1 x.2.1.1.1 x.2.1.1.2.1 x.2.1.1.2.2.1 x.2.1.2.1.1 := by kernel_rfl
theorem k50_5_ok : Con.LOK Try.prog Try.f50.ntmps l50_5 k50_5 := (loop_ok C50_5_ok (loops_of (l := []) (by kernel_rfl) (show LoopsOK Try.prog Try.f50.ntmps [] LO50_5 from trivial)) i50_5 o50_5).congr fun x => (congrArg (fun T => loopF T x) (funext e50_5)).symm
noncomputable def C50 : Tab := [(30, c30), (900009, cHot)]
theorem C50_ok : TabOK Try.prog C50 := ⟨c30_ok, cHot_ok, trivial⟩
noncomputable def LO50 : Tab := [(5, k50_5)]
noncomputable def i50 : Tm := { sl := [(0, .p 0 0)], bx := [[.v (.i .u64), .v (.i .i64), .v (.i .i64), .m (.i .u64) 1], [.r (.i .u64)]], bf := [] }
noncomputable def o50 : OT := (.ret { sl := [], bx := [[.v (.i .u64), .v (.i .i64), .v (.i .i64), .m (.i .u64) 2], [.g], [.r (.i .u64)]], bf := [] })
/-- (*anabranch/sums.Tree).grow -/
noncomputable def F50 (b0_0 : Int) (b0_1 : Int) (b0_2 : Int) (b1_0 : (List Int)) : Option (Unit × ((Int × (Int × (Int × (Unit × Unit)))) × ((Unit × Unit) × (((List Int) × Unit) × Unit))) × Unit) :=
  (bif ((decide (0 ≤ ((IntKind.wrap .i64 (4 * b0_2)) : Int) ∧ ((IntKind.wrap .i64 (4 * b0_2)) : Int) = (IntKind.wrap .i64 (4 * b0_2)) ∧ ((IntKind.wrap .i64 (4 * b0_2)) : Int) < (lim : Int))) && (decide (0 < ((IntKind.wrap .i64 (4 * b0_2)) : Int)))) then (bif (decide (0 ≤ ((IntKind.wrap .i64 (2 * b0_2)) : Int) ∧ ((IntKind.wrap .i64 (2 * b0_2)) : Int) ≤ ((((List.replicate ((IntKind.wrap .i64 (4 * b0_2)) : Int).toNat (0 : Int))).length : Nat) : Int))) then (bif (decide (0 ≤ (b0_2 : Int) ∧ (b0_2 : Int) ≤ (((b1_0).length : Nat) : Int))) then ((L50_5 (IntKind.wrap .i64 ((IntKind.wrap .i64 (b0_2 * 2)) - 1)) b0_0 b0_1 (IntKind.wrap .i64 (b0_2 * 2)) (((List.replicate ((IntKind.wrap .i64 (4 * b0_2)) : Int).toNat (0 : Int))).take (((IntKind.wrap .i64 (2 * b0_2)) : Int).toNat) ++ ((((b1_0).drop ((b0_2 : Int).toNat)).take ((b1_0).length - (b0_2 : Int).toNat))).take (min (((List.replicate ((IntKind.wrap .i64 (4 * b0_2)) : Int).toNat (0 : Int))).length - ((IntKind.wrap .i64 (2 * b0_2)) : Int).toNat) ((((b1_0).drop ((b0_2 : Int).toNat)).take ((b1_0).length - (b0_2 : Int).toNat))).length) ++ ((List.replicate ((IntKind.wrap .i64 (4 * b0_2)) : Int).toNat (0 : Int))).drop ((((IntKind.wrap .i64 (2 * b0_2)) : Int).toNat) + (min (((List.replicate ((IntKind.wrap .i64 (4 * b0_2)) : Int).toNat (0 : Int))).length - ((IntKind.wrap .i64 (2 * b0_2)) : Int).toNat) ((((b1_0).drop ((b0_2 : Int).toNat)).take ((b1_0).length - (b0_2 : Int).toNat))).length)))).bind fun y172 => (some ((), ((y172.2.1.1.1, y172.2.1.1.2.1, y172.2.1.1.2.2.1, (), ()), ((), ()), (y172.2.1.2.1.1, ()), ()), ()))) else none) else none) else none)
noncomputable def c50 : Con := ⟨i50, o50, fun x => F50 x.2.1.1.1 x.2.1.1.2.1 x.2.1.1.2.2.1 x.2.1.2.1.1⟩
theorem e50 (x : i50.E) : vfn Try.prog C50 LO50 Try.f50 b50 i50 o50 x = F50 x.2.1.1.1 x.2.1.1.2.1 x.2.1.1.2.2.1 x.2.1.2.1.1 := by kernel_rfl
theorem c50_ok : Con.OK Try.prog 50 c50 := (fn_ok C50_ok Try.func50 body50 (loops_of (l := [l50_5]) (by kernel_rfl) (show LoopsOK Try.prog Try.f50.ntmps [l50_5] LO50 from ⟨k50_5_ok, trivial⟩)) i50 o50).congr fun x => (e50 x).symm
noncomputable def l34_10 : Code := (.seq (.seq (.region 10 (regOf Try.f34 10) false) (.cond (.tmp 79) .skip (.exit 0))) (.seq (.block 1 (.region 12 (regOf Try.f34 12) true)) (.region 11 (regOf Try.f34 11) false)))
noncomputable def b34 : Code := (.seq (.region 0 (regOf Try.f34 0) false) (.seq (.seq (.region 1 (regOf Try.f34 1) true) (.cond (.tmp 29) (.seq (.region 2 (regOf Try.f34 2) false) .ret) .skip)) (.seq (.seq (.region 3 (regOf Try.f34 3) false) (.cond (.tmp 34) (.region 4 (regOf Try.f34 4) false) .skip)) (.seq (.seq (.region 5 (regOf Try.f34 5) true) (.cond (.tmp 48) (.region 6 (regOf Try.f34 6) false) .skip)) (.seq (.region 7 (regOf Try.f34 7) true) (.seq (.region 8 (regOf Try.f34 8) true) (.seq (.seq (.region 9 (regOf Try.f34 9) false) (.block 0 (.loop l34_10))) (.seq (.region 13 (regOf Try.f34 13) false) .ret))))))))
theorem body34 : Try.f34.body = some b34 := by kernel_rfl
noncomputable def C34_10 : Tab := [(30, c30)]
theorem C34_10_ok : TabOK Try.prog C34_10 := ⟨c30_ok, trivial⟩
noncomputable def LO34_10 : Tab := []
noncomputable def i34_10 : Tm := { sl := [(0, .p 0 0), (5, .v (.i .i64))], bx := [[.v (.i .u64), .v (.i .i64), .v (.i .i64), .m (.i .u64) 1], [.r (.i .u64)]], bf := [] }
noncomputable def o34_10 : OT := (.exit 0 { sl := [], bx := [[.v (.i .u64), .v (.i .i64), .v (.i .i64), .m (.i .u64) 1], [.r (.i .u64)]], bf := [] })
noncomputable def T34_10 (a5 : Int) (b0_0 : Int) (b0_1 : Int) (b0_2 : Int) (b1_0 : (List Int)) : Option (((Unit × (Int × Unit)) × ((Int × (Int × (Int × (Unit × Unit)))) × (((List Int) × Unit) × Unit)) × Unit) ⊕ (Unit × ((Int × (Int × (Int × (Unit × Unit)))) × (((List Int) × Unit) × Unit)) × Unit)) :=
  (bif (decide ((a5 : Int) > 0)) then (bif (decide (0 ≤ ((IntKind.wrap .i64 (2 * a5)) : Int) ∧ ((IntKind.wrap .i64 (2 * a5)) : Int) < (((b1_0).length : Nat) : Int))) then (bif (decide (((IntKind.wrap .i64 (2 * a5)) : Int).toNat < (b1_0).length)) then (bif (decide (0 ≤ ((IntKind.wrap .i64 ((IntKind.wrap .i64 (2 * a5)) + 1)) : Int) ∧ ((IntKind.wrap .i64 ((IntKind.wrap .i64 (2 * a5)) + 1)) : Int) < (((b1_0).length : Nat) : Int))) then (bif (decide (((IntKind.wrap .i64 ((IntKind.wrap .i64 (2 * a5)) + 1)) : Int).toNat < (b1_0).length)) then ((F30 ((b1_0).getD ((IntKind.wrap .i64 (2 * a5)) : Int).toNat (0 : Int)) ((b1_0).getD ((IntKind.wrap .i64 ((IntKind.wrap .i64 (2 * a5)) + 1)) : Int).toNat (0 : Int))).bind fun y176 => (bif (decide (0 ≤ (a5 : Int) ∧ (a5 : Int) < (((b1_0).length : Nat) : Int))) then (bif (decide ((a5 : Int).toNat < (b1_0).length)) then (some (.inl (((), (IntKind.wrap .i64 ((a5 : Int).tdiv 2)), ()), ((b0_0, b0_1, b0_2, (), ()), (((b1_0).set (a5 : Int).toNat y176.1.1), ()), ()), ()))) else none) else none)) else none) else none) else none) else none) else (some (.inr ((), ((b0_0, b0_1, b0_2, (), ()), (b1_0, ()), ()), ()))))
noncomputable def L34_10 (a5 : Int) (b0_0 : Int) (b0_1 : Int) (b0_2 : Int) (b1_0 : (List Int)) : Option (Unit × ((Int × (Int × (Int × (Unit × Unit)))) × (((List Int) × Unit) × Unit)) × Unit) := loopF (fun x : ((Unit × (Int × Unit)) × ((Int × (Int × (Int × (Unit × Unit)))) × (((List Int) × Unit) × Unit)) × Unit) => T34_10 x.1.2.1 x.2.1.1.1 x.2.1.1.2.1 x.2.1.1.2.2.1 x.2.1.2.1.1) (((), a5, ()), ((b0_0, b0_1, b0_2, (), ()), (b1_0, ()), ()), ())
theorem L34_10_eq (a5 : Int) (b0_0 : Int) (b0_1 : Int) (b0_2 : Int) (b1_0 : (List Int)) : L34_10 a5 b0_0 b0_1 b0_2 b1_0 = (T34_10 a5 b0_0 b0_1 b0_2 b1_0).bind (Sum.elim (fun x => L34_10 x.1.2.1 x.2.1.1.1 x.2.1.1.2.1 x.2.1.1.2.2.1 x.2.1.2.1.1) some) := loopF_eq _ _
noncomputable def k34_10 : Con := ⟨i34_10, o34_10, fun x => L34_10 x.1.2.1 x.2.1.1.1 x.2.1.1.2.1 x.2.1.1.2.2.1 x.2.1.2.1.1⟩
theorem e34_10 (x : i34_10.E) : vround Try.prog C34_10 LO34_10 Try.f34.ntmps l34_10 i34_10 o34_10 x = T34_10 x.1.2.1 x.2.1.1.1 x.2.1.1.2.1 x.2.1.1.2.2.1 x.2.1.2.1.1 := by kernel_rfl
theorem k34_10_ok : Con.LOK Try.prog Try.f34.ntmps l34_10 k34_10 := (loop_ok C34_10_ok (loops_of (l := []) (by kernel_rfl) (show LoopsOK Try.prog Try.f34.ntmps [] LO34_10 from trivial)) i34_10 o34_10).congr fun x => (congrArg (fun T => loopF T x) (funext e34_10)).symm
noncomputable def C34 : Tab := [(29, c29), (30, c30), (50, c50)]
theorem C34_ok : TabOK Try.prog C34 := ⟨c29_ok, c30_ok, c50_ok, trivial⟩
noncomputable def LO34 : Tab := [(10, k34_10)]
noncomputable def i34 : Tm := { sl := [(0, .p 0 0), (1, .v (.p (.i .i64) (.p (.i .u64) (.p (.i .u64) (.p (.i .u8) (.p .s (.p (.l (.i .u8)) (.p (.f .f64) (.p (.i .i64) .u)))))))))], bx := [[.v (.i .u64), .v (.i .i64), .v (.i .i64), .m (.i .u64) 1], [.r (.i .u64)]], bf := [] }
noncomputable def o34 : OT := (.ret { sl := [(0, .v .b)], bx := [[.v (.i .u64), .v (.i .i64), .v (.i .i64), .m (.i .u64) 2], [.g], [.r (.i .u64)]], bf := [] })
/-- (*anabranch/sums.Tree).Add -/
noncomputable def F34 (a1 : (Int × (Int × (Int × (Int × (ByteArray × ((List Int) × (Nat × (Int × Unit))))))))) (b0_0 : Int) (b0_1 : Int) (b0_2 : Int) (b1_0 : (List Int)) : Option ((Bool × Unit) × ((Int × (Int × (Int × (Unit × Unit)))) × ((Unit × Unit) × (((List Int) × Unit) × Unit))) × Unit) :=
  (bif (decide ((b0_1 : Int) > 0)) then (bif ((a1.2.1 : Int) != (IntKind.wrap .u64 (b0_0 + (IntKind.wrap .u64 b0_1)))) then (some ((false, ()), ((b0_0, b0_1, b0_2, (), ()), ((), ()), (b1_0, ()), ()), ())) else (bif ((b0_1 : Int) == 0) then (bif ((b0_1 : Int) == b0_2) then ((F50 a1.2.1 b0_1 b0_2 b1_0).bind fun y173 => ((F29 (a1.1, (a1.2.1, (a1.2.2.1, (a1.2.2.2.1, (a1.2.2.2.2.1, (a1.2.2.2.2.2.1, (a1.2.2.2.2.2.2.1, (a1.2.2.2.2.2.2.2.1, ()))))))))).bind fun y174 => (bif (decide (0 ≤ ((IntKind.wrap .i64 (y173.2.1.1.2.2.1 + y173.2.1.1.2.1)) : Int) ∧ ((IntKind.wrap .i64 (y173.2.1.1.2.2.1 + y173.2.1.1.2.1)) : Int) < (((y173.2.1.2.2.1.1).length : Nat) : Int))) then (bif (decide (((IntKind.wrap .i64 (y173.2.1.1.2.2.1 + y173.2.1.1.2.1)) : Int).toNat < (y173.2.1.2.2.1.1).length)) then ((L34_10 (IntKind.wrap .i64 (((IntKind.wrap .i64 (y173.2.1.1.2.2.1 + y173.2.1.1.2.1)) : Int).tdiv 2)) y173.2.1.1.1 (IntKind.wrap .i64 (y173.2.1.1.2.1 + 1)) y173.2.1.1.2.2.1 ((y173.2.1.2.2.1.1).set ((IntKind.wrap .i64 (y173.2.1.1.2.2.1 + y173.2.1.1.2.1)) : Int).toNat y174.1.1)).bind fun y177 => (some ((true, ()), ((y177.2.1.1.1, y177.2.1.1.2.1, y177.2.1.1.2.2.1, (), ()), ((), ()), (y177.2.1.2.1.1, ()), ()), ()))) else none) else none))) else ((F29 (a1.1, (a1.2.1, (a1.2.2.1, (a1.2.2.2.1, (a1.2.2.2.2.1, (a1.2.2.2.2.2.1, (a1.2.2.2.2.2.2.1, (a1.2.2.2.2.2.2.2.1, ()))))))))).bind fun y178 => (bif (decide (0 ≤ ((IntKind.wrap .i64 (b0_2 + b0_1)) : Int) ∧ ((IntKind.wrap .i64 (b0_2 + b0_1)) : Int) < (((b1_0).length : Nat) : Int))) then (bif (decide (((IntKind.wrap .i64 (b0_2 + b0_1)) : Int).toNat < (b1_0).length)) then ((L34_10 (IntKind.wrap .i64 (((IntKind.wrap .i64 (b0_2 + b0_1)) : Int).tdiv 2)) a1.2.1 (IntKind.wrap .i64 (b0_1 + 1)) b0_2 ((b1_0).set ((IntKind.wrap .i64 (b0_2 + b0_1)) : Int).toNat y178.1.1)).bind fun y179 => (some ((true, ()), ((y179.2.1.1.1, y179.2.1.1.2.1, y179.2.1.1.2.2.1, (), ()), ((), ()), (y179.2.1.2.1.1, ()), ()), ()))) else none) else none))) else (bif ((b0_1 : Int) == b0_2) then ((F50 b0_0 b0_1 b0_2 b1_0).bind fun y180 => ((F29 (a1.1, (a1.2.1, (a1.2.2.1, (a1.2.2.2.1, (a1.2.2.2.2.1, (a1.2.2.2.2.2.1, (a1.2.2.2.2.2.2.1, (a1.2.2.2.2.2.2.2.1, ()))))))))).bind fun y181 => (bif (decide (0 ≤ ((IntKind.wrap .i64 (y180.2.1.1.2.2.1 + y180.2.1.1.2.1)) : Int) ∧ ((IntKind.wrap .i64 (y180.2.1.1.2.2.1 + y180.2.1.1.2.1)) : Int) < (((y180.2.1.2.2.1.1).length : Nat) : Int))) then (bif (decide (((IntKind.wrap .i64 (y180.2.1.1.2.2.1 + y180.2.1.1.2.1)) : Int).toNat < (y180.2.1.2.2.1.1).length)) then ((L34_10 (IntKind.wrap .i64 (((IntKind.wrap .i64 (y180.2.1.1.2.2.1 + y180.2.1.1.2.1)) : Int).tdiv 2)) y180.2.1.1.1 (IntKind.wrap .i64 (y180.2.1.1.2.1 + 1)) y180.2.1.1.2.2.1 ((y180.2.1.2.2.1.1).set ((IntKind.wrap .i64 (y180.2.1.1.2.2.1 + y180.2.1.1.2.1)) : Int).toNat y181.1.1)).bind fun y182 => (some ((true, ()), ((y182.2.1.1.1, y182.2.1.1.2.1, y182.2.1.1.2.2.1, (), ()), ((), ()), (y182.2.1.2.1.1, ()), ()), ()))) else none) else none))) else ((F29 (a1.1, (a1.2.1, (a1.2.2.1, (a1.2.2.2.1, (a1.2.2.2.2.1, (a1.2.2.2.2.2.1, (a1.2.2.2.2.2.2.1, (a1.2.2.2.2.2.2.2.1, ()))))))))).bind fun y183 => (bif (decide (0 ≤ ((IntKind.wrap .i64 (b0_2 + b0_1)) : Int) ∧ ((IntKind.wrap .i64 (b0_2 + b0_1)) : Int) < (((b1_0).length : Nat) : Int))) then (bif (decide (((IntKind.wrap .i64 (b0_2 + b0_1)) : Int).toNat < (b1_0).length)) then ((L34_10 (IntKind.wrap .i64 (((IntKind.wrap .i64 (b0_2 + b0_1)) : Int).tdiv 2)) b0_0 (IntKind.wrap .i64 (b0_1 + 1)) b0_2 ((b1_0).set ((IntKind.wrap .i64 (b0_2 + b0_1)) : Int).toNat y183.1.1)).bind fun y184 => (some ((true, ()), ((y184.2.1.1.1, y184.2.1.1.2.1, y184.2.1.1.2.2.1, (), ()), ((), ()), (y184.2.1.2.1.1, ()), ()), ()))) else none) else none))))) else (bif ((b0_1 : Int) == 0) then (bif ((b0_1 : Int) == b0_2) then ((F50 a1.2.1 b0_1 b0_2 b1_0).bind fun y185 => ((F29 (a1.1, (a1.2.1, (a1.2.2.1, (a1.2.2.2.1, (a1.2.2.2.2.1, (a1.2.2.2.2.2.1, (a1.2.2.2.2.2.2.1, (a1.2.2.2.2.2.2.2.1, ()))))))))).bind fun y186 => (bif (decide (0 ≤ ((IntKind.wrap .i64 (y185.2.1.1.2.2.1 + y185.2.1.1.2.1)) : Int) ∧ ((IntKind.wrap .i64 (y185.2.1.1.2.2.1 + y185.2.1.1.2.1)) : Int) < (((y185.2.1.2.2.1.1).length : Nat) : Int))) then (bif (decide (((IntKind.wrap .i64 (y185.2.1.1.2.2.1 + y185.2.1.1.2.1)) : Int).toNat < (y185.2.1.2.2.1.1).length)) then ((L34_10 (IntKind.wrap .i64 (((IntKind.wrap .i64 (y185.2.1.1.2.2.1 + y185.2.1.1.2.1)) : Int).tdiv 2)) y185.2.1.1.1 (IntKind.wrap .i64 (y185.2.1.1.2.1 + 1)) y185.2.1.1.2.2.1 ((y185.2.1.2.2.1.1).set ((IntKind.wrap .i64 (y185.2.1.1.2.2.1 + y185.2.1.1.2.1)) : Int).toNat y186.1.1)).bind fun y187 => (some ((true, ()), ((y187.2.1.1.1, y187.2.1.1.2.1, y187.2.1.1.2.2.1, (), ()), ((), ()), (y187.2.1.2.1.1, ()), ()), ()))) else none) else none))) else ((F29 (a1.1, (a1.2.1, (a1.2.2.1, (a1.2.2.2.1, (a1.2.2.2.2.1, (a1.2.2.2.2.2.1, (a1.2.2.2.2.2.2.1, (a1.2.2.2.2.2.2.2.1, ()))))))))).bind fun y188 => (bif (decide (0 ≤ ((IntKind.wrap .i64 (b0_2 + b0_1)) : Int) ∧ ((IntKind.wrap .i64 (b0_2 + b0_1)) : Int) < (((b1_0).length : Nat) : Int))) then (bif (decide (((IntKind.wrap .i64 (b0_2 + b0_1)) : Int).toNat < (b1_0).length)) then ((L34_10 (IntKind.wrap .i64 (((IntKind.wrap .i64 (b0_2 + b0_1)) : Int).tdiv 2)) a1.2.1 (IntKind.wrap .i64 (b0_1 + 1)) b0_2 ((b1_0).set ((IntKind.wrap .i64 (b0_2 + b0_1)) : Int).toNat y188.1.1)).bind fun y189 => (some ((true, ()), ((y189.2.1.1.1, y189.2.1.1.2.1, y189.2.1.1.2.2.1, (), ()), ((), ()), (y189.2.1.2.1.1, ()), ()), ()))) else none) else none))) else (bif ((b0_1 : Int) == b0_2) then ((F50 b0_0 b0_1 b0_2 b1_0).bind fun y190 => ((F29 (a1.1, (a1.2.1, (a1.2.2.1, (a1.2.2.2.1, (a1.2.2.2.2.1, (a1.2.2.2.2.2.1, (a1.2.2.2.2.2.2.1, (a1.2.2.2.2.2.2.2.1, ()))))))))).bind fun y191 => (bif (decide (0 ≤ ((IntKind.wrap .i64 (y190.2.1.1.2.2.1 + y190.2.1.1.2.1)) : Int) ∧ ((IntKind.wrap .i64 (y190.2.1.1.2.2.1 + y190.2.1.1.2.1)) : Int) < (((y190.2.1.2.2.1.1).length : Nat) : Int))) then (bif (decide (((IntKind.wrap .i64 (y190.2.1.1.2.2.1 + y190.2.1.1.2.1)) : Int).toNat < (y190.2.1.2.2.1.1).length)) then ((L34_10 (IntKind.wrap .i64 (((IntKind.wrap .i64 (y190.2.1.1.2.2.1 + y190.2.1.1.2.1)) : Int).tdiv 2)) y190.2.1.1.1 (IntKind.wrap .i64 (y190.2.1.1.2.1 + 1)) y190.2.1.1.2.2.1 ((y190.2.1.2.2.1.1).set ((IntKind.wrap .i64 (y190.2.1.1.2.2.1 + y190.2.1.1.2.1)) : Int).toNat y191.1.1)).bind fun y192 => (some ((true, ()), ((y192.2.1.1.1, y192.2.1.1.2.1, y192.2.1.1.2.2.1, (), ()), ((), ()), (y192.2.1.2.1.1, ()), ()), ()))) else none) else none))) else ((F29 (a1.1, (a1.2.1, (a1.2.2.1, (a1.2.2.2.1, (a1.2.2.2.2.1, (a1.2.2.2.2.2.1, (a1.2.2.2.2.2.2.1, (a1.2.2.2.2.2.2.2.1, ()))))))))).bind fun y193 => (bif (decide (0 ≤ ((IntKind.wrap .i64 (b0_2 + b0_1)) : Int) ∧ ((IntKind.wrap .i64 (b0_2 + b0_1)) : Int) < (((b1_0).length : Nat) : Int))) then (bif (decide (((IntKind.wrap .i64 (b0_2 + b0_1)) : Int).toNat < (b1_0).length)) then ((L34_10 (IntKind.wrap .i64 (((IntKind.wrap .i64 (b0_2 + b0_1)) : Int).tdiv 2)) b0_0 (IntKind.wrap .i64 (b0_1 + 1)) b0_2 ((b1_0).set ((IntKind.wrap .i64 (b0_2 + b0_1)) : Int).toNat y193.1.1)).bind fun y194 => (some ((true, ()), ((y194.2.1.1.1, y194.2.1.1.2.1, y194.2.1.1.2.2.1, (), ()), ((), ()), (y194.2.1.2.1.1, ()), ()), ()))) else none) else none)))))
noncomputable def c34 : Con := ⟨i34, o34, fun x => F34 x.1.2.1 x.2.1.1.1 x.2.1.1.2.1 x.2.1.1.2.2.1 x.2.1.2.1.1⟩
theorem e34 (x : i34.E) : vfn Try.prog C34 LO34 Try.f34 b34 i34 o34 x = F34 x.1.2.1 x.2.1.1.1 x.2.1.1.2.1 x.2.1.1.2.2.1 x.2.1.2.1.1 := by kernel_rfl
theorem c34_ok : Con.OK Try.prog 34 c34 := (fn_ok C34_ok Try.func34 body34 (loops_of (l := [l34_10]) (by kernel_rfl) (show LoopsOK Try.prog Try.f34.ntmps [l34_10] LO34 from ⟨k34_10_ok, trivial⟩)) i34 o34).congr fun x => (e34 x).symm
noncomputable def l34n_10 : Code := (.seq (.seq (.region 10 (regOf Try.f34 10) false) (.cond (.tmp 79) .skip (.exit 0))) (.seq (.block 1 (.region 12 (regOf Try.f34 12) true)) (.region 11 (regOf Try.f34 11) false)))
noncomputable def b34n : Code := (.seq (.region 0 (regOf Try.f34 0) false) (.seq (.seq (.region 1 (regOf Try.f34 1) true) (.cond (.tmp 29) (.seq (.region 2 (regOf Try.f34 2) false) .ret) .skip)) (.seq (.seq (.region 3 (regOf Try.f34 3) false) (.cond (.tmp 34) (.region 4 (regOf Try.f34 4) false) .skip)) (.seq (.seq (.region 5 (regOf Try.f34 5) true) (.cond (.tmp 48) (.region 6 (regOf Try.f34 6) false) .skip)) (.seq (.region 7 (regOf Try.f34 7) true) (.seq (.region 8 (regOf Try.f34 8) true) (.seq (.seq (.region 9 (regOf Try.f34 9) false) (.block 0 (.loop l34n_10))) (.seq (.region 13 (regOf Try.f34 13) false) .ret))))))))
theorem body34n : Try.f34.body = some b34n := by kernel_rfl
noncomputable def C34n : Tab := []
theorem C34n_ok : TabOK Try.prog C34n := trivial
noncomputable def LO34n : Tab := []
noncomputable def i34n : Tm := { sl := [(0, .nl), (1, .v (.p (.i .i64) (.p (.i .u64) (.p (.i .u64) (.p (.i .u8) (.p .s (.p (.l (.i .u8)) (.p (.f .f64) (.p (.i .i64) .u)))))))))], bx := [], bf := [] }
noncomputable def o34n : OT := (.ret { sl := [(0, .v .b)], bx := [], bf := [] })
/-- (*anabranch/sums.Tree).Add -/
noncomputable def F34n (a1 : (Int × (Int × (Int × (Int × (ByteArray × ((List Int) × (Nat × (Int × Unit))))))))) : Option ((Bool × Unit) × Unit × Unit) :=
  (some ((false, ()), (), ()))
noncomputable def c34n : Con := ⟨i34n, o34n, fun x => F34n x.1.2.1⟩
theorem e34n (x : i34n.E) : vfn Try.prog C34n LO34n Try.f34 b34n i34n o34n x = F34n x.1.2.1 := by kernel_rfl
theorem c34n_ok : Con.OK Try.prog 34 c34n := (fn_ok C34n_ok Try.func34 body34n (show ∀ b' ∈ loopsOf b34n, ∀ con, lookC LO34n (headReg b') = some con → con.LOK Try.prog Try.f34.ntmps b' from fun _ _ _ h => absurd (show (none : Option Con) = some _ from h) (fun h => by cases h)) i34n o34n).congr fun x => (e34n x).symm
noncomputable def b32n : Code := (.seq (.region 0 (regOf Try.f32 0) false) (.seq (.seq (.region 1 (regOf Try.f32 1) false) (.cond (.tmp 4) (.seq (.region 2 (regOf Try.f32 2) false) .ret) .skip)) (.seq (.region 3 (regOf Try.f32 3) false) .ret)))
theorem body32n : Try.f32.body = some b32n := by kernel_rfl
noncomputable def C32n : Tab := []
theorem C32n_ok : TabOK Try.prog C32n := trivial
noncomputable def LO32n : Tab := []
noncomputable def i32n : Tm := { sl := [(0, .nl)], bx := [], bf := [] }
noncomputable def o32n : OT := (.ret { sl := [(0, .v (.i .u64))], bx := [], bf := [] })
/-- (*anabranch/sums.Tree).First -/
noncomputable def F32n : Option ((Int × Unit) × Unit × Unit) :=
  (some ((1, ()), (), ()))
noncomputable def c32n : Con := ⟨i32n, o32n, fun x => F32n⟩
theorem e32n (x : i32n.E) : vfn Try.prog C32n LO32n Try.f32 b32n i32n o32n x = F32n := by kernel_rfl
theorem c32n_ok : Con.OK Try.prog 32 c32n := (fn_ok C32n_ok Try.func32 body32n (loops_of (l := []) (by kernel_rfl) (show LoopsOK Try.prog Try.f32.ntmps [] LO32n from trivial)) i32n o32n).congr fun x => (e32n x).symm
noncomputable def b27n : Code := (.seq (.region 0 (regOf Try.f27 0) false) (.seq (.seq (.region 1 (regOf Try.f27 1) false) (.cond (.tmp 4) (.seq (.region 2 (regOf Try.f27 2) false) .ret) .skip)) (.seq (.region 3 (regOf Try.f27 3) false) .ret)))
theorem body27n : Try.f27.body = some b27n := by kernel_rfl
noncomputable def C27n : Tab := []
theorem C27n_ok : TabOK Try.prog C27n := trivial
noncomputable def LO27n : Tab := []
noncomputable def i27n : Tm := { sl := [(0, .nl)], bx := [], bf := [] }
noncomputable def o27n : OT := (.ret { sl := [(0, .v (.i .i64))], bx := [], bf := [] })
/-- (*anabranch/sums.Tree).Len -/
noncomputable def F27n : Option ((Int × Unit) × Unit × Unit) :=
  (some ((0, ()), (), ()))
noncomputable def c27n : Con := ⟨i27n, o27n, fun x => F27n⟩
theorem e27n (x : i27n.E) : vfn Try.prog C27n LO27n Try.f27 b27n i27n o27n x = F27n := by kernel_rfl
theorem c27n_ok : Con.OK Try.prog 27 c27n := (fn_ok C27n_ok Try.func27 body27n (loops_of (l := []) (by kernel_rfl) (show LoopsOK Try.prog Try.f27.ntmps [] LO27n from trivial)) i27n o27n).congr fun x => (e27n x).symm
noncomputable def b31n : Code := (.seq (.region 0 (regOf Try.f31 0) false) (.seq (.seq (.region 1 (regOf Try.f31 1) false) (.cond (.tmp 4) (.seq (.region 2 (regOf Try.f31 2) false) .ret) .skip)) (.seq (.region 3 (regOf Try.f31 3) false) .ret)))
theorem body31n : Try.f31.body = some b31n := by kernel_rfl
noncomputable def C31n : Tab := []
theorem C31n_ok : TabOK Try.prog C31n := trivial
noncomputable def LO31n : Tab := []
noncomputable def i31n : Tm := { sl := [(0, .nl)], bx := [], bf := [] }
noncomputable def o31n : OT := (.ret { sl := [(0, .v (.i .u64))], bx := [], bf := [] })
/-- (*anabranch/sums.Tree).Root -/
noncomputable def F31n : Option ((Int × Unit) × Unit × Unit) :=
  (some ((0, ()), (), ()))
noncomputable def c31n : Con := ⟨i31n, o31n, fun x => F31n⟩
theorem e31n (x : i31n.E) : vfn Try.prog C31n LO31n Try.f31 b31n i31n o31n x = F31n := by kernel_rfl
theorem c31n_ok : Con.OK Try.prog 31 c31n := (fn_ok C31n_ok Try.func31 body31n (loops_of (l := []) (by kernel_rfl) (show LoopsOK Try.prog Try.f31.ntmps [] LO31n from trivial)) i31n o31n).congr fun x => (e31n x).symm
noncomputable def b28n : Code := (.seq (.region 0 (regOf Try.f28 0) false) (.seq (.seq (.region 1 (regOf Try.f28 1) false) (.cond (.tmp 20) (.seq (.region 2 (regOf Try.f28 2) false) .ret) .skip)) (.seq (.region 3 (regOf Try.f28 3) false) .ret)))
theorem body28n : Try.f28.body = some b28n := by kernel_rfl
noncomputable def C28n : Tab := []
theorem C28n_ok : TabOK Try.prog C28n := trivial
noncomputable def LO28n : Tab := []
noncomputable def i28n : Tm := { sl := [(0, .nl), (1, .v (.i .i64))], bx := [], bf := [] }
noncomputable def o28n : OT := (.ret { sl := [(0, .v (.i .u64)), (1, .v .b)], bx := [], bf := [] })
/-- (*anabranch/sums.Tree).Node -/
noncomputable def F28n (a1 : Int) : Option ((Int × (Bool × Unit)) × Unit × Unit) :=
  (some ((0, false, ()), (), ()))
noncomputable def c28n : Con := ⟨i28n, o28n, fun x => F28n x.1.2.1⟩
theorem e28n (x : i28n.E) : vfn Try.prog C28n LO28n Try.f28 b28n i28n o28n x = F28n x.1.2.1 := by kernel_rfl
theorem c28n_ok : Con.OK Try.prog 28 c28n := (fn_ok C28n_ok Try.func28 body28n (loops_of (l := []) (by kernel_rfl) (show LoopsOK Try.prog Try.f28.ntmps [] LO28n from trivial)) i28n o28n).congr fun x => (e28n x).symm
noncomputable def l9_10 : Code := (.seq (.seq (.region 10 (regOf Try.f9 10) false) (.cond (.tmp 65) .skip (.exit 0))) (.seq (.block 1 (.seq (.region 12 (regOf Try.f9 12) false) (.seq (.region 13 (regOf Try.f9 13) false) (.seq (.seq (.region 14 (regOf Try.f9 14) false) (.cond (.tmp 91) (.seq (.region 15 (regOf Try.f9 15) false) .ret) .skip)) (.seq (.region 16 (regOf Try.f9 16) false) (.seq (.region 17 (regOf Try.f9 17) false) (.cond (.tmp 117) (.seq (.region 18 (regOf Try.f9 18) false) .ret) .skip))))))) (.region 11 (regOf Try.f9 11) false)))
noncomputable def b9 : Code := (.seq (.region 0 (regOf Try.f9 0) false) (.seq (.seq (.region 1 (regOf Try.f9 1) false) (.cond (.tmp 38) (.seq (.region 2 (regOf Try.f9 2) false) .ret) .skip)) (.seq (.region 3 (regOf Try.f9 3) false) (.seq (.region 4 (regOf Try.f9 4) false) (.seq (.region 5 (regOf Try.f9 5) false) (.seq (.region 6 (regOf Try.f9 6) false) (.seq (.seq (.region 7 (regOf Try.f9 7) false) (.cond (.tmp 60) (.seq (.region 8 (regOf Try.f9 8) false) .ret) .skip)) (.seq (.seq (.region 9 (regOf Try.f9 9) false) (.block 0 (.loop l9_10))) (.seq (.region 19 (regOf Try.f9 19) false) (.seq (.region 20 (regOf Try.f9 20) false) (.seq (.region 21 (regOf Try.f9 21) false) .ret)))))))))))
theorem body9 : Try.f9.body = some b9 := by kernel_rfl
noncomputable def C9_10 : Tab := [(18, c18), (27, c27), (31, c31), (32, c32), (34, c34)]
theorem C9_10_ok : TabOK Try.prog C9_10 := ⟨c18_ok, c27_ok, c31_ok, c32_ok, c34_ok, trivial⟩
noncomputable def LO9_10 : Tab := []
noncomputable def i9_10 : Tm := { sl := [(2, .v (.i .u64)), (7, .p 0 0), (9, .v (.l (.p (.i .i64) (.p (.i .u64) (.p (.i .u64) (.p (.i .u8) (.p .s (.p (.l (.i .u8)) (.p (.f .f64) (.p (.i .i64) .u)))))))))), (11, .p 1 0), (13, .v (.i .i64))], bx := [[.v (.i .i64), .v (.i .u64), .v (.i .u64), .v (.i .u8), .v .s, .v (.l (.i .u8)), .v (.f .f64), .v (.i .i64)], [.v (.i .u64), .v (.i .i64), .v (.i .i64), .m (.i .u64) 2], [.r (.i .u64)]], bf := [] }
noncomputable def o9_10 : OT := (.two (.ret { sl := [(8, .v .b)], bx := [[.v (.i .i64), .v (.i .u64), .v (.i .u64), .v (.i .u8), .v .s, .v (.l (.i .u8)), .v (.f .f64), .v (.i .i64)], [.v (.i .u64), .v (.i .i64), .v (.i .i64), .m (.i .u64) 3], [.g], [.r (.i .u64)]], bf := [] }) (.exit 0 { sl := [], bx := [[.v (.i .i64), .v (.i .u64), .v (.i .u64), .v (.i .u8), .v .s, .v (.l (.i .u8)), .v (.f .f64), .v (.i .i64)], [.v (.i .u64), .v (.i .i64), .v (.i .i64), .m (.i .u64) 3], [.g], [.r (.i .u64)]], bf := [] }))
noncomputable def T9_10 (a2 : Int) (a9 : (List (Int × (Int × (Int × (Int × (ByteArray × ((List Int) × (Nat × (Int × Unit)))))))))) (a13 : Int) (b0_0 : Int) (b0_1 : Int) (b0_2 : Int) (b0_3 : Int) (b0_4 : ByteArray) (b0_5 : (List Int)) (b0_6 : Nat) (b0_7 : Int) (b1_0 : Int) (b1_1 : Int) (b1_2 : Int) (b2_0 : (List Int)) : Option (((Int × (Unit × ((List (Int × (Int × (Int × (Int × (ByteArray × ((List Int) × (Nat × (Int × Unit))))))))) × (Unit × (Int × Unit))))) × ((Int × (Int × (Int × (Int × (ByteArray × ((List Int) × (Nat × (Int × Unit)))))))) × ((Int × (Int × (Int × (Unit × Unit)))) × (((List Int) × Unit) × Unit))) × Unit) ⊕ (((Bool × Unit) × ((Int × (Int × (Int × (Int × (ByteArray × ((List Int) × (Nat × (Int × Unit)))))))) × ((Int × (Int × (Int × (Unit × Unit)))) × ((Unit × Unit) × (((List Int) × Unit) × Unit)))) × Unit) ⊕ (Unit × ((Int × (Int × (Int × (Int × (ByteArray × ((List Int) × (Nat × (Int × Unit)))))))) × ((Int × (Int × (Int × (Unit × Unit)))) × ((Unit × Unit) × (((List Int) × Unit) × Unit)))) × Unit))) :=
  (bif (decide ((a13 : Int) < (((a9).length : Nat) : Int))) then (bif (decide (0 ≤ (a13 : Int) ∧ (a13 : Int) < (((a9).length : Nat) : Int))) then (bif (decide ((a13 : Int) > 0)) then ((F34 (((a9).getD (a13 : Int).toNat ((0 : Int), ((0 : Int), ((0 : Int), ((0 : Int), (ByteArray.empty, ([], ((0 : Nat), ((0 : Int), ()))))))))).1, ((IntKind.wrap .u64 (((a9).getD (a13 : Int).toNat ((0 : Int), ((0 : Int), ((0 : Int), ((0 : Int), (ByteArray.empty, ([], ((0 : Nat), ((0 : Int), ()))))))))).2.1 + 2)), (((a9).getD (a13 : Int).toNat ((0 : Int), ((0 : Int), ((0 : Int), ((0 : Int), (ByteArray.empty, ([], ((0 : Nat), ((0 : Int), ()))))))))).2.2.1, (((a9).getD (a13 : Int).toNat ((0 : Int), ((0 : Int), ((0 : Int), ((0 : Int), (ByteArray.empty, ([], ((0 : Nat), ((0 : Int), ()))))))))).2.2.2.1, (((a9).getD (a13 : Int).toNat ((0 : Int), ((0 : Int), ((0 : Int), ((0 : Int), (ByteArray.empty, ([], ((0 : Nat), ((0 : Int), ()))))))))).2.2.2.2.1, (((a9).getD (a13 : Int).toNat ((0 : Int), ((0 : Int), ((0 : Int), ((0 : Int), (ByteArray.empty, ([], ((0 : Nat), ((0 : Int), ()))))))))).2.2.2.2.2.1, (((a9).getD (a13 : Int).toNat ((0 : Int), ((0 : Int), ((0 : Int), ((0 : Int), (ByteArray.empty, ([], ((0 : Nat), ((0 : Int), ()))))))))).2.2.2.2.2.2.1, (((a9).getD (a13 : Int).toNat ((0 : Int), ((0 : Int), ((0 : Int), ((0 : Int), (ByteArray.empty, ([], ((0 : Nat), ((0 : Int), ()))))))))).2.2.2.2.2.2.2.1, ())))))))) b1_0 b1_1 b1_2 b2_0).bind fun y215 => (bif y215.1.1 then (some (.inr (.inl ((false, ()), ((b0_0, b0_1, b0_2, b0_3, b0_4, b0_5, b0_6, b0_7, ()), (y215.2.1.1.1, y215.2.1.1.2.1, y215.2.1.1.2.2.1, (), ()), ((), ()), (y215.2.1.2.2.1.1, ()), ()), ())))) else (bif (decide (0 ≤ (a13 : Int) ∧ (a13 : Int) < (((a9).length : Nat) : Int))) then ((F34 (((a9).getD (a13 : Int).toNat ((0 : Int), ((0 : Int), ((0 : Int), ((0 : Int), (ByteArray.empty, ([], ((0 : Nat), ((0 : Int), ()))))))))).1, (((a9).getD (a13 : Int).toNat ((0 : Int), ((0 : Int), ((0 : Int), ((0 : Int), (ByteArray.empty, ([], ((0 : Nat), ((0 : Int), ()))))))))).2.1, (((a9).getD (a13 : Int).toNat ((0 : Int), ((0 : Int), ((0 : Int), ((0 : Int), (ByteArray.empty, ([], ((0 : Nat), ((0 : Int), ()))))))))).2.2.1, (((a9).getD (a13 : Int).toNat ((0 : Int), ((0 : Int), ((0 : Int), ((0 : Int), (ByteArray.empty, ([], ((0 : Nat), ((0 : Int), ()))))))))).2.2.2.1, (((a9).getD (a13 : Int).toNat ((0 : Int), ((0 : Int), ((0 : Int), ((0 : Int), (ByteArray.empty, ([], ((0 : Nat), ((0 : Int), ()))))))))).2.2.2.2.1, (((a9).getD (a13 : Int).toNat ((0 : Int), ((0 : Int), ((0 : Int), ((0 : Int), (ByteArray.empty, ([], ((0 : Nat), ((0 : Int), ()))))))))).2.2.2.2.2.1, (((a9).getD (a13 : Int).toNat ((0 : Int), ((0 : Int), ((0 : Int), ((0 : Int), (ByteArray.empty, ([], ((0 : Nat), ((0 : Int), ()))))))))).2.2.2.2.2.2.1, (((a9).getD (a13 : Int).toNat ((0 : Int), ((0 : Int), ((0 : Int), ((0 : Int), (ByteArray.empty, ([], ((0 : Nat), ((0 : Int), ()))))))))).2.2.2.2.2.2.2.1, ())))))))) y215.2.1.1.1 y215.2.1.1.2.1 y215.2.1.1.2.2.1 y215.2.1.2.2.1.1).bind fun y216 => (bif (!y216.1.1) then (some (.inr (.inl ((false, ()), ((b0_0, b0_1, b0_2, b0_3, b0_4, b0_5, b0_6, b0_7, ()), (y216.2.1.1.1, y216.2.1.1.2.1, y216.2.1.1.2.2.1, (), ()), ((), ()), (y216.2.1.2.2.1.1, ()), ()), ())))) else (bif (decide (0 ≤ ((IntKind.wrap .i64 (a13 + 1)) : Int) ∧ ((IntKind.wrap .i64 (a13 + 1)) : Int) ≤ (((a9).length : Nat) : Int))) then ((F18 ((a9).take ((IntKind.wrap .i64 (a13 + 1)) : Int).toNat)).bind fun y217 => ((F31 y216.2.1.1.1 y216.2.1.1.2.1 y216.2.1.1.2.2.1 y216.2.1.2.2.1.1).bind fun y218 => ((F31 y217.2.1.1.1 y217.2.1.1.2.1 y217.2.1.1.2.2.1 y217.2.1.2.1.1).bind fun y219 => (bif ((y218.1.1 : Int) != y219.1.1) then (some (.inr (.inl ((false, ()), ((b0_0, b0_1, b0_2, b0_3, b0_4, b0_5, b0_6, b0_7, ()), (y218.2.1.1.1, y218.2.1.1.2.1, y218.2.1.1.2.2.1, (), ()), ((), ()), (y218.2.1.2.1.1, ()), ()), ())))) else ((F27 y218.2.1.1.1 y218.2.1.1.2.1 y218.2.1.1.2.2.1 y218.2.1.2.1.1).bind fun y220 => (bif ((y220.1.1 : Int) != (IntKind.wrap .i64 (a13 + 1))) then (some (.inr (.inl ((false, ()), ((b0_0, b0_1, b0_2, b0_3, b0_4, b0_5, b0_6, b0_7, ()), (y220.2.1.1.1, y220.2.1.1.2.1, y220.2.1.1.2.2.1, (), ()), ((), ()), (y220.2.1.2.1.1, ()), ()), ())))) else ((F32 y220.2.1.1.1 y220.2.1.1.2.1 y220.2.1.1.2.2.1 y220.2.1.2.1.1).bind fun y221 => (bif ((y221.1.1 : Int) != a2) then (some (.inr (.inl ((false, ()), ((b0_0, b0_1, b0_2, b0_3, b0_4, b0_5, b0_6, b0_7, ()), (y221.2.1.1.1, y221.2.1.1.2.1, y221.2.1.1.2.2.1, (), ()), ((), ()), (y221.2.1.2.1.1, ()), ()), ())))) else (some (.inl ((a2, (), a9, (), (IntKind.wrap .i64 (a13 + 1)), ()), ((b0_0, b0_1, b0_2, b0_3, b0_4, b0_5, b0_6, b0_7, ()), (y221.2.1.1.1, y221.2.1.1.2.1, y221.2.1.1.2.2.1, (), ()), (y221.2.1.2.1.1, ()), ()), ()))))))))))) else none))) else none))) else (bif (decide (0 ≤ (a13 : Int) ∧ (a13 : Int) < (((a9).length : Nat) : Int))) then ((F34 (((a9).getD (a13 : Int).toNat ((0 : Int), ((0 : Int), ((0 : Int), ((0 : Int), (ByteArray.empty, ([], ((0 : Nat), ((0 : Int), ()))))))))).1, (((a9).getD (a13 : Int).toNat ((0 : Int), ((0 : Int), ((0 : Int), ((0 : Int), (ByteArray.empty, ([], ((0 : Nat), ((0 : Int), ()))))))))).2.1, (((a9).getD (a13 : Int).toNat ((0 : Int), ((0 : Int), ((0 : Int), ((0 : Int), (ByteArray.empty, ([], ((0 : Nat), ((0 : Int), ()))))))))).2.2.1, (((a9).getD (a13 : Int).toNat ((0 : Int), ((0 : Int), ((0 : Int), ((0 : Int), (ByteArray.empty, ([], ((0 : Nat), ((0 : Int), ()))))))))).2.2.2.1, (((a9).getD (a13 : Int).toNat ((0 : Int), ((0 : Int), ((0 : Int), ((0 : Int), (ByteArray.empty, ([], ((0 : Nat), ((0 : Int), ()))))))))).2.2.2.2.1, (((a9).getD (a13 : Int).toNat ((0 : Int), ((0 : Int), ((0 : Int), ((0 : Int), (ByteArray.empty, ([], ((0 : Nat), ((0 : Int), ()))))))))).2.2.2.2.2.1, (((a9).getD (a13 : Int).toNat ((0 : Int), ((0 : Int), ((0 : Int), ((0 : Int), (ByteArray.empty, ([], ((0 : Nat), ((0 : Int), ()))))))))).2.2.2.2.2.2.1, (((a9).getD (a13 : Int).toNat ((0 : Int), ((0 : Int), ((0 : Int), ((0 : Int), (ByteArray.empty, ([], ((0 : Nat), ((0 : Int), ()))))))))).2.2.2.2.2.2.2.1, ())))))))) b1_0 b1_1 b1_2 b2_0).bind fun y222 => (bif (!y222.1.1) then (some (.inr (.inl ((false, ()), ((b0_0, b0_1, b0_2, b0_3, b0_4, b0_5, b0_6, b0_7, ()), (y222.2.1.1.1, y222.2.1.1.2.1, y222.2.1.1.2.2.1, (), ()), ((), ()), (y222.2.1.2.2.1.1, ()), ()), ())))) else (bif (decide (0 ≤ ((IntKind.wrap .i64 (a13 + 1)) : Int) ∧ ((IntKind.wrap .i64 (a13 + 1)) : Int) ≤ (((a9).length : Nat) : Int))) then ((F18 ((a9).take ((IntKind.wrap .i64 (a13 + 1)) : Int).toNat)).bind fun y223 => ((F31 y222.2.1.1.1 y222.2.1.1.2.1 y222.2.1.1.2.2.1 y222.2.1.2.2.1.1).bind fun y224 => ((F31 y223.2.1.1.1 y223.2.1.1.2.1 y223.2.1.1.2.2.1 y223.2.1.2.1.1).bind fun y225 => (bif ((y224.1.1 : Int) != y225.1.1) then (some (.inr (.inl ((false, ()), ((b0_0, b0_1, b0_2, b0_3, b0_4, b0_5, b0_6, b0_7, ()), (y224.2.1.1.1, y224.2.1.1.2.1, y224.2.1.1.2.2.1, (), ()), ((), ()), (y224.2.1.2.1.1, ()), ()), ())))) else ((F27 y224.2.1.1.1 y224.2.1.1.2.1 y224.2.1.1.2.2.1 y224.2.1.2.1.1).bind fun y226 => (bif ((y226.1.1 : Int) != (IntKind.wrap .i64 (a13 + 1))) then (some (.inr (.inl ((false, ()), ((b0_0, b0_1, b0_2, b0_3, b0_4, b0_5, b0_6, b0_7, ()), (y226.2.1.1.1, y226.2.1.1.2.1, y226.2.1.1.2.2.1, (), ()), ((), ()), (y226.2.1.2.1.1, ()), ()), ())))) else ((F32 y226.2.1.1.1 y226.2.1.1.2.1 y226.2.1.1.2.2.1 y226.2.1.2.1.1).bind fun y227 => (bif ((y227.1.1 : Int) != a2) then (some (.inr (.inl ((false, ()), ((b0_0, b0_1, b0_2, b0_3, b0_4, b0_5, b0_6, b0_7, ()), (y227.2.1.1.1, y227.2.1.1.2.1, y227.2.1.1.2.2.1, (), ()), ((), ()), (y227.2.1.2.1.1, ()), ()), ())))) else (some (.inl ((a2, (), a9, (), (IntKind.wrap .i64 (a13 + 1)), ()), ((b0_0, b0_1, b0_2, b0_3, b0_4, b0_5, b0_6, b0_7, ()), (y227.2.1.1.1, y227.2.1.1.2.1, y227.2.1.1.2.2.1, (), ()), (y227.2.1.2.1.1, ()), ()), ()))))))))))) else none))) else none)) else none) else (some (.inr (.inr ((), ((b0_0, b0_1, b0_2, b0_3, b0_4, b0_5, b0_6, b0_7, ()), (b1_0, b1_1, b1_2, (), ()), ((), ()), (b2_0, ()), ()), ())))))
noncomputable def L9_10 (a2 : Int) (a9 : (List (Int × (Int × (Int × (Int × (ByteArray × ((List Int) × (Nat × (Int × Unit)))))))))) (a13 : Int) (b0_0 : Int) (b0_1 : Int) (b0_2 : Int) (b0_3 : Int) (b0_4 : ByteArray) (b0_5 : (List Int)) (b0_6 : Nat) (b0_7 : Int) (b1_0 : Int) (b1_1 : Int) (b1_2 : Int) (b2_0 : (List Int)) : Option (((Bool × Unit) × ((Int × (Int × (Int × (Int × (ByteArray × ((List Int) × (Nat × (Int × Unit)))))))) × ((Int × (Int × (Int × (Unit × Unit)))) × ((Unit × Unit) × (((List Int) × Unit) × Unit)))) × Unit) ⊕ (Unit × ((Int × (Int × (Int × (Int × (ByteArray × ((List Int) × (Nat × (Int × Unit)))))))) × ((Int × (Int × (Int × (Unit × Unit)))) × ((Unit × Unit) × (((List Int) × Unit) × Unit)))) × Unit)) := loopF (fun x : ((Int × (Unit × ((List (Int × (Int × (Int × (Int × (ByteArray × ((List Int) × (Nat × (Int × Unit))))))))) × (Unit × (Int × Unit))))) × ((Int × (Int × (Int × (Int × (ByteArray × ((List Int) × (Nat × (Int × Unit)))))))) × ((Int × (Int × (Int × (Unit × Unit)))) × (((List Int) × Unit) × Unit))) × Unit) => T9_10 x.1.1 x.1.2.2.1 x.1.2.2.2.2.1 x.2.1.1.1 x.2.1.1.2.1 x.2.1.1.2.2.1 x.2.1.1.2.2.2.1 x.2.1.1.2.2.2.2.1 x.2.1.1.2.2.2.2.2.1 x.2.1.1.2.2.2.2.2.2.1 x.2.1.1.2.2.2.2.2.2.2.1 x.2.1.2.1.1 x.2.1.2.1.2.1 x.2.1.2.1.2.2.1 x.2.1.2.2.1.1) ((a2, (), a9, (), a13, ()), ((b0_0, b0_1, b0_2, b0_3, b0_4, b0_5, b0_6, b0_7, ()), (b1_0, b1_1, b1_2, (), ()), (b2_0, ()), ()), ())
theorem L9_10_eq (a2 : Int) (a9 : (List (Int × (Int × (Int × (Int × (ByteArray × ((List Int) × (Nat × (Int × Unit)))))))))) (a13 : Int) (b0_0 : Int) (b0_1 : Int) (b0_2 : Int) (b0_3 : Int) (b0_4 : ByteArray) (b0_5 : (List Int)) (b0_6 : Nat) (b0_7 : Int) (b1_0 : Int) (b1_1 : Int) (b1_2 : Int) (b2_0 : (List Int)) : L9_10 a2 a9 a13 b0_0 b0_1 b0_2 b0_3 b0_4 b0_5 b0_6 b0_7 b1_0 b1_1 b1_2 b2_0 = (T9_10 a2 a9 a13 b0_0 b0_1 b0_2 b0_3 b0_4 b0_5 b0_6 b0_7 b1_0 b1_1 b1_2 b2_0).bind (Sum.elim (fun x => L9_10 x.1.1 x.1.2.2.1 x.1.2.2.2.2.1 x.2.1.1.1 x.2.1.1.2.1 x.2.1.1.2.2.1 x.2.1.1.2.2.2.1 x.2.1.1.2.2.2.2.1 x.2.1.1.2.2.2.2.2.1 x.2.1.1.2.2.2.2.2.2.1 x.2.1.1.2.2.2.2.2.2.2.1 x.2.1.2.1.1 x.2.1.2.1.2.1 x.2.1.2.1.2.2.1 x.2.1.2.2.1.1) some) := loopF_eq _ _
noncomputable def k9_10 : Con := ⟨i9_10, o9_10, fun x => L9_10 x.1.1 x.1.2.2.1 x.1.2.2.2.2.1 x.2.1.1.1 x.2.1.1.2.1 x.2.1.1.2.2.1 x.2.1.1.2.2.2.1 x.2.1.1.2.2.2.2.1 x.2.1.1.2.2.2.2.2.1 x.2.1.1.2.2.2.2.2.2.1 x.2.1.1.2.2.2.2.2.2.2.1 x.2.1.2.1.1 x.2.1.2.1.2.1 x.2.1.2.1.2.2.1 x.2.1.2.2.1.1⟩
theorem e9_10 (x : i9_10.E) : vround Try.prog C9_10 LO9_10 Try.f9.ntmps l9_10 i9_10 o9_10 x = T9_10 x.1.1 x.1.2.2.1 x.1.2.2.2.2.1 x.2.1.1.1 x.2.1.1.2.1 x.2.1.1.2.2.1 x.2.1.1.2.2.2.1 x.2.1.1.2.2.2.2.1 x.2.1.1.2.2.2.2.2.1 x.2.1.1.2.2.2.2.2.2.1 x.2.1.1.2.2.2.2.2.2.2.1 x.2.1.2.1.1 x.2.1.2.1.2.1 x.2.1.2.1.2.2.1 x.2.1.2.2.1.1 := by kernel_rfl
theorem k9_10_ok : Con.LOK Try.prog Try.f9.ntmps l9_10 k9_10 := (loop_ok C9_10_ok (loops_of (l := []) (by kernel_rfl) (show LoopsOK Try.prog Try.f9.ntmps [] LO9_10 from trivial)) i9_10 o9_10).congr fun x => (congrArg (fun T => loopF T x) (funext e9_10)).symm
noncomputable def C9 : Tab := [(16, c16), (17, c17), (18, c18), (27, c27), (27, c27n), (28, c28n), (31, c31), (31, c31n), (32, c32), (32, c32n), (34, c34), (34, c34n)]
theorem C9_ok : TabOK Try.prog C9 := ⟨c16_ok, c17_ok, c18_ok, c27_ok, c27n_ok, c28n_ok, c31_ok, c31n_ok, c32_ok, c32n_ok, c34_ok, c34n_ok, trivial⟩
noncomputable def LO9 : Tab := [(10, k9_10)]
noncomputable def i9 : Tm := { sl := [(0, .v (.l (.i .u8))), (1, .v (.i .u8)), (2, .v (.i .u64)), (3, .v (.p (.i .i64) (.p (.i .u64) (.p (.i .u64) (.p (.i .u8) (.p .s (.p (.l (.i .u8)) (.p (.f .f64) (.p (.i .i64) .u)))))))))], bx := [], bf := [] }
noncomputable def o9 : OT := (.ret { sl := [(0, .v .b)], bx := [], bf := [] })
/-- anabranch/anabranchlaw26.SumsAdds -/
noncomputable def F9 (a0 : (List Int)) (a1 : Int) (a2 : Int) (a3 : (Int × (Int × (Int × (Int × (ByteArray × ((List Int) × (Nat × (Int × Unit))))))))) : Option ((Bool × Unit) × Unit × Unit) :=
  ((F16).bind fun y195 => (bif (!y195.1.1) then ((F16).bind fun y196 => (some ((y196.1.1, ()), (), ()))) else (bif (decide (((((a0).length : Nat) : Int) : Int) > 60)) then ((F16).bind fun y197 => (some ((y197.1.1, ()), (), ()))) else (bif (decide ((((a3.2.2.2.2.1.size : Nat) : Int) : Int) > 64)) then ((F16).bind fun y198 => (some ((y198.1.1, ()), (), ()))) else (bif (decide (((((a3.2.2.2.2.2.1).length : Nat) : Int) : Int) > 100)) then ((F16).bind fun y199 => (some ((y199.1.1, ()), (), ()))) else ((F17 a0 (IntKind.wrap .u64 (1 + ((a2 : Int).tmod 1152921504606846976)))).bind fun y200 => (bif (decide (((IntKind.wrap .i64 ((((y200.1.1).length : Nat) : Int) + 1)) : Int) ≠ 0)) then (bif (decide (0 ≤ ((((IntKind.wrap .i64 a1) : Int).tmod (IntKind.wrap .i64 ((((y200.1.1).length : Nat) : Int) + 1))) : Int) ∧ ((((IntKind.wrap .i64 a1) : Int).tmod (IntKind.wrap .i64 ((((y200.1.1).length : Nat) : Int) + 1))) : Int) ≤ (((y200.1.1).length : Nat) : Int))) then ((F18 ((y200.1.1).take ((((IntKind.wrap .i64 a1) : Int).tmod (IntKind.wrap .i64 ((((y200.1.1).length : Nat) : Int) + 1))) : Int).toNat)).bind fun y201 => (bif (!y201.1.2.1) then (some ((false, ()), (), ())) else ((L9_10 (IntKind.wrap .u64 (1 + ((a2 : Int).tmod 1152921504606846976))) y200.1.1 (((IntKind.wrap .i64 a1) : Int).tmod (IntKind.wrap .i64 ((((y200.1.1).length : Nat) : Int) + 1))) a3.1 a3.2.1 a3.2.2.1 a3.2.2.2.1 a3.2.2.2.2.1 a3.2.2.2.2.2.1 a3.2.2.2.2.2.2.1 a3.2.2.2.2.2.2.2.1 y201.2.1.1.1 y201.2.1.1.2.1 y201.2.1.1.2.2.1 y201.2.1.2.1.1).bind fun y228 => (Sum.elim (fun y229 => (some ((y229.1.1, ()), (), ()))) (fun y229 => ((F28n 1).bind fun y230 => ((F34n (y229.2.1.1.1, (y229.2.1.1.2.1, (y229.2.1.1.2.2.1, (y229.2.1.1.2.2.2.1, (y229.2.1.1.2.2.2.2.1, (y229.2.1.1.2.2.2.2.2.1, (y229.2.1.1.2.2.2.2.2.2.1, (y229.2.1.1.2.2.2.2.2.2.2.1, ()))))))))).bind fun y231 => (bif (!y231.1.1) then ((F32n).bind fun y232 => (bif ((y232.1.1 : Int) == 1) then ((F27n).bind fun y233 => (bif ((y233.1.1 : Int) == 0) then ((F31n).bind fun y234 => (bif ((y234.1.1 : Int) == 0) then (some (((!y230.1.2.1), ()), (), ())) else (some ((false, ()), (), ())))) else (some ((false, ()), (), ())))) else (some ((false, ()), (), ())))) else (some ((false, ()), (), ())))))) y228)))) else none) else none)))))))
noncomputable def c9 : Con := ⟨i9, o9, fun x => F9 x.1.1 x.1.2.1 x.1.2.2.1 x.1.2.2.2.1⟩
theorem e9 (x : i9.E) : vfn Try.prog C9 LO9 Try.f9 b9 i9 o9 x = F9 x.1.1 x.1.2.1 x.1.2.2.1 x.1.2.2.2.1 := by kernel_rfl
theorem c9_ok : Con.OK Try.prog 9 c9 := (fn_ok C9_ok Try.func9 body9 (loops_of (l := [l9_10]) (by kernel_rfl) (show LoopsOK Try.prog Try.f9.ntmps [l9_10] LO9 from ⟨k9_10_ok, trivial⟩)) i9 o9).congr fun x => (e9 x).symm
end Go.IM.V

/- Sums: the law SumsAdds. -/
set_option linter.unusedVariables false
set_option linter.unusedSimpArgs false
set_option linter.constructorNameAsVariable false
namespace Go.IM.V
open Go Go.IM Go.Proofs

theorem tmod_first {a : Int} (h : 0 ≤ a ∧ a < 18446744073709551616) (m : Int) (hm : 0 < m) (hm2 : m ≤ 4611686018427387904) : 1 ≤ IntKind.wrap .u64 (1 + a.tmod m) ∧ IntKind.wrap .u64 (1 + a.tmod m) ≤ m ∧ IntKind.wrap .u64 (1 + a.tmod m) = 1 + a % m := by
  rw [Int.tmod_eq_emod_of_nonneg h.1]
  have h1 := Int.emod_nonneg a (show m ≠ 0 by omega)
  have h2 := Int.emod_lt_of_pos a hm
  rw [wu64 (by omega) (by omega)]
  omega
theorem L50_run {W : Nat} (hW : W ≤ 64) (f n w : Int) : ∀ (i : Nat) (g : Nat → Int), i < W → L50_5 (i : Nat) f n w (tab (2 * W) g) = some ((), bxT f n w (tab (2 * W) (upF i g)), ()) := by
  intro i
  induction i with
  | zero =>
    intro g hi
    rw [L50_5_eq]
    simp only [T50_5, cif]
    rw [if_neg (by omega)]
    rfl
  | succ i ih =>
    intro g hi
    have hw : IntKind.wrap .i64 (((i + 1 : Nat) : Int) - 1) = (i : Int) := by rw [w64 (by omega) (by omega)]; omega
    have hw2 := dbl' (w := i + 1) (by omega)
    have hw3 : IntKind.wrap .i64 (((2 * (i + 1) : Nat) : Int) + 1) = ((2 * (i + 1) + 1 : Nat) : Int) := by rw [w64 (by omega) (by omega)]; omega
    rw [L50_5_eq]
    simp only [T50_5, cif]
    simp only [hw2, hw3, Int.toNat_natCast, tab_len]
    rw [if_pos (by omega), if_pos (by omega), if_pos (by omega), if_pos (by omega), if_pos (by omega), F30_eq]
    simp only [Option.bind_some]
    rw [if_pos (by omega), if_pos (by omega), hw]
    simp only [Option.bind_some, Sum.elim_inl]
    rw [tab_get (by omega), tab_get (by omega), tab_set]
    exact ih _ (by omega)

theorem tree_uniq {W : Nat} {g h : Nat → Int} (hl : ∀ j, W ≤ j → j < 2 * W → g j = h j) (h0 : g 0 = h 0) (hg : ∀ j, 1 ≤ j → j < W → g j = two (g (2 * j)) (g (2 * j + 1))) (hh : ∀ j, 1 ≤ j → j < W → h j = two (h (2 * j)) (h (2 * j + 1))) : ∀ j < 2 * W, g j = h j := by
  have key : ∀ (d j : Nat), 2 * W - j ≤ d → 1 ≤ j → j < 2 * W → g j = h j := by
    intro d
    induction d with
    | zero => intro j hd h1 h2; omega
    | succ d ih =>
      intro j hd h1 h2
      by_cases hj : W ≤ j
      · exact hl j hj h2
      · rw [hg j h1 (by omega), hh j h1 (by omega), ih (2 * j) (by omega) (by omega) (by omega), ih (2 * j + 1) (by omega) (by omega) (by omega)]
  intro j hj
  by_cases hz : j = 0
  · subst hz; exact h0
  · exact key _ j (Nat.le_refl _) (by omega) hj
theorem L34_run {W : Nat} (hW2 : W ≤ 64) (f n w : Int) : ∀ (m i : Nat) (g : Nat → Int), i ≤ m → i < W → (∀ j, 1 ≤ j → j < W → (∀ s, j ≠ i / 2 ^ s) → g j = two (g (2 * j)) (g (2 * j + 1))) →
    ∃ g' : Nat → Int, L34_10 (i : Nat) f n w (tab (2 * W) g) = some ((), bxT f n w (tab (2 * W) g'), ()) ∧ (∀ j, 1 ≤ j → j < W → g' j = two (g' (2 * j)) (g' (2 * j + 1))) ∧ (∀ j, W ≤ j → g' j = g j) ∧ g' 0 = g 0 := by
  have z : ∀ (g : Nat → Int), (∀ j, 1 ≤ j → j < W → (∀ s, j ≠ 0 / 2 ^ s) → g j = two (g (2 * j)) (g (2 * j + 1))) →
      ∃ g' : Nat → Int, L34_10 ((0 : Nat) : Int) f n w (tab (2 * W) g) = some ((), bxT f n w (tab (2 * W) g'), ()) ∧ (∀ j, 1 ≤ j → j < W → g' j = two (g' (2 * j)) (g' (2 * j + 1))) ∧ (∀ j, W ≤ j → g' j = g j) ∧ g' 0 = g 0 := by
    intro g hg
    refine ⟨g, ?_, fun j h1 h2 => hg j h1 h2 (fun s => by rw [Nat.zero_div]; omega), fun _ _ => rfl, rfl⟩
    rw [L34_10_eq]
    simp only [T34_10, cif]
    rw [if_neg (by omega)]
    rfl
  intro m
  induction m with
  | zero =>
    intro i g hi hiW hg
    have : i = 0 := by omega
    subst this
    exact z g hg
  | succ m ih =>
    intro i g hi hiW hg
    by_cases h0 : i = 0
    · subst h0; exact z g hg
    have hw3 : IntKind.wrap .i64 (((2 * i : Nat) : Int) + 1) = ((2 * i + 1 : Nat) : Int) := by rw [w64 (by omega) (by omega)]; omega
    have hd : IntKind.wrap .i64 (((i : Nat) : Int).tdiv 2) = ((i / 2 : Nat) : Int) := by
      rw [Int.tdiv_eq_ediv_of_nonneg (by omega), w64 (by omega) (by omega)]; omega
    obtain ⟨g', e1, e2, e3, e4⟩ := ih (i / 2) (fun j => if j = i then two (g (2 * i)) (g (2 * i + 1)) else g j) (by omega) (by omega) (fun j h1 h2 hs => by
      have c1 : 2 * j ≠ i := fun e => hs 0 (by rw [Nat.pow_zero, Nat.div_one]; omega)
      have c2 : 2 * j + 1 ≠ i := fun e => hs 0 (by rw [Nat.pow_zero, Nat.div_one]; omega)
      rw [if_neg c1, if_neg c2]
      by_cases hj : j = i
      · rw [if_pos hj, hj]
      · rw [if_neg hj]
        refine hg j h1 h2 (fun s => ?_)
        cases s with
        | zero => rw [Nat.pow_zero, Nat.div_one]; exact hj
        | succ s => rw [Nat.pow_succ, Nat.mul_comm, ← Nat.div_div_eq_div_mul]; exact hs s)
    refine ⟨g', ?_, e2, fun j hj => ?_, ?_⟩
    · rw [L34_10_eq]
      simp only [T34_10, cif]
      simp only [dbl' (show i < 2 ^ 61 by omega), hw3, Int.toNat_natCast, tab_len]
      rw [if_pos (by omega), if_pos (by omega), if_pos (by omega), if_pos (by omega), if_pos (by omega), F30_eq]
      simp only [Option.bind_some]
      rw [if_pos (by omega), if_pos (by omega), hd]
      simp only [Option.bind_some, Sum.elim_inl]
      rw [tab_get (by omega), tab_get (by omega), tab_set]
      exact e1
    · rw [e3 j hj, if_neg (by omega)]
    · rw [e4, if_neg (Ne.symm h0)]
/-- A tree that has become twice as wide. -/
theorem F50_eq {es : List Ev} {W : Nat} (hn : es.length = W) (h1 : 1 ≤ W) (hW : W ≤ 32) (f n : Int) : F50 f n (W : Nat) (tab (2 * W) (tf es W)) = some ((), ((f, n, ((2 * W : Nat) : Int), (), ()), ((), ()), (tab (2 * (2 * W)) (tf es (2 * W)), ()), ()), ()) := by
  have hlim : lim = 1099511627776 := rfl
  have w4 : IntKind.wrap .i64 (4 * (W : Int)) = ((4 * W : Nat) : Int) := by rw [w64 (by omega) (by omega)]; omega
  have hm1 : IntKind.wrap .i64 (((2 * W : Nat) : Int) - 1) = ((2 * W - 1 : Nat) : Int) := by rw [w64 (by omega) (by omega)]; omega
  unfold F50
  simp only [w4, dbl' (show W < 2 ^ 61 by omega), dbl (show W < 2 ^ 61 by omega), cand, cif, Int.toNat_natCast, tab_len, List.length_replicate, hm1]
  rw [if_pos ⟨⟨by omega, trivial, by omega⟩, by omega⟩, if_pos (by omega), if_pos (by omega)]
  have hL : (List.replicate (4 * W) (0 : Int)).take (2 * W) ++ (((tab (2 * W) (tf es W)).drop W).take (2 * W - W)).take (min (4 * W - 2 * W) (((tab (2 * W) (tf es W)).drop W).take (2 * W - W)).length) ++ (List.replicate (4 * W) (0 : Int)).drop (2 * W + min (4 * W - 2 * W) (((tab (2 * W) (tf es W)).drop W).take (2 * W - W)).length) = tab (2 * (2 * W)) (leaf es (2 * W) es.length) := by
    have hlen : (((tab (2 * W) (tf es W)).drop W).take (2 * W - W)).length = W := by rw [List.length_take, List.length_drop, tab_len]; omega
    rw [hlen, show min (4 * W - 2 * W) W = W from by omega]
    apply List.ext_getElem
    · simp only [List.length_append, List.length_take, List.length_drop, List.length_replicate, tab_len]; omega
    · intro j a b
      have hb : j < 4 * W := by rw [tab_len] at b; omega
      have eR : (tab (2 * (2 * W)) (leaf es (2 * W) es.length))[j] = leaf es (2 * W) es.length j := by simp [tab]
      rw [eR]
      unfold leaf
      by_cases c1 : j < 2 * W
      · rw [if_neg (by omega), List.getElem_append_left (by simp only [List.length_append, List.length_take, List.length_drop, List.length_replicate, tab_len]; omega), List.getElem_append_left (by simp only [List.length_take, List.length_replicate]; omega)]
        simp
      · by_cases c2 : j < 3 * W
        · rw [if_pos (by omega), List.getElem_append_left (by simp only [List.length_append, List.length_take, List.length_drop, List.length_replicate, tab_len]; omega), List.getElem_append_right (by simp only [List.length_take, List.length_replicate]; omega)]
          simp only [List.getElem_take, List.getElem_drop, List.length_take, List.length_replicate]
          have e2 : ∀ (q : Nat) (hq : q < (tab (2 * W) (tf es W)).length), (tab (2 * W) (tf es W))[q] = tf es W q := fun q hq => by simp [tab]
          rw [e2, tf_leaf (by omega) h1]
          unfold leaf
          rw [if_pos (by omega)]
          congr 2
          omega
        · rw [if_neg (by omega), List.getElem_append_right (by simp only [List.length_append, List.length_take, List.length_drop, List.length_replicate, tab_len]; omega)]
          simp
  rw [hL, L50_run (W := 2 * W) (by omega) _ _ _ _ _ (by omega)]
  rfl
/-- One more event. -/
theorem upd_tf {es : List Ev} {e : Ev} {W : Nat} (h1 : 1 ≤ W) (hn : es.length < W) {g' : Nat → Int} (a1 : ∀ j, 1 ≤ j → j < W → g' j = two (g' (2 * j)) (g' (2 * j + 1))) (a2 : ∀ j, W ≤ j → g' j = if j = W + es.length then ofE e else tf es W j) (a3 : g' 0 = tf es W 0) :
    tab (2 * W) g' = tab (2 * W) (tf (es ++ [e]) W) := by
  refine tab_congr (tree_uniq (fun j h2 h3 => ?_) ?_ a1 (fun j h2 h3 => tf_two h2 h3))
  · rw [a2 j h2, tf_leaf (es := es ++ [e]) h2 h1, tf_leaf (es := es) h2 h1]
    unfold leaf
    rw [List.length_append, List.length_singleton]
    by_cases c : j = W + es.length
    · rw [if_pos c, if_pos (by omega), show j - W = es.length from by omega]
      simp
    · rw [if_neg c]
      by_cases c2 : j < W + es.length
      · rw [if_pos ⟨h2, c2⟩, if_pos (by omega)]
        congr 1
        rw [List.getD_eq_getElem?_getD, List.getD_eq_getElem?_getD, List.getElem?_append_left (by omega)]
      · rw [if_neg (by omega), if_neg (by omega)]
  · have z : ∀ (i : Nat) (f : Nat → Int), upF i f 0 = f 0 := by
      intro i
      induction i with
      | zero => intro f; rfl
      | succ i ih => intro f; rw [upF, ih, if_neg (by omega)]
    rw [a3]
    unfold tf
    rw [z, z]
    unfold leaf
    rw [if_neg (by omega), if_neg (by omega)]
theorem put_run {es : List Ev} {e : Ev} {W : Nat} (h1 : 1 ≤ W) (hW : W ≤ 64) (hn : es.length < W) (f n w : Int) : L34_10 (((W + es.length) / 2 : Nat) : Int) f n w ((tab (2 * W) (tf es W)).set (W + es.length) (ofE e)) = some ((), bxT f n w (tab (2 * W) (tf (es ++ [e]) W)), ()) := by
  rw [tab_set]
  obtain ⟨g', e1, e2, e3, e4⟩ := L34_run hW f n w ((W + es.length) / 2) ((W + es.length) / 2) (fun j => if j = W + es.length then ofE e else tf es W j) (Nat.le_refl _) (by omega) (fun j h2 h3 hs => by
    have c0 := hs 0
    rw [Nat.pow_zero, Nat.div_one] at c0
    rw [if_neg (by omega), if_neg (by omega), if_neg (by omega)]
    exact tf_two h2 h3)
  rw [e1, upd_tf h1 hn e2 e3 (by rw [e4, if_neg (by omega)])]
theorem F34_no {e : Ev} {f w : Int} {n : Nat} {L : List Int} (hn : 0 < n) (h : e.2.1 ≠ IntKind.wrap .u64 (f + IntKind.wrap .u64 (n : Int))) : F34 e f (n : Nat) w L = some ((false, ()), ((f, ((n : Nat) : Int), w, (), ()), ((), ()), (L, ()), ()), ()) := by
  unfold F34
  rw [cif, if_pos (by omega), show (e.2.1 != IntKind.wrap .u64 (f + IntKind.wrap .u64 (n : Int))) = true from bne_iff_ne.2 h]
  rfl
theorem Wide.grow {n k : Nat} (h : Wide n k) (hk : n ≤ 59) (h6 : k ≤ 6) : ∃ k', k' ≤ 6 ∧ Wide (n + 1) k' ∧ 2 ^ k' = (if n = 2 ^ k then 2 * 2 ^ k else 2 ^ k) := by
  have hle := h.le
  have ps := pow_s k
  have hp : 1 ≤ 2 ^ k := Nat.one_le_two_pow
  by_cases c : n = 2 ^ k
  · rw [if_pos c]
    refine ⟨k + 1, ?_, ⟨by omega, fun j hj => ?_⟩, by omega⟩
    · rcases Nat.lt_or_ge k 6 with q | q
      · omega
      · have h64 : 64 ≤ 2 ^ k := by have := Nat.pow_le_pow_right (n := 2) (by omega) q; simpa using this
        omega
    · have : 2 ^ j ≤ 2 ^ k := Nat.pow_le_pow_right (by omega) (by omega)
      omega
  · rw [if_neg c]
    exact ⟨k, h6, ⟨by omega, fun j hj => by have := h.lt j hj; omega⟩, rfl⟩
theorem fst1_app (es : List Ev) (e : Ev) : fst1 (es ++ [e]) = if es.length = 0 then e.2.1 else fst1 es := by
  cases es with
  | nil => rfl
  | cons x r => rfl
theorem F34_ok {es : List Ev} {e : Ev} {k : Nat} (hk : k ≤ 6) (hn : es.length ≤ 59) (hW : Wide es.length k) (ok : EvOK e) (ol : (encE e).length < 2 ^ 62) (hs : 0 < es.length → e.2.1 = IntKind.wrap .u64 (fst1 es + IntKind.wrap .u64 (es.length : Nat))) :
    ∃ k', k' ≤ 6 ∧ Wide (es.length + 1) k' ∧ F34 e (fst1 es) (es.length : Nat) ((2 ^ k : Nat) : Int) (tab (2 * 2 ^ k) (tf es (2 ^ k))) =
      some ((true, ()), ((fst1 (es ++ [e]), ((es.length + 1 : Nat) : Int), ((2 ^ k' : Nat) : Int), (), ()), ((), ()), (tab (2 * 2 ^ k') (tf (es ++ [e]) (2 ^ k')), ()), ()), ()) := by
  obtain ⟨k', g1, g2, g3⟩ := hW.grow hn hk
  refine ⟨k', g1, g2, ?_⟩
  have h6 := pow_le6 hk
  have h6' := pow_le6 g1
  have hle := hW.le
  have hle' := g2.le
  rw [g3]
  rw [g3] at h6' hle'
  generalize 2 ^ k = W at *
  have hf := fst1_app es e
  have tail : ∀ (f : Int) (V : Nat), 1 ≤ V → V ≤ 64 → es.length < V → ((F29 (e.1, (e.2.1, (e.2.2.1, (e.2.2.2.1, (e.2.2.2.2.1, (e.2.2.2.2.2.1, (e.2.2.2.2.2.2.1, (e.2.2.2.2.2.2.2.1, ()))))))))).bind fun y174 => (bif (decide (0 ≤ ((IntKind.wrap .i64 ((V : Int) + (es.length : Nat))) : Int) ∧ ((IntKind.wrap .i64 ((V : Int) + (es.length : Nat))) : Int) < (((tab (2 * V) (tf es V)).length : Nat) : Int))) then (bif (decide (((IntKind.wrap .i64 ((V : Int) + (es.length : Nat))) : Int).toNat < (tab (2 * V) (tf es V)).length)) then ((L34_10 (IntKind.wrap .i64 (((IntKind.wrap .i64 ((V : Int) + (es.length : Nat))) : Int).tdiv 2)) f (IntKind.wrap .i64 ((es.length : Nat) + 1)) (V : Int) ((tab (2 * V) (tf es V)).set ((IntKind.wrap .i64 ((V : Int) + (es.length : Nat))) : Int).toNat y174.1.1)).bind fun y177 => (some ((true, ()), ((y177.2.1.1.1, y177.2.1.1.2.1, y177.2.1.1.2.2.1, (), ()), ((), ()), (y177.2.1.2.1.1, ()), ()), ()))) else none) else none)) =
      some ((true, ()), ((f, ((es.length + 1 : Nat) : Int), (V : Int), (), ()), ((), ()), (tab (2 * V) (tf (es ++ [e]) V), ()), ()), ()) := by
    intro f V v1 v2 v3
    have hw : IntKind.wrap .i64 ((V : Int) + (es.length : Nat)) = ((V + es.length : Nat) : Int) := by rw [w64 (by omega) (by omega)]; omega
    have hw2 : IntKind.wrap .i64 (((es.length : Nat) : Int) + 1) = ((es.length + 1 : Nat) : Int) := by rw [w64 (by omega) (by omega)]; omega
    have hd : IntKind.wrap .i64 (((V + es.length : Nat) : Int).tdiv 2) = (((V + es.length) / 2 : Nat) : Int) := by
      rw [Int.tdiv_eq_ediv_of_nonneg (by omega), w64 (by omega) (by omega)]; omega
    rw [show F29 _ = _ from F29_eq e ok ol]
    simp only [Option.bind_some, hw, hw2, hd, cif, tab_len, Int.toNat_natCast]
    rw [if_pos (by omega), if_pos (by omega), put_run v1 v2 v3]
    rfl
  unfold F34
  by_cases hz : es.length = 0
  · have hWn : es.length ≠ W := by omega
    rw [if_neg hWn]
    rw [cif, if_neg (by omega), show (((es.length : Nat) : Int) == 0) = true from by rw [beq_iff_eq]; omega, show (((es.length : Nat) : Int) == (W : Int)) = false from by rw [beq_eq_false_iff_ne]; omega]
    simp only [cond_true, cond_false]
    rw [hf, if_pos hz]
    exact tail _ W (by omega) (by omega) (by omega)
  · rw [cif, if_pos (by omega), show (e.2.1 != IntKind.wrap .u64 (fst1 es + IntKind.wrap .u64 (es.length : Nat))) = false from by rw [hs (by omega)]; simp, show (((es.length : Nat) : Int) == 0) = false from by rw [beq_eq_false_iff_ne]; omega]
    simp only [cond_true, cond_false]
    rw [hf, if_neg hz]
    by_cases hWn : es.length = W
    · rw [if_pos hWn, show (((es.length : Nat) : Int) == (W : Int)) = true from by rw [beq_iff_eq]; omega]
      simp only [cond_true]
      rw [if_pos hWn] at h6' hle'
      rw [F50_eq hWn (by omega) (by omega)]
      simp only [Option.bind_some]
      exact tail _ (2 * W) (by omega) (by omega) (by omega)
    · rw [if_neg hWn, show (((es.length : Nat) : Int) == (W : Int)) = false from by rw [beq_eq_false_iff_ne]; omega]
      simp only [cond_false]
      exact tail _ W (by omega) (by omega) (by omega)
end Go.IM.V

/- Sums: the law SumsAdds. -/
set_option linter.unusedVariables false
set_option linter.unusedSimpArgs false
set_option linter.constructorNameAsVariable false
namespace Go.IM.V
open Go Go.IM Go.Proofs

theorem evF_take (first : Int) : ∀ (l : List Int) (i m : Nat), (evF first l i).take m = evF first (l.take m) i
  | [], _, m => by cases m <;> rfl
  | b :: r, i, 0 => rfl
  | b :: r, i, m + 1 => by
    show evA b first i :: (evF first r (i + 1)).take m = evA b first i :: evF first (r.take m) (i + 1)
    rw [evF_take first r (i + 1) m]
theorem take_one {es : List Ev} {i : Nat} (h : i < es.length) : es.take i ++ [es.getD i E0] = es.take (i + 1) := by
  rw [List.take_add_one, List.getD_eq_getElem?_getD, List.getElem?_eq_getElem h]
  rfl
theorem L9_run {first : Int} (f0 : 1 ≤ first) (f1 : first ≤ 1152921504606846976) (l : List Int) (hl : l.length ≤ 60) (x0 x1 x2 x3 : Int) (x4 : ByteArray) (x5 : List Int) (x6 : Nat) (x7 : Int) : ∀ (d i k : Nat), i + d = l.length → k ≤ 6 → Wide i k →
    ∃ B, L9_10 first (evF first l 0) (i : Nat) x0 x1 x2 x3 x4 x5 x6 x7 (fst1 (evF first (l.take i) 0)) (i : Nat) ((2 ^ k : Nat) : Int) (tab (2 * 2 ^ k) (tf (evF first (l.take i) 0) (2 ^ k))) = some (.inr ((), B, ())) := by
  intro d
  induction d with
  | zero =>
    intro i k hi hk hW
    rw [L9_10_eq]
    simp only [T9_10, cif]
    rw [if_neg (by rw [evF_len]; omega)]
    exact ⟨_, rfl⟩
  | succ d ih =>
    intro i k hi hk hW
    have hlt : (l.take i).length = i := by rw [List.length_take]; omega
    have hlt1 : (l.take (i + 1)).length = i + 1 := by rw [List.length_take]; omega
    have hw : IntKind.wrap .i64 ((i : Int) + 1) = ((i + 1 : Nat) : Int) := by rw [w64 (by omega) (by omega)]; omega
    have hlen := evF_len first l 0
    have htl : (evF first (l.take i) 0).length = i := by rw [evF_len, hlt]
    have hg := evF_get first l 0 i (by omega)
    rw [Nat.zero_add] at hg
    have hseq : ((evF first l 0).getD i E0).2.1 = first + i := by
      rw [hg]
      show IntKind.wrap .u64 (first + IntKind.wrap .u64 (i : Int)) = _
      rw [wu64 (n := (i : Int)) (by omega) (by omega), wu64 (by omega) (by omega)]
    obtain ⟨ok, ol⟩ := evF_ok first l i (by omega)
    have hfst : 0 < i → fst1 (evF first (l.take i) 0) = first := fun h => fst1_evF (by omega) (by omega) _ (by omega)
    have hwi : first + IntKind.wrap .u64 (i : Int) = first + i := by rw [wu64 (by omega) (by omega)]
    obtain ⟨k', g1, g2, g3⟩ := F34_ok (es := evF first (l.take i) 0) (e := (evF first l 0).getD i E0) hk (by omega) (by rw [htl]; exact hW) ok ol (fun h => by
      rw [htl] at h ⊢
      rw [hfst h, hseq, hwi, wu64 (by omega) (by omega)])
    rw [htl] at g2 g3
    have happ : evF first (l.take i) 0 ++ [(evF first l 0).getD i E0] = evF first (l.take (i + 1)) 0 := by
      rw [← evF_take, ← evF_take]; exact take_one (by omega)
    rw [happ] at g3
    have h18 := F18_evF (first := first) (by omega) (by omega) (l.take (i + 1)) g1 (by rw [hlt1]; exact g2)
    rw [hlt1] at h18
    have hf1 := fst1_evF (first := first) (by omega) (by omega) (l.take (i + 1)) (by omega)
    have h6 := pow_le6 g1
    have e1 : ∀ (f n w : Int) (L : List Int), F32 f n w L = some ((f, ()), bxT f n w L, ()) := fun _ _ _ _ => rfl
    have e2 : ∀ (f n w : Int) (L : List Int), F27 f n w L = some ((n, ()), bxT f n w L, ()) := fun _ _ _ _ => rfl
    obtain ⟨B, hB⟩ := ih (i + 1) k' (by omega) g1 g2
    have hG : F34 (((evF first l 0).getD i E0).1, (((evF first l 0).getD i E0).2.1, (((evF first l 0).getD i E0).2.2.1, (((evF first l 0).getD i E0).2.2.2.1, (((evF first l 0).getD i E0).2.2.2.2.1, (((evF first l 0).getD i E0).2.2.2.2.2.1, (((evF first l 0).getD i E0).2.2.2.2.2.2.1, (((evF first l 0).getD i E0).2.2.2.2.2.2.2.1, ())))))))) (fst1 (evF first (l.take i) 0)) ((i : Nat) : Int) ((2 ^ k : Nat) : Int) (tab (2 * 2 ^ k) (tf (evF first (l.take i) 0) (2 ^ k))) = _ := g3
    rw [L9_10_eq]
    simp only [T9_10, cif]
    rw [if_pos (by omega), if_pos (by omega)]
    simp only [Int.toNat_natCast, hw, evF_take, h18, Option.bind_some, hG, e1, e2]
    rw [F31_eq _ _ _ (by rw [tab_len]; omega)]
    simp only [Option.bind_some, bne_self_eq_false, Bool.not_true, cond_false, e1, e2, hf1]
    rw [hf1] at hB
    by_cases hi0 : 0 < i
    · rw [if_pos (by omega)]
      have hno := F34_no (e := (((evF first l 0).getD i E0).1, IntKind.wrap .u64 (((evF first l 0).getD i E0).2.1 + 2), ((evF first l 0).getD i E0).2.2)) (f := fst1 (evF first (l.take i) 0)) (w := ((2 ^ k : Nat) : Int)) (L := tab (2 * 2 ^ k) (tf (evF first (l.take i) 0) (2 ^ k))) hi0 (by
        show IntKind.wrap .u64 (((evF first l 0).getD i E0).2.1 + 2) ≠ _
        rw [hfst hi0, hseq, hwi, wu64 (by omega) (by omega), wu64 (by omega) (by omega)]
        omega)
      rw [show F34 _ _ _ _ _ = _ from hno]
      simp only [Option.bind_some, cond_false]
      rw [if_pos (by omega), hG]
      simp only [Option.bind_some, Bool.not_true, cond_false]
      rw [if_pos (by omega), F31_eq _ _ _ (by rw [tab_len]; omega)]
      simp only [Option.bind_some, bne_self_eq_false, cond_false, e1, e2, hf1, Sum.elim_inl]
      exact ⟨B, hB⟩
    · rw [if_neg (by omega), if_pos (by omega), if_pos (by omega)]
      simp only [Option.bind_some, bne_self_eq_false, cond_false, e1, e2, hf1, Sum.elim_inl]
      exact ⟨B, hB⟩
theorem sumsAdds_pure (l : List Int) (a b : Int) (e : Ev) (ha : 0 ≤ a ∧ a < 256) (hb : 0 ≤ b ∧ b < 18446744073709551616) : F9 l a b e = some (r1 true) := by
  unfold F9
  rw [F16_eq]
  simp only [Option.bind_some, Bool.not_true, cond_false]
  rw [cif]
  split
  · rfl
  rename_i hl
  rw [cif]
  split
  · rfl
  rw [cif]
  split
  · rfl
  obtain ⟨f0, f1, _⟩ := tmod_first hb 1152921504606846976 (by decide) (by decide)
  generalize IntKind.wrap .u64 (1 + b.tmod 1152921504606846976) = first at *
  rw [F17_eq _ _ (by omega)]
  simp only [Option.bind_some]
  have hw1 : IntKind.wrap .i64 (((l.length : Nat) : Int) + 1) = ((l.length + 1 : Nat) : Int) := by rw [w64 (by omega) (by omega)]; omega
  obtain ⟨c, hc1, hc2⟩ : ∃ c : Nat, c ≤ l.length ∧ (IntKind.wrap .i64 a).tmod ((l.length + 1 : Nat) : Int) = (c : Int) := by
    rw [w64 (by omega) (by omega), Int.tmod_eq_emod_of_nonneg ha.1]
    have g1 := Int.emod_nonneg a (show ((l.length + 1 : Nat) : Int) ≠ 0 by omega)
    have g2 := Int.emod_lt_of_pos a (show 0 < ((l.length + 1 : Nat) : Int) by omega)
    exact ⟨(a % ((l.length + 1 : Nat) : Int)).toNat, by omega, by omega⟩
  have hlt : (l.take c).length = c := by rw [List.length_take]; omega
  obtain ⟨k, hk, hW⟩ := wide_ex (n := c) (by omega)
  have h18 := F18_evF (first := first) (by omega) (by omega) (l.take c) hk (by rw [hlt]; exact hW)
  rw [hlt] at h18
  obtain ⟨B, hB⟩ := L9_run f0 f1 l (by omega) e.1 e.2.1 e.2.2.1 e.2.2.2.1 e.2.2.2.2.1 e.2.2.2.2.2.1 e.2.2.2.2.2.2.1 e.2.2.2.2.2.2.2.1 (l.length - c) c k (by omega) hk hW
  simp only [evF_len, hw1, hc2, cif, Int.toNat_natCast, evF_take]
  rw [if_pos (by omega), if_pos (by omega), h18]
  simp only [Option.bind_some, Bool.not_true, cond_false]
  rw [hB]
  rfl
end Go.IM.V
