/- What the code of a law comes to, and what that tells: part 2. Lemmas alone; no conditions. -/
import Derived.Test.YtnbacinpmfjpnaaImRowD7P1
set_option linter.unusedVariables false
set_option linter.constructorNameAsVariable false
namespace Go.IM.V
open Go Go.IM Go.Proofs
noncomputable def i12 : Tm := { sl := [(0, .v (.p (.i .u64) (.p (.i .i64) .u))), (1, .v (.p (.i .u64) (.p (.i .i64) .u)))], bx := [], bf := [] }
noncomputable def o12 : OT := (.ret { sl := [(0, .v .b)], bx := [], bf := [] })
noncomputable def F12 (a0 : (Int × (Int × Unit))) (a1 : (Int × (Int × Unit))) : Option ((Bool × Unit) × Unit × Unit) :=
 (bif decide ((a0.1 : Int) < a1.1) then (some ((true, ()), (), ())) else (bif ((a0.1 : Int) == a1.1) then (some (((decide ((a0.2.1 : Int) < a1.2.1)), ()), (), ())) else (some ((false, ()), (), ()))))
noncomputable def c12 : Con := ⟨i12, o12, fun x => F12 x.1.1 x.1.2.1⟩
noncomputable def i13 : Tm := { sl := [(0, .v tDEv)], bx := [], bf := [] }
noncomputable def o13 : OT := (.ret { sl := [(0, .v (.p (.i .u64) (.p (.i .i64) .u)))], bx := [], bf := [] })
noncomputable def F13 (a0 : DEv) : Option (((Int × (Int × Unit)) × Unit) × Unit × Unit) :=
 (some (((a0.2.2.1, (a0.1, ())), ()), (), ()))
noncomputable def c13 : Con := ⟨i13, o13, fun x => F13 x.1.1⟩
noncomputable def T38_3 (a1 : Int) (q0 : (List Int)) : Option (((Int × (Unit × Unit)) × Unit × ((List Int) × Unit)) ⊕ ((Int × (Unit × Unit)) × Unit × ((List Int) × Unit))) :=
 (bif decide (a1 > 127) then (bif (decide (q0.length + ([(IntKind.wrap .u8 (IntKind.wrap .u64 (128 + (a1.tmod 128))))]).length < lim)) then (some (.inl (((IntKind.wrap .u64 (a1.tdiv 128)), (), ()), (), ((q0 ++ [(IntKind.wrap .u8 (IntKind.wrap .u64 (128 + (a1.tmod 128))))]), ())))) else none) else (some (.inr ((a1, (), ()), (), (q0, ())))))
noncomputable def L38_3 (a1 : Int) (q0 : (List Int)) : Option ((Int × (Unit × Unit)) × Unit × ((List Int) × Unit)) := loopF (fun x : ((Int × (Unit × Unit)) × Unit × ((List Int) × Unit)) => T38_3 x.1.1 x.2.2.1) ((a1, (), ()), (), (q0, ()))
noncomputable def F38 (a1 : Int) (q0 : (List Int)) : Option ((Unit × Unit) × Unit × ((List Int) × Unit)) :=
 (bif decide (q0.length < lim) then ((L38_3 a1 q0).bind fun y62 => (bif decide ((y62.2.2.1).length + ([(IntKind.wrap .u8 y62.1.1)]).length < lim) then (some (((), ()), (), ((y62.2.2.1 ++ [(IntKind.wrap .u8 y62.1.1)]), ()))) else none)) else none)
noncomputable def F39 (a1 : (List Int)) (q0 : (List Int)) : Option ((Unit × Unit) × Unit × ((List Int) × Unit)) :=
 ((F38 (IntKind.wrap .u64 (a1.length : Int)) q0).bind fun y63 => (bif decide ((y63.2.2.1).length + a1.length < lim) then (some (((), ()), (), ((y63.2.2.1 ++ a1), ()))) else none))
noncomputable def F44 (a0 : Nat) : Option ((Bool × Unit) × Unit × Unit) :=
 (some ((((FloatKind.f64).format.order (a0) (a0) != some Ordering.eq), ()), (), ()))
noncomputable def F41 (a0 : Nat) : Option ((Int × Unit) × Unit × Unit) :=
 ((F44 a0).bind fun y64 => (bif y64.1.1 then (some ((9221120237041090561, ()), (), ())) else (some (((((a0) : Nat) : Int), ()), (), ()))))
noncomputable def T40_4 (a1 : Int) (a6 : Int) (q0 : (List Int)) : Option (((Int × (Unit × (Int × Unit))) × Unit × ((List Int) × Unit)) ⊕ ((Unit × Unit) × Unit × ((List Int) × Unit))) :=
 (bif decide (a6 < 8) then (bif (decide ((0 : Int) ≤ (IntKind.wrap .i64 (56 - (IntKind.wrap .i64 (8 * a6)))))) then (bif (decide (q0.length + ([(IntKind.wrap .u8 (iShr .u64 a1 (IntKind.wrap .i64 (56 - (IntKind.wrap .i64 (8 * a6))))))]).length < lim)) then (some (.inl ((a1, (), (IntKind.wrap .i64 (a6 + 1)), ()), (), ((q0 ++ [(IntKind.wrap .u8 (iShr .u64 a1 (IntKind.wrap .i64 (56 - (IntKind.wrap .i64 (8 * a6))))))]), ())))) else none) else none) else (some (.inr (((), ()), (), (q0, ())))))
noncomputable def L40_4 (a1 : Int) (a6 : Int) (q0 : (List Int)) : Option ((Unit × Unit) × Unit × ((List Int) × Unit)) := loopF (fun x : ((Int × (Unit × (Int × Unit))) × Unit × ((List Int) × Unit)) => T40_4 x.1.1 x.1.2.2.1 x.2.2.1) ((a1, (), a6, ()), (), (q0, ()))
noncomputable def F40 (a1 : Int) (q0 : (List Int)) : Option ((Unit × Unit) × Unit × ((List Int) × Unit)) :=
 (bif decide (q0.length < lim) then ((L40_4 a1 0 q0).bind fun y65 => (some (((), ()), (), (y65.2.2.1, ())))) else none)
noncomputable def F28 (a0 : DEv) : Option ((Unit × Unit) × Unit × ((List Int) × Unit)) :=
 ((F38 (IntKind.wrap .u64 a0.1) ([] : List Int)).bind fun y66 => ((F38 a0.2.1 y66.2.2.1).bind fun y67 => ((F38 a0.2.2.1 y67.2.2.1).bind fun y68 => (bif decide ((y68.2.2.1).length + ([a0.2.2.2.1]).length < lim) then (bif decide ((a0.2.2.2.1 : Int) ≤ 4) then ((F39 (bytesL a0.2.2.2.2.1) (y68.2.2.1 ++ [a0.2.2.2.1])).bind fun y69 => (bif ((a0.2.2.2.1 : Int) == 1) then ((F39 a0.2.2.2.2.2.1 y69.2.2.1).bind fun y70 => (bif ((a0.2.2.2.1 : Int) == 2) then ((F41 a0.2.2.2.2.2.2.1).bind fun y71 => ((F40 y71.1.1 y70.2.2.1).bind fun y72 => (bif ((a0.2.2.2.1 : Int) == 5) then ((F38 (IntKind.wrap .u64 a0.2.2.2.2.2.2.2.1) y72.2.2.1).bind fun y73 => (some (((), ()), (), (y73.2.2.1, ())))) else (some (((), ()), (), (y72.2.2.1, ())))))) else (bif ((a0.2.2.2.1 : Int) == 3) then ((F41 a0.2.2.2.2.2.2.1).bind fun y74 => ((F40 y74.1.1 y70.2.2.1).bind fun y75 => (bif ((a0.2.2.2.1 : Int) == 5) then ((F38 (IntKind.wrap .u64 a0.2.2.2.2.2.2.2.1) y75.2.2.1).bind fun y76 => (some (((), ()), (), (y76.2.2.1, ())))) else (some (((), ()), (), (y75.2.2.1, ())))))) else (bif ((a0.2.2.2.1 : Int) == 5) then ((F38 (IntKind.wrap .u64 a0.2.2.2.2.2.2.2.1) y70.2.2.1).bind fun y77 => (some (((), ()), (), (y77.2.2.1, ())))) else (some (((), ()), (), (y70.2.2.1, ()))))))) else (bif ((a0.2.2.2.1 : Int) == 2) then ((F41 a0.2.2.2.2.2.2.1).bind fun y78 => ((F40 y78.1.1 y69.2.2.1).bind fun y79 => (bif ((a0.2.2.2.1 : Int) == 5) then ((F38 (IntKind.wrap .u64 a0.2.2.2.2.2.2.2.1) y79.2.2.1).bind fun y80 => (some (((), ()), (), (y80.2.2.1, ())))) else (some (((), ()), (), (y79.2.2.1, ())))))) else (bif ((a0.2.2.2.1 : Int) == 3) then ((F41 a0.2.2.2.2.2.2.1).bind fun y81 => ((F40 y81.1.1 y69.2.2.1).bind fun y82 => (bif ((a0.2.2.2.1 : Int) == 5) then ((F38 (IntKind.wrap .u64 a0.2.2.2.2.2.2.2.1) y82.2.2.1).bind fun y83 => (some (((), ()), (), (y83.2.2.1, ())))) else (some (((), ()), (), (y82.2.2.1, ())))))) else (bif ((a0.2.2.2.1 : Int) == 5) then ((F38 (IntKind.wrap .u64 a0.2.2.2.2.2.2.2.1) y69.2.2.1).bind fun y84 => (some (((), ()), (), (y84.2.2.1, ())))) else (some (((), ()), (), (y69.2.2.1, ())))))))) else (bif ((a0.2.2.2.1 : Int) == 1) then ((F39 a0.2.2.2.2.2.1 (y68.2.2.1 ++ [a0.2.2.2.1])).bind fun y85 => (bif ((a0.2.2.2.1 : Int) == 2) then ((F41 a0.2.2.2.2.2.2.1).bind fun y86 => ((F40 y86.1.1 y85.2.2.1).bind fun y87 => (bif ((a0.2.2.2.1 : Int) == 5) then ((F38 (IntKind.wrap .u64 a0.2.2.2.2.2.2.2.1) y87.2.2.1).bind fun y88 => (some (((), ()), (), (y88.2.2.1, ())))) else (some (((), ()), (), (y87.2.2.1, ())))))) else (bif ((a0.2.2.2.1 : Int) == 3) then ((F41 a0.2.2.2.2.2.2.1).bind fun y89 => ((F40 y89.1.1 y85.2.2.1).bind fun y90 => (bif ((a0.2.2.2.1 : Int) == 5) then ((F38 (IntKind.wrap .u64 a0.2.2.2.2.2.2.2.1) y90.2.2.1).bind fun y91 => (some (((), ()), (), (y91.2.2.1, ())))) else (some (((), ()), (), (y90.2.2.1, ())))))) else (bif ((a0.2.2.2.1 : Int) == 5) then ((F38 (IntKind.wrap .u64 a0.2.2.2.2.2.2.2.1) y85.2.2.1).bind fun y92 => (some (((), ()), (), (y92.2.2.1, ())))) else (some (((), ()), (), (y85.2.2.1, ()))))))) else (bif ((a0.2.2.2.1 : Int) == 2) then ((F41 a0.2.2.2.2.2.2.1).bind fun y93 => ((F40 y93.1.1 (y68.2.2.1 ++ [a0.2.2.2.1])).bind fun y94 => (bif ((a0.2.2.2.1 : Int) == 5) then ((F38 (IntKind.wrap .u64 a0.2.2.2.2.2.2.2.1) y94.2.2.1).bind fun y95 => (some (((), ()), (), (y95.2.2.1, ())))) else (some (((), ()), (), (y94.2.2.1, ())))))) else (bif ((a0.2.2.2.1 : Int) == 3) then ((F41 a0.2.2.2.2.2.2.1).bind fun y96 => ((F40 y96.1.1 (y68.2.2.1 ++ [a0.2.2.2.1])).bind fun y97 => (bif ((a0.2.2.2.1 : Int) == 5) then ((F38 (IntKind.wrap .u64 a0.2.2.2.2.2.2.2.1) y97.2.2.1).bind fun y98 => (some (((), ()), (), (y98.2.2.1, ())))) else (some (((), ()), (), (y97.2.2.1, ())))))) else (bif ((a0.2.2.2.1 : Int) == 5) then ((F38 (IntKind.wrap .u64 a0.2.2.2.2.2.2.2.1) (y68.2.2.1 ++ [a0.2.2.2.1])).bind fun y99 => (some (((), ()), (), (y99.2.2.1, ())))) else (some (((), ()), (), ((y68.2.2.1 ++ [a0.2.2.2.1]), ())))))))) else none))))
noncomputable def i16 : Tm := { sl := [(0, .v tDEv), (1, .v tDEv)], bx := [], bf := [] }
noncomputable def o16 : OT := (.ret { sl := [(0, .v .b)], bx := [], bf := [] })
noncomputable def F16 (a0 : DEv) (a1 : DEv) : Option ((Bool × Unit) × Unit × Unit) :=
 ((F28 (a0.1, (a0.2.1, (a0.2.2.1, (a0.2.2.2.1, (a0.2.2.2.2.1, (a0.2.2.2.2.2.1, (a0.2.2.2.2.2.2.1, (a0.2.2.2.2.2.2.2.1, ()))))))))).bind fun y100 => ((F28 (a1.1, (a1.2.1, (a1.2.2.1, (a1.2.2.2.1, (a1.2.2.2.2.1, (a1.2.2.2.2.2.1, (a1.2.2.2.2.2.2.1, (a1.2.2.2.2.2.2.2.1, ()))))))))).bind fun y101 => (some (((((strL y100.2.2.1) : ByteArray).toList == ((strL y101.2.2.1) : ByteArray).toList), ()), (), ()))))
noncomputable def c16 : Con := ⟨i16, o16, fun x => F16 x.1.1 x.1.2.1⟩
noncomputable def T17_4 (a0 : (List DEv)) (a1 : (List DEv)) (a5 : Int) : Option ((((List DEv) × ((List DEv) × (Int × Unit))) × Unit × Unit) ⊕ (((Bool × Unit) × Unit × Unit) ⊕ (Unit × Unit × Unit))) :=
 (bif decide (a5 < (a0.length : Int)) then (bif decide (0 ≤ a5 ∧ a5 < (a0.length : Int)) then (bif decide (0 ≤ a5 ∧ a5 < (a1.length : Int)) then ((F16 ((a0.getD a5.toNat ((0 : Int), ((0 : Int), ((0 : Int), ((0 : Int), (ByteArray.empty, ([], ((0 : Nat), ((0 : Int), ()))))))))).1, ((a0.getD a5.toNat ((0 : Int), ((0 : Int), ((0 : Int), ((0 : Int), (ByteArray.empty, ([], ((0 : Nat), ((0 : Int), ()))))))))).2.1, ((a0.getD a5.toNat ((0 : Int), ((0 : Int), ((0 : Int), ((0 : Int), (ByteArray.empty, ([], ((0 : Nat), ((0 : Int), ()))))))))).2.2.1, ((a0.getD a5.toNat ((0 : Int), ((0 : Int), ((0 : Int), ((0 : Int), (ByteArray.empty, ([], ((0 : Nat), ((0 : Int), ()))))))))).2.2.2.1, ((a0.getD a5.toNat ((0 : Int), ((0 : Int), ((0 : Int), ((0 : Int), (ByteArray.empty, ([], ((0 : Nat), ((0 : Int), ()))))))))).2.2.2.2.1, ((a0.getD a5.toNat ((0 : Int), ((0 : Int), ((0 : Int), ((0 : Int), (ByteArray.empty, ([], ((0 : Nat), ((0 : Int), ()))))))))).2.2.2.2.2.1, ((a0.getD a5.toNat ((0 : Int), ((0 : Int), ((0 : Int), ((0 : Int), (ByteArray.empty, ([], ((0 : Nat), ((0 : Int), ()))))))))).2.2.2.2.2.2.1, ((a0.getD a5.toNat ((0 : Int), ((0 : Int), ((0 : Int), ((0 : Int), (ByteArray.empty, ([], ((0 : Nat), ((0 : Int), ()))))))))).2.2.2.2.2.2.2.1, ())))))))) ((a1.getD a5.toNat ((0 : Int), ((0 : Int), ((0 : Int), ((0 : Int), (ByteArray.empty, ([], ((0 : Nat), ((0 : Int), ()))))))))).1, ((a1.getD a5.toNat ((0 : Int), ((0 : Int), ((0 : Int), ((0 : Int), (ByteArray.empty, ([], ((0 : Nat), ((0 : Int), ()))))))))).2.1, ((a1.getD a5.toNat ((0 : Int), ((0 : Int), ((0 : Int), ((0 : Int), (ByteArray.empty, ([], ((0 : Nat), ((0 : Int), ()))))))))).2.2.1, ((a1.getD a5.toNat ((0 : Int), ((0 : Int), ((0 : Int), ((0 : Int), (ByteArray.empty, ([], ((0 : Nat), ((0 : Int), ()))))))))).2.2.2.1, ((a1.getD a5.toNat ((0 : Int), ((0 : Int), ((0 : Int), ((0 : Int), (ByteArray.empty, ([], ((0 : Nat), ((0 : Int), ()))))))))).2.2.2.2.1, ((a1.getD a5.toNat ((0 : Int), ((0 : Int), ((0 : Int), ((0 : Int), (ByteArray.empty, ([], ((0 : Nat), ((0 : Int), ()))))))))).2.2.2.2.2.1, ((a1.getD a5.toNat ((0 : Int), ((0 : Int), ((0 : Int), ((0 : Int), (ByteArray.empty, ([], ((0 : Nat), ((0 : Int), ()))))))))).2.2.2.2.2.2.1, ((a1.getD a5.toNat ((0 : Int), ((0 : Int), ((0 : Int), ((0 : Int), (ByteArray.empty, ([], ((0 : Nat), ((0 : Int), ()))))))))).2.2.2.2.2.2.2.1, ()))))))))).bind fun y103 => (bif (!y103.1.1) then (some (.inr (.inl ((false, ()), (), ())))) else (some (.inl ((a0, a1, (IntKind.wrap .i64 (a5 + 1)), ()), (), ()))))) else none) else none) else (some (.inr (.inr ((), (), ())))))
noncomputable def L17_4 (a0 : (List DEv)) (a1 : (List DEv)) (a5 : Int) : Option (((Bool × Unit) × Unit × Unit) ⊕ (Unit × Unit × Unit)) := loopF (fun x : (((List DEv) × ((List DEv) × (Int × Unit))) × Unit × Unit) => T17_4 x.1.1 x.1.2.1 x.1.2.2.1) ((a0, a1, a5, ()), (), ())
noncomputable def i17 : Tm := { sl := [(0, .v (.l tDEv)), (1, .v (.l tDEv))], bx := [], bf := [] }
noncomputable def o17 : OT := (.ret { sl := [(0, .v .b)], bx := [], bf := [] })
noncomputable def F17 (a0 : (List DEv)) (a1 : (List DEv)) : Option ((Bool × Unit) × Unit × Unit) :=
 (bif (((a0.length : Int) : Int) != (a1.length : Int)) then (some ((false, ()), (), ())) else ((L17_4 a0 a1 0).bind fun y104 => (Sum.elim (fun y105 => (some ((y105.1.1, ()), (), ()))) (fun y105 => (some ((true, ()), (), ()))) y104)))
noncomputable def c17 : Con := ⟨i17, o17, fun x => F17 x.1.1 x.1.2.1⟩
noncomputable def T22_6 (a0 : (List DEv)) (a3 : (List DEv)) (a4 : Int) (a5 : Int) : Option ((((List DEv) × ((List DEv) × (Int × (Int × Unit)))) × Unit × Unit) ⊕ ((Int × Unit) × Unit × Unit)) :=
 (bif decide (a5 > 0) then (bif decide (0 ≤ a4 ∧ a4 < (a0.length : Int)) then ((F13 ((a0.getD a4.toNat ((0 : Int), ((0 : Int), ((0 : Int), ((0 : Int), (ByteArray.empty, ([], ((0 : Nat), ((0 : Int), ()))))))))).1, ((a0.getD a4.toNat ((0 : Int), ((0 : Int), ((0 : Int), ((0 : Int), (ByteArray.empty, ([], ((0 : Nat), ((0 : Int), ()))))))))).2.1, ((a0.getD a4.toNat ((0 : Int), ((0 : Int), ((0 : Int), ((0 : Int), (ByteArray.empty, ([], ((0 : Nat), ((0 : Int), ()))))))))).2.2.1, ((a0.getD a4.toNat ((0 : Int), ((0 : Int), ((0 : Int), ((0 : Int), (ByteArray.empty, ([], ((0 : Nat), ((0 : Int), ()))))))))).2.2.2.1, ((a0.getD a4.toNat ((0 : Int), ((0 : Int), ((0 : Int), ((0 : Int), (ByteArray.empty, ([], ((0 : Nat), ((0 : Int), ()))))))))).2.2.2.2.1, ((a0.getD a4.toNat ((0 : Int), ((0 : Int), ((0 : Int), ((0 : Int), (ByteArray.empty, ([], ((0 : Nat), ((0 : Int), ()))))))))).2.2.2.2.2.1, ((a0.getD a4.toNat ((0 : Int), ((0 : Int), ((0 : Int), ((0 : Int), (ByteArray.empty, ([], ((0 : Nat), ((0 : Int), ()))))))))).2.2.2.2.2.2.1, ((a0.getD a4.toNat ((0 : Int), ((0 : Int), ((0 : Int), ((0 : Int), (ByteArray.empty, ([], ((0 : Nat), ((0 : Int), ()))))))))).2.2.2.2.2.2.2.1, ()))))))))).bind fun y109 => (bif (decide (0 ≤ ((IntKind.wrap .i64 (a5 - 1)) : Int) ∧ ((IntKind.wrap .i64 (a5 - 1)) : Int) < (a3.length : Int))) then ((F13 ((a3.getD ((IntKind.wrap .i64 (a5 - 1)) : Int).toNat ((0 : Int), ((0 : Int), ((0 : Int), ((0 : Int), (ByteArray.empty, ([], ((0 : Nat), ((0 : Int), ()))))))))).1, ((a3.getD ((IntKind.wrap .i64 (a5 - 1)) : Int).toNat ((0 : Int), ((0 : Int), ((0 : Int), ((0 : Int), (ByteArray.empty, ([], ((0 : Nat), ((0 : Int), ()))))))))).2.1, ((a3.getD ((IntKind.wrap .i64 (a5 - 1)) : Int).toNat ((0 : Int), ((0 : Int), ((0 : Int), ((0 : Int), (ByteArray.empty, ([], ((0 : Nat), ((0 : Int), ()))))))))).2.2.1, ((a3.getD ((IntKind.wrap .i64 (a5 - 1)) : Int).toNat ((0 : Int), ((0 : Int), ((0 : Int), ((0 : Int), (ByteArray.empty, ([], ((0 : Nat), ((0 : Int), ()))))))))).2.2.2.1, ((a3.getD ((IntKind.wrap .i64 (a5 - 1)) : Int).toNat ((0 : Int), ((0 : Int), ((0 : Int), ((0 : Int), (ByteArray.empty, ([], ((0 : Nat), ((0 : Int), ()))))))))).2.2.2.2.1, ((a3.getD ((IntKind.wrap .i64 (a5 - 1)) : Int).toNat ((0 : Int), ((0 : Int), ((0 : Int), ((0 : Int), (ByteArray.empty, ([], ((0 : Nat), ((0 : Int), ()))))))))).2.2.2.2.2.1, ((a3.getD ((IntKind.wrap .i64 (a5 - 1)) : Int).toNat ((0 : Int), ((0 : Int), ((0 : Int), ((0 : Int), (ByteArray.empty, ([], ((0 : Nat), ((0 : Int), ()))))))))).2.2.2.2.2.2.1, ((a3.getD ((IntKind.wrap .i64 (a5 - 1)) : Int).toNat ((0 : Int), ((0 : Int), ((0 : Int), ((0 : Int), (ByteArray.empty, ([], ((0 : Nat), ((0 : Int), ()))))))))).2.2.2.2.2.2.2.1, ()))))))))).bind fun y110 => ((F12 (y109.1.1.1, (y109.1.1.2.1, ())) (y110.1.1.1, (y110.1.1.2.1, ()))).bind fun y111 => (bif y111.1.1 then (some (.inl ((a0, a3, a4, (IntKind.wrap .i64 (a5 - 1)), ()), (), ()))) else (some (.inr ((a5, ()), (), ())))))) else none)) else none) else (some (.inr ((a5, ()), (), ()))))
noncomputable def L22_6 (a0 : (List DEv)) (a3 : (List DEv)) (a4 : Int) (a5 : Int) : Option ((Int × Unit) × Unit × Unit) := loopF (fun x : (((List DEv) × ((List DEv) × (Int × (Int × Unit)))) × Unit × Unit) => T22_6 x.1.1 x.1.2.1 x.1.2.2.1 x.1.2.2.2.1) ((a0, a3, a4, a5, ()), (), ())
noncomputable def T22_3 (a0 : (List DEv)) (a4 : Int) (q0 : (List DEv)) : Option ((((List DEv) × (Unit × (Int × Unit))) × Unit × ((List DEv) × Unit)) ⊕ ((Unit × Unit) × Unit × ((List DEv) × Unit))) :=
 (bif decide (a4 < (a0.length : Int)) then ((L22_6 a0 q0 a4 (q0.length : Int)).bind fun y113 => (bif decide (0 ≤ (y113.1.1 : Int) ∧ (y113.1.1 : Int) ≤ (q0.length : Int)) then (bif (decide (((q0.take (y113.1.1 : Int).toNat)).length < lim)) then (bif decide (0 ≤ a4 ∧ a4 < (a0.length : Int)) then (bif (decide (((q0.take (y113.1.1 : Int).toNat)).length + ([((a0.getD a4.toNat ((0 : Int), ((0 : Int), ((0 : Int), ((0 : Int), (ByteArray.empty, ([], ((0 : Nat), ((0 : Int), ()))))))))).1, ((a0.getD a4.toNat ((0 : Int), ((0 : Int), ((0 : Int), ((0 : Int), (ByteArray.empty, ([], ((0 : Nat), ((0 : Int), ()))))))))).2.1, ((a0.getD a4.toNat ((0 : Int), ((0 : Int), ((0 : Int), ((0 : Int), (ByteArray.empty, ([], ((0 : Nat), ((0 : Int), ()))))))))).2.2.1, ((a0.getD a4.toNat ((0 : Int), ((0 : Int), ((0 : Int), ((0 : Int), (ByteArray.empty, ([], ((0 : Nat), ((0 : Int), ()))))))))).2.2.2.1, ((a0.getD a4.toNat ((0 : Int), ((0 : Int), ((0 : Int), ((0 : Int), (ByteArray.empty, ([], ((0 : Nat), ((0 : Int), ()))))))))).2.2.2.2.1, ((a0.getD a4.toNat ((0 : Int), ((0 : Int), ((0 : Int), ((0 : Int), (ByteArray.empty, ([], ((0 : Nat), ((0 : Int), ()))))))))).2.2.2.2.2.1, ((a0.getD a4.toNat ((0 : Int), ((0 : Int), ((0 : Int), ((0 : Int), (ByteArray.empty, ([], ((0 : Nat), ((0 : Int), ()))))))))).2.2.2.2.2.2.1, ((a0.getD a4.toNat ((0 : Int), ((0 : Int), ((0 : Int), ((0 : Int), (ByteArray.empty, ([], ((0 : Nat), ((0 : Int), ()))))))))).2.2.2.2.2.2.2.1, ()))))))))]).length < lim)) then (bif decide (0 ≤ (y113.1.1 : Int) ∧ (y113.1.1 : Int) ≤ (q0.length : Int)) then (bif (decide ((((q0.take (y113.1.1 : Int).toNat) ++ [((a0.getD a4.toNat ((0 : Int), ((0 : Int), ((0 : Int), ((0 : Int), (ByteArray.empty, ([], ((0 : Nat), ((0 : Int), ()))))))))).1, ((a0.getD a4.toNat ((0 : Int), ((0 : Int), ((0 : Int), ((0 : Int), (ByteArray.empty, ([], ((0 : Nat), ((0 : Int), ()))))))))).2.1, ((a0.getD a4.toNat ((0 : Int), ((0 : Int), ((0 : Int), ((0 : Int), (ByteArray.empty, ([], ((0 : Nat), ((0 : Int), ()))))))))).2.2.1, ((a0.getD a4.toNat ((0 : Int), ((0 : Int), ((0 : Int), ((0 : Int), (ByteArray.empty, ([], ((0 : Nat), ((0 : Int), ()))))))))).2.2.2.1, ((a0.getD a4.toNat ((0 : Int), ((0 : Int), ((0 : Int), ((0 : Int), (ByteArray.empty, ([], ((0 : Nat), ((0 : Int), ()))))))))).2.2.2.2.1, ((a0.getD a4.toNat ((0 : Int), ((0 : Int), ((0 : Int), ((0 : Int), (ByteArray.empty, ([], ((0 : Nat), ((0 : Int), ()))))))))).2.2.2.2.2.1, ((a0.getD a4.toNat ((0 : Int), ((0 : Int), ((0 : Int), ((0 : Int), (ByteArray.empty, ([], ((0 : Nat), ((0 : Int), ()))))))))).2.2.2.2.2.2.1, ((a0.getD a4.toNat ((0 : Int), ((0 : Int), ((0 : Int), ((0 : Int), (ByteArray.empty, ([], ((0 : Nat), ((0 : Int), ()))))))))).2.2.2.2.2.2.2.1, ()))))))))])).length + ((q0.drop (y113.1.1 : Int).toNat)).length < lim)) then (some (.inl ((a0, (), (IntKind.wrap .i64 (a4 + 1)), ()), (), ((((q0.take (y113.1.1 : Int).toNat) ++ [((a0.getD a4.toNat ((0 : Int), ((0 : Int), ((0 : Int), ((0 : Int), (ByteArray.empty, ([], ((0 : Nat), ((0 : Int), ()))))))))).1, ((a0.getD a4.toNat ((0 : Int), ((0 : Int), ((0 : Int), ((0 : Int), (ByteArray.empty, ([], ((0 : Nat), ((0 : Int), ()))))))))).2.1, ((a0.getD a4.toNat ((0 : Int), ((0 : Int), ((0 : Int), ((0 : Int), (ByteArray.empty, ([], ((0 : Nat), ((0 : Int), ()))))))))).2.2.1, ((a0.getD a4.toNat ((0 : Int), ((0 : Int), ((0 : Int), ((0 : Int), (ByteArray.empty, ([], ((0 : Nat), ((0 : Int), ()))))))))).2.2.2.1, ((a0.getD a4.toNat ((0 : Int), ((0 : Int), ((0 : Int), ((0 : Int), (ByteArray.empty, ([], ((0 : Nat), ((0 : Int), ()))))))))).2.2.2.2.1, ((a0.getD a4.toNat ((0 : Int), ((0 : Int), ((0 : Int), ((0 : Int), (ByteArray.empty, ([], ((0 : Nat), ((0 : Int), ()))))))))).2.2.2.2.2.1, ((a0.getD a4.toNat ((0 : Int), ((0 : Int), ((0 : Int), ((0 : Int), (ByteArray.empty, ([], ((0 : Nat), ((0 : Int), ()))))))))).2.2.2.2.2.2.1, ((a0.getD a4.toNat ((0 : Int), ((0 : Int), ((0 : Int), ((0 : Int), (ByteArray.empty, ([], ((0 : Nat), ((0 : Int), ()))))))))).2.2.2.2.2.2.2.1, ()))))))))]) ++ (q0.drop (y113.1.1 : Int).toNat)), ())))) else none) else none) else none) else none) else none) else none)) else (some (.inr (((), ()), (), (q0, ())))))
noncomputable def L22_3 (a0 : (List DEv)) (a4 : Int) (q0 : (List DEv)) : Option ((Unit × Unit) × Unit × ((List DEv) × Unit)) := loopF (fun x : (((List DEv) × (Unit × (Int × Unit))) × Unit × ((List DEv) × Unit)) => T22_3 x.1.1 x.1.2.2.1 x.2.2.1) ((a0, (), a4, ()), (), (q0, ()))
noncomputable def F22 (a0 : (List DEv)) : Option (((List DEv) × Unit) × Unit × Unit) :=
 ((L22_3 a0 0 ([] : List DEv)).bind fun y114 => (some ((y114.2.2.1, ()), (), ())))
noncomputable def T10_3 (a0 : (List (List DEv))) (a4 : Int) (q0 : (List DEv)) : Option ((((List (List DEv)) × (Unit × (Int × Unit))) × Unit × ((List DEv) × Unit)) ⊕ ((Unit × Unit) × Unit × ((List DEv) × Unit))) :=
 (bif decide (a4 < (a0.length : Int)) then (bif decide (0 ≤ a4 ∧ a4 < (a0.length : Int)) then (bif decide (q0.length + ((a0.getD a4.toNat [])).length < lim) then (some (.inl ((a0, (), (IntKind.wrap .i64 (a4 + 1)), ()), (), ((q0 ++ (a0.getD a4.toNat [])), ())))) else none) else none) else (some (.inr (((), ()), (), (q0, ())))))
noncomputable def L10_3 (a0 : (List (List DEv))) (a4 : Int) (q0 : (List DEv)) : Option ((Unit × Unit) × Unit × ((List DEv) × Unit)) := loopF (fun x : (((List (List DEv)) × (Unit × (Int × Unit))) × Unit × ((List DEv) × Unit)) => T10_3 x.1.1 x.1.2.2.1 x.2.2.1) ((a0, (), a4, ()), (), (q0, ()))
noncomputable def i10 : Tm := { sl := [(0, .v (.l (.l tDEv)))], bx := [], bf := [] }
noncomputable def o10 : OT := (.ret { sl := [(0, .v (.l tDEv))], bx := [], bf := [] })
noncomputable def F10 (a0 : (List (List DEv))) : Option (((List DEv) × Unit) × Unit × Unit) :=
 ((L10_3 a0 0 ([] : List DEv)).bind fun y115 => ((F22 y115.2.2.1).bind fun y116 => (some ((y116.1.1, ()), (), ()))))
noncomputable def c10 : Con := ⟨i10, o10, fun x => F10 x.1.1⟩
noncomputable def b32 : Code := (.seq (.region 0 (regOf Try.f32 0) false) (.seq (.seq (.region 1 (regOf Try.f32 1) false) (.cond (.tmp 8) (.seq (.region 2 (regOf Try.f32 2) false) .ret) .skip)) (.seq (.region 3 (regOf Try.f32 3) false) .ret)))
theorem body32 : Try.f32.body = some b32 := by kernel_rfl
noncomputable def C32 : Tab := []
theorem C32_ok : TabOK Try.prog C32 := trivial
noncomputable def LO32 : Tab := []
noncomputable def i32 : Tm := { sl := [(0, .v tDEv), (1, .v (.i .u64))], bx := [], bf := [] }
noncomputable def o32 : OT := (.ret { sl := [(0, .v (.i .i64))], bx := [], bf := [] })
noncomputable def F32 (a0 : DEv) (a1 : Int) : Option ((Int × Unit) × Unit × Unit) :=
 (bif decide ((a0.2.2.1 : Int) ≤ a1) then (some (((-1), ()), (), ())) else (some ((1, ()), (), ())))
noncomputable def c32 : Con := ⟨i32, o32, fun x => F32 x.1.1 x.1.2.1⟩
theorem e32 (x : i32.E) : vfn Try.prog C32 LO32 Try.f32 b32 i32 o32 x = F32 x.1.1 x.1.2.1 := by kernel_rfl
theorem c32_ok : Con.OK Try.prog 32 c32 := (fn_ok C32_ok Try.func32 body32 (loops_of (l := []) (by kernel_rfl) (show LoopsOK Try.prog Try.f32.ntmps [] LO32 from trivial)) i32 o32).congr fun x => (e32 x).symm
noncomputable def l31_3 : Code := (.seq (.seq (.region 3 (regOf Try.f31 3) false) (.cond (.tmp 17) .skip (.exit 0))) (.block 1 (.seq (.region 4 (regOf Try.f31 4) false) (.seq (.region 5 (regOf Try.f31 5) false) (.cond (.tmp 31) (.region 6 (regOf Try.f31 6) false) (.region 7 (regOf Try.f31 7) false))))))
noncomputable def b31 : Code := (.seq (.region 0 (regOf Try.f31 0) false) (.seq (.region 1 (regOf Try.f31 1) false) (.seq (.region 2 (regOf Try.f31 2) false) (.seq (.block 0 (.loop l31_3)) (.seq (.region 8 (regOf Try.f31 8) false) .ret)))))
theorem body31 : Try.f31.body = some b31 := by kernel_rfl
noncomputable def C31_3 : Tab := [(32, c32)]
theorem C31_3_ok : TabOK Try.prog C31_3 := ⟨c32_ok, trivial⟩
noncomputable def LO31_3 : Tab := []
noncomputable def i31_3 : Tm := { sl := [(0, .v (.l tDEv)), (1, .v (.i .u64)), (2, .fn 32), (8, .v (.i .i64)), (9, .v (.i .i64)), (10, .v (.i .i64))], bx := [], bf := [] }
noncomputable def o31_3 : OT := (.exit 0 { sl := [(9, .v (.i .i64))], bx := [], bf := [] })
noncomputable def T31_3 (a0 : (List DEv)) (a1 : Int) (a8 : Int) (a9 : Int) (a10 : Int) : Option ((((List DEv) × (Int × (Unit × (Int × (Int × (Int × Unit)))))) × Unit × Unit) ⊕ ((Int × Unit) × Unit × Unit)) :=
 (bif decide (a9 < a10) then (bif (decide (0 ≤ ((IntKind.wrap .i64 (iShr .u64 (IntKind.wrap .u64 (IntKind.wrap .i64 (a9 + a10))) 1)) : Int) ∧ ((IntKind.wrap .i64 (iShr .u64 (IntKind.wrap .u64 (IntKind.wrap .i64 (a9 + a10))) 1)) : Int) < (a0.length : Int))) then ((F32 ((a0.getD ((IntKind.wrap .i64 (iShr .u64 (IntKind.wrap .u64 (IntKind.wrap .i64 (a9 + a10))) 1)) : Int).toNat ((0 : Int), ((0 : Int), ((0 : Int), ((0 : Int), (ByteArray.empty, ([], ((0 : Nat), ((0 : Int), ()))))))))).1, ((a0.getD ((IntKind.wrap .i64 (iShr .u64 (IntKind.wrap .u64 (IntKind.wrap .i64 (a9 + a10))) 1)) : Int).toNat ((0 : Int), ((0 : Int), ((0 : Int), ((0 : Int), (ByteArray.empty, ([], ((0 : Nat), ((0 : Int), ()))))))))).2.1, ((a0.getD ((IntKind.wrap .i64 (iShr .u64 (IntKind.wrap .u64 (IntKind.wrap .i64 (a9 + a10))) 1)) : Int).toNat ((0 : Int), ((0 : Int), ((0 : Int), ((0 : Int), (ByteArray.empty, ([], ((0 : Nat), ((0 : Int), ()))))))))).2.2.1, ((a0.getD ((IntKind.wrap .i64 (iShr .u64 (IntKind.wrap .u64 (IntKind.wrap .i64 (a9 + a10))) 1)) : Int).toNat ((0 : Int), ((0 : Int), ((0 : Int), ((0 : Int), (ByteArray.empty, ([], ((0 : Nat), ((0 : Int), ()))))))))).2.2.2.1, ((a0.getD ((IntKind.wrap .i64 (iShr .u64 (IntKind.wrap .u64 (IntKind.wrap .i64 (a9 + a10))) 1)) : Int).toNat ((0 : Int), ((0 : Int), ((0 : Int), ((0 : Int), (ByteArray.empty, ([], ((0 : Nat), ((0 : Int), ()))))))))).2.2.2.2.1, ((a0.getD ((IntKind.wrap .i64 (iShr .u64 (IntKind.wrap .u64 (IntKind.wrap .i64 (a9 + a10))) 1)) : Int).toNat ((0 : Int), ((0 : Int), ((0 : Int), ((0 : Int), (ByteArray.empty, ([], ((0 : Nat), ((0 : Int), ()))))))))).2.2.2.2.2.1, ((a0.getD ((IntKind.wrap .i64 (iShr .u64 (IntKind.wrap .u64 (IntKind.wrap .i64 (a9 + a10))) 1)) : Int).toNat ((0 : Int), ((0 : Int), ((0 : Int), ((0 : Int), (ByteArray.empty, ([], ((0 : Nat), ((0 : Int), ()))))))))).2.2.2.2.2.2.1, ((a0.getD ((IntKind.wrap .i64 (iShr .u64 (IntKind.wrap .u64 (IntKind.wrap .i64 (a9 + a10))) 1)) : Int).toNat ((0 : Int), ((0 : Int), ((0 : Int), ((0 : Int), (ByteArray.empty, ([], ((0 : Nat), ((0 : Int), ()))))))))).2.2.2.2.2.2.2.1, ())))))))) a1).bind fun y118 => (bif decide ((y118.1.1 : Int) < 0) then (some (.inl ((a0, a1, (), a8, (IntKind.wrap .i64 ((IntKind.wrap .i64 (iShr .u64 (IntKind.wrap .u64 (IntKind.wrap .i64 (a9 + a10))) 1)) + 1)), a10, ()), (), ()))) else (some (.inl ((a0, a1, (), a8, a9, (IntKind.wrap .i64 (iShr .u64 (IntKind.wrap .u64 (IntKind.wrap .i64 (a9 + a10))) 1)), ()), (), ()))))) else none) else (some (.inr ((a9, ()), (), ()))))
noncomputable def L31_3 (a0 : (List DEv)) (a1 : Int) (a8 : Int) (a9 : Int) (a10 : Int) : Option ((Int × Unit) × Unit × Unit) := loopF (fun x : (((List DEv) × (Int × (Unit × (Int × (Int × (Int × Unit)))))) × Unit × Unit) => T31_3 x.1.1 x.1.2.1 x.1.2.2.2.1 x.1.2.2.2.2.1 x.1.2.2.2.2.2.1) ((a0, a1, (), a8, a9, a10, ()), (), ())
theorem L31_3_eq (a0 : (List DEv)) (a1 : Int) (a8 : Int) (a9 : Int) (a10 : Int) : L31_3 a0 a1 a8 a9 a10 = (T31_3 a0 a1 a8 a9 a10).bind (Sum.elim (fun x => L31_3 x.1.1 x.1.2.1 x.1.2.2.2.1 x.1.2.2.2.2.1 x.1.2.2.2.2.2.1) some) := loopF_eq _ _
noncomputable def k31_3 : Con := ⟨i31_3, o31_3, fun x => L31_3 x.1.1 x.1.2.1 x.1.2.2.2.1 x.1.2.2.2.2.1 x.1.2.2.2.2.2.1⟩
theorem e31_3 (x : i31_3.E) : vround Try.prog C31_3 LO31_3 Try.f31.ntmps l31_3 i31_3 o31_3 x = T31_3 x.1.1 x.1.2.1 x.1.2.2.2.1 x.1.2.2.2.2.1 x.1.2.2.2.2.2.1 := by kernel_rfl
theorem k31_3_ok : Con.LOK Try.prog Try.f31.ntmps l31_3 k31_3 := (loop_ok C31_3_ok (loops_of (l := []) (by kernel_rfl) (show LoopsOK Try.prog Try.f31.ntmps [] LO31_3 from trivial)) i31_3 o31_3).congr fun x => (congrArg (fun T => loopF T x) (funext e31_3)).symm
noncomputable def C31 : Tab := [(32, c32)]
theorem C31_ok : TabOK Try.prog C31 := ⟨c32_ok, trivial⟩
noncomputable def LO31 : Tab := [(3, k31_3)]
noncomputable def i31 : Tm := { sl := [(0, .v (.l tDEv)), (1, .v (.i .u64)), (2, .fn 32)], bx := [], bf := [] }
noncomputable def o31 : OT := (.ret { sl := [(0, .v (.i .i64)), (1, .v .b)], bx := [], bf := [] })
noncomputable def F31 (a0 : (List DEv)) (a1 : Int) : Option ((Int × (Bool × Unit)) × Unit × Unit) :=
 ((L31_3 a0 a1 (a0.length : Int) 0 (a0.length : Int)).bind fun y119 => (bif decide ((y119.1.1 : Int) < (a0.length : Int)) then (bif decide (0 ≤ (y119.1.1 : Int) ∧ (y119.1.1 : Int) < (a0.length : Int)) then ((F32 ((a0.getD (y119.1.1 : Int).toNat ((0 : Int), ((0 : Int), ((0 : Int), ((0 : Int), (ByteArray.empty, ([], ((0 : Nat), ((0 : Int), ()))))))))).1, ((a0.getD (y119.1.1 : Int).toNat ((0 : Int), ((0 : Int), ((0 : Int), ((0 : Int), (ByteArray.empty, ([], ((0 : Nat), ((0 : Int), ()))))))))).2.1, ((a0.getD (y119.1.1 : Int).toNat ((0 : Int), ((0 : Int), ((0 : Int), ((0 : Int), (ByteArray.empty, ([], ((0 : Nat), ((0 : Int), ()))))))))).2.2.1, ((a0.getD (y119.1.1 : Int).toNat ((0 : Int), ((0 : Int), ((0 : Int), ((0 : Int), (ByteArray.empty, ([], ((0 : Nat), ((0 : Int), ()))))))))).2.2.2.1, ((a0.getD (y119.1.1 : Int).toNat ((0 : Int), ((0 : Int), ((0 : Int), ((0 : Int), (ByteArray.empty, ([], ((0 : Nat), ((0 : Int), ()))))))))).2.2.2.2.1, ((a0.getD (y119.1.1 : Int).toNat ((0 : Int), ((0 : Int), ((0 : Int), ((0 : Int), (ByteArray.empty, ([], ((0 : Nat), ((0 : Int), ()))))))))).2.2.2.2.2.1, ((a0.getD (y119.1.1 : Int).toNat ((0 : Int), ((0 : Int), ((0 : Int), ((0 : Int), (ByteArray.empty, ([], ((0 : Nat), ((0 : Int), ()))))))))).2.2.2.2.2.2.1, ((a0.getD (y119.1.1 : Int).toNat ((0 : Int), ((0 : Int), ((0 : Int), ((0 : Int), (ByteArray.empty, ([], ((0 : Nat), ((0 : Int), ()))))))))).2.2.2.2.2.2.2.1, ())))))))) a1).bind fun y120 => (some ((y119.1.1, ((y120.1.1 : Int) == 0), ()), (), ()))) else none) else (some ((y119.1.1, false, ()), (), ()))))
noncomputable def c31 : Con := ⟨i31, o31, fun x => F31 x.1.1 x.1.2.1⟩
theorem e31 (x : i31.E) : vfn Try.prog C31 LO31 Try.f31 b31 i31 o31 x = F31 x.1.1 x.1.2.1 := by kernel_rfl
theorem c31_ok : Con.OK Try.prog 31 c31 := (fn_ok C31_ok Try.func31 body31 (loops_of (l := [l31_3]) (by kernel_rfl) (show LoopsOK Try.prog Try.f31.ntmps [l31_3] LO31 from ⟨k31_3_ok, trivial⟩)) i31 o31).congr fun x => (e31 x).symm
noncomputable def l21_3 : Code := (.seq (.region 3 (regOf Try.f21 3) false) (.seq (.cond (.tmp 13) .skip (.exit 0)) (.seq (.block 1 (.seq (.region 4 (regOf Try.f21 4) false) (.seq (.region 5 (regOf Try.f21 5) false) (.region 6 (regOf Try.f21 6) false)))) (.region 7 (regOf Try.f21 7) false))))
noncomputable def b21 : Code := (.seq (.region 0 (regOf Try.f21 0) false) (.seq (.region 1 (regOf Try.f21 1) false) (.seq (.seq (.region 2 (regOf Try.f21 2) false) (.block 0 (.loop l21_3))) (.seq (.region 8 (regOf Try.f21 8) false) .ret))))
theorem body21 : Try.f21.body = some b21 := by kernel_rfl
noncomputable def C21_3 : Tab := [(31, c31)]
theorem C21_3_ok : TabOK Try.prog C21_3 := ⟨c31_ok, trivial⟩
noncomputable def LO21_3 : Tab := []
noncomputable def i21_3 : Tm := { sl := [(1, .v (.i .u64)), (5, .o 0), (10, .v (.l (.l tDEv))), (11, .v (.i .i64)), (12, .v (.i .i64))], bx := [], bf := [(.i .i64)] }
noncomputable def o21_3 : OT := (.exit 0 { sl := [(5, .o 0)], bx := [], bf := [(.i .i64)] })
noncomputable def T21_3 (a1 : Int) (a10 : (List (List DEv))) (a11 : Int) (a12 : Int) (q0 : (List Int)) : Option (((Int × (Unit × ((List (List DEv)) × (Int × (Int × Unit))))) × Unit × ((List Int) × Unit)) ⊕ ((Unit × Unit) × Unit × ((List Int) × Unit))) :=
 (bif decide (a12 < a11) then (bif decide (0 ≤ a12 ∧ a12 < (a10.length : Int)) then ((F31 (a10.getD a12.toNat []) a1).bind fun y122 => (bif decide (q0.length + ([y122.1.1]).length < lim) then (some (.inl ((a1, (), a10, a11, (IntKind.wrap .i64 (a12 + 1)), ()), (), ((q0 ++ [y122.1.1]), ())))) else none)) else none) else (some (.inr (((), ()), (), (q0, ())))))
noncomputable def L21_3 (a1 : Int) (a10 : (List (List DEv))) (a11 : Int) (a12 : Int) (q0 : (List Int)) : Option ((Unit × Unit) × Unit × ((List Int) × Unit)) := loopF (fun x : ((Int × (Unit × ((List (List DEv)) × (Int × (Int × Unit))))) × Unit × ((List Int) × Unit)) => T21_3 x.1.1 x.1.2.2.1 x.1.2.2.2.1 x.1.2.2.2.2.1 x.2.2.1) ((a1, (), a10, a11, a12, ()), (), (q0, ()))
theorem L21_3_eq (a1 : Int) (a10 : (List (List DEv))) (a11 : Int) (a12 : Int) (q0 : (List Int)) : L21_3 a1 a10 a11 a12 q0 = (T21_3 a1 a10 a11 a12 q0).bind (Sum.elim (fun x => L21_3 x.1.1 x.1.2.2.1 x.1.2.2.2.1 x.1.2.2.2.2.1 x.2.2.1) some) := loopF_eq _ _
noncomputable def k21_3 : Con := ⟨i21_3, o21_3, fun x => L21_3 x.1.1 x.1.2.2.1 x.1.2.2.2.1 x.1.2.2.2.2.1 x.2.2.1⟩
theorem e21_3 (x : i21_3.E) : vround Try.prog C21_3 LO21_3 Try.f21.ntmps l21_3 i21_3 o21_3 x = T21_3 x.1.1 x.1.2.2.1 x.1.2.2.2.1 x.1.2.2.2.2.1 x.2.2.1 := by kernel_rfl
theorem k21_3_ok : Con.LOK Try.prog Try.f21.ntmps l21_3 k21_3 := (loop_ok C21_3_ok (loops_of (l := []) (by kernel_rfl) (show LoopsOK Try.prog Try.f21.ntmps [] LO21_3 from trivial)) i21_3 o21_3).congr fun x => (congrArg (fun T => loopF T x) (funext e21_3)).symm
noncomputable def C21 : Tab := [(31, c31)]
theorem C21_ok : TabOK Try.prog C21 := ⟨c31_ok, trivial⟩
noncomputable def LO21 : Tab := [(3, k21_3)]
noncomputable def i21 : Tm := { sl := [(0, .v (.l (.l tDEv))), (1, .v (.i .u64))], bx := [], bf := [] }
noncomputable def o21 : OT := (.ret { sl := [(0, .v (.l (.i .i64)))], bx := [], bf := [] })
noncomputable def F21 (a0 : (List (List DEv))) (a1 : Int) : Option (((List Int) × Unit) × Unit × Unit) :=
 ((L21_3 a1 a0 (a0.length : Int) 0 ([] : List Int)).bind fun y123 => (some ((y123.2.2.1, ()), (), ())))
noncomputable def c21 : Con := ⟨i21, o21, fun x => F21 x.1.1 x.1.2.1⟩
theorem e21 (x : i21.E) : vfn Try.prog C21 LO21 Try.f21 b21 i21 o21 x = F21 x.1.1 x.1.2.1 := by kernel_rfl
theorem c21_ok : Con.OK Try.prog 21 c21 := (fn_ok C21_ok Try.func21 body21 (loops_of (l := [l21_3]) (by kernel_rfl) (show LoopsOK Try.prog Try.f21.ntmps [l21_3] LO21 from ⟨k21_3_ok, trivial⟩)) i21 o21).congr fun x => (e21 x).symm
noncomputable def F30 (a0 : DEv) (a1 : DEv) : Option ((Int × Unit) × Unit × Unit) :=
 ((F25 (a0.1, (a0.2.1, (a0.2.2.1, (a0.2.2.2.1, (a0.2.2.2.2.1, (a0.2.2.2.2.2.1, (a0.2.2.2.2.2.2.1, (a0.2.2.2.2.2.2.2.1, ()))))))))).bind fun y124 => ((F25 (a1.1, (a1.2.1, (a1.2.2.1, (a1.2.2.2.1, (a1.2.2.2.2.1, (a1.2.2.2.2.2.1, (a1.2.2.2.2.2.2.1, (a1.2.2.2.2.2.2.2.1, ()))))))))).bind fun y125 => ((F24 (y124.1.1.1, (y124.1.1.2.1, ())) (y125.1.1.1, (y125.1.1.2.1, ()))).bind fun y126 => (some ((y126.1.1, ()), (), ())))))
noncomputable def T29_2 (a0 : (List DEv)) (a5 : Int) : Option ((((List DEv) × (Unit × (Int × Unit))) × Unit × Unit) ⊕ (((Bool × Unit) × Unit × Unit) ⊕ (Unit × Unit × Unit))) :=
 (bif decide (a5 > 0) then (bif decide (0 ≤ a5 ∧ a5 < (a0.length : Int)) then (bif (decide (0 ≤ ((IntKind.wrap .i64 (a5 - 1)) : Int) ∧ ((IntKind.wrap .i64 (a5 - 1)) : Int) < (a0.length : Int))) then ((F30 ((a0.getD a5.toNat ((0 : Int), ((0 : Int), ((0 : Int), ((0 : Int), (ByteArray.empty, ([], ((0 : Nat), ((0 : Int), ()))))))))).1, ((a0.getD a5.toNat ((0 : Int), ((0 : Int), ((0 : Int), ((0 : Int), (ByteArray.empty, ([], ((0 : Nat), ((0 : Int), ()))))))))).2.1, ((a0.getD a5.toNat ((0 : Int), ((0 : Int), ((0 : Int), ((0 : Int), (ByteArray.empty, ([], ((0 : Nat), ((0 : Int), ()))))))))).2.2.1, ((a0.getD a5.toNat ((0 : Int), ((0 : Int), ((0 : Int), ((0 : Int), (ByteArray.empty, ([], ((0 : Nat), ((0 : Int), ()))))))))).2.2.2.1, ((a0.getD a5.toNat ((0 : Int), ((0 : Int), ((0 : Int), ((0 : Int), (ByteArray.empty, ([], ((0 : Nat), ((0 : Int), ()))))))))).2.2.2.2.1, ((a0.getD a5.toNat ((0 : Int), ((0 : Int), ((0 : Int), ((0 : Int), (ByteArray.empty, ([], ((0 : Nat), ((0 : Int), ()))))))))).2.2.2.2.2.1, ((a0.getD a5.toNat ((0 : Int), ((0 : Int), ((0 : Int), ((0 : Int), (ByteArray.empty, ([], ((0 : Nat), ((0 : Int), ()))))))))).2.2.2.2.2.2.1, ((a0.getD a5.toNat ((0 : Int), ((0 : Int), ((0 : Int), ((0 : Int), (ByteArray.empty, ([], ((0 : Nat), ((0 : Int), ()))))))))).2.2.2.2.2.2.2.1, ())))))))) ((a0.getD ((IntKind.wrap .i64 (a5 - 1)) : Int).toNat ((0 : Int), ((0 : Int), ((0 : Int), ((0 : Int), (ByteArray.empty, ([], ((0 : Nat), ((0 : Int), ()))))))))).1, ((a0.getD ((IntKind.wrap .i64 (a5 - 1)) : Int).toNat ((0 : Int), ((0 : Int), ((0 : Int), ((0 : Int), (ByteArray.empty, ([], ((0 : Nat), ((0 : Int), ()))))))))).2.1, ((a0.getD ((IntKind.wrap .i64 (a5 - 1)) : Int).toNat ((0 : Int), ((0 : Int), ((0 : Int), ((0 : Int), (ByteArray.empty, ([], ((0 : Nat), ((0 : Int), ()))))))))).2.2.1, ((a0.getD ((IntKind.wrap .i64 (a5 - 1)) : Int).toNat ((0 : Int), ((0 : Int), ((0 : Int), ((0 : Int), (ByteArray.empty, ([], ((0 : Nat), ((0 : Int), ()))))))))).2.2.2.1, ((a0.getD ((IntKind.wrap .i64 (a5 - 1)) : Int).toNat ((0 : Int), ((0 : Int), ((0 : Int), ((0 : Int), (ByteArray.empty, ([], ((0 : Nat), ((0 : Int), ()))))))))).2.2.2.2.1, ((a0.getD ((IntKind.wrap .i64 (a5 - 1)) : Int).toNat ((0 : Int), ((0 : Int), ((0 : Int), ((0 : Int), (ByteArray.empty, ([], ((0 : Nat), ((0 : Int), ()))))))))).2.2.2.2.2.1, ((a0.getD ((IntKind.wrap .i64 (a5 - 1)) : Int).toNat ((0 : Int), ((0 : Int), ((0 : Int), ((0 : Int), (ByteArray.empty, ([], ((0 : Nat), ((0 : Int), ()))))))))).2.2.2.2.2.2.1, ((a0.getD ((IntKind.wrap .i64 (a5 - 1)) : Int).toNat ((0 : Int), ((0 : Int), ((0 : Int), ((0 : Int), (ByteArray.empty, ([], ((0 : Nat), ((0 : Int), ()))))))))).2.2.2.2.2.2.2.1, ()))))))))).bind fun y128 => (bif decide ((y128.1.1 : Int) < 0) then (some (.inr (.inl ((false, ()), (), ())))) else (some (.inl ((a0, (), (IntKind.wrap .i64 (a5 - 1)), ()), (), ()))))) else none) else none) else (some (.inr (.inr ((), (), ())))))
noncomputable def L29_2 (a0 : (List DEv)) (a5 : Int) : Option (((Bool × Unit) × Unit × Unit) ⊕ (Unit × Unit × Unit)) := loopF (fun x : (((List DEv) × (Unit × (Int × Unit))) × Unit × Unit) => T29_2 x.1.1 x.1.2.2.1) ((a0, (), a5, ()), (), ())
noncomputable def F29 (a0 : (List DEv)) : Option ((Bool × Unit) × Unit × Unit) :=
 ((L29_2 a0 (IntKind.wrap .i64 ((a0.length : Int) - 1))).bind fun y129 => (Sum.elim (fun y130 => (some ((y130.1.1, ()), (), ()))) (fun y130 => (some ((true, ()), (), ()))) y129))
noncomputable def i19 : Tm := { sl := [(0, .v (.l tDEv))], bx := [], bf := [] }
noncomputable def o19 : OT := (.ret { sl := [(0, .v .b)], bx := [], bf := [] })
noncomputable def F19 (a0 : (List DEv)) : Option ((Bool × Unit) × Unit × Unit) :=
 ((F29 a0).bind fun y131 => (some ((y131.1.1, ()), (), ())))
noncomputable def c19 : Con := ⟨i19, o19, fun x => F19 x.1.1⟩
noncomputable def l18_4 : Code := (.seq (.seq (.region 4 (regOf Try.f18 4) false) (.cond (.tmp 19) .skip (.exit 0))) (.block 1 (.seq (.region 5 (regOf Try.f18 5) false) (.seq (.seq (.region 6 (regOf Try.f18 6) false) (.cond (.tmp 26) (.exit 0) .skip)) (.region 7 (regOf Try.f18 7) false)))))
noncomputable def b18 : Code := (.seq (.region 0 (regOf Try.f18 0) false) (.seq (.region 1 (regOf Try.f18 1) false) (.seq (.region 2 (regOf Try.f18 2) false) (.seq (.region 3 (regOf Try.f18 3) false) (.seq (.block 0 (.loop l18_4)) (.seq (.region 8 (regOf Try.f18 8) false) .ret))))))
theorem body18 : Try.f18.body = some b18 := by kernel_rfl
noncomputable def C18_4 : Tab := [(15, c15)]
theorem C18_4_ok : TabOK Try.prog C18_4 := ⟨c15_ok, trivial⟩
noncomputable def LO18_4 : Tab := []
noncomputable def i18_4 : Tm := { sl := [(2, .v (.i .i64)), (7, .p 0 0), (8, .o 0)], bx := [[.w (.l tDEv) 1], [.r (.l tDEv)]], bf := [tDEv] }
noncomputable def o18_4 : OT := (.exit 0 { sl := [(8, .o 0)], bx := [[.w (.l tDEv) 1], [.r (.l tDEv)]], bf := [tDEv] })
noncomputable def T18_4 (a2 : Int) (b0_0 : Int) (b1_0 : (List (List DEv))) (q0 : (List DEv)) : Option (((Int × (Unit × (Unit × Unit))) × ((Int × Unit) × (((List (List DEv)) × Unit) × Unit)) × ((List DEv) × Unit)) ⊕ ((Unit × Unit) × ((Int × Unit) × (((List (List DEv)) × Unit) × Unit)) × ((List DEv) × Unit))) :=
 (bif decide (((q0.length : Int) : Int) < a2) then ((F15 (((Int.toNat b0_0) : Nat) : Int) b1_0).bind fun y135 => (bif (!y135.1.2.1) then (some (.inr (((), ()), (((((Int.toNat y135.2.1.1.1) : Nat) : Int), ()), (y135.2.1.2.1.1, ()), ()), (q0, ())))) else (bif (decide (q0.length + ([(y135.1.1.1, (y135.1.1.2.1, (y135.1.1.2.2.1, (y135.1.1.2.2.2.1, (y135.1.1.2.2.2.2.1, (y135.1.1.2.2.2.2.2.1, (y135.1.1.2.2.2.2.2.2.1, (y135.1.1.2.2.2.2.2.2.2.1, ()))))))))]).length < lim)) then (some (.inl ((a2, (), (), ()), (((((Int.toNat y135.2.1.1.1) : Nat) : Int), ()), (y135.2.1.2.1.1, ()), ()), ((q0 ++ [(y135.1.1.1, (y135.1.1.2.1, (y135.1.1.2.2.1, (y135.1.1.2.2.2.1, (y135.1.1.2.2.2.2.1, (y135.1.1.2.2.2.2.2.1, (y135.1.1.2.2.2.2.2.2.1, (y135.1.1.2.2.2.2.2.2.2.1, ()))))))))]), ())))) else none))) else (some (.inr (((), ()), (((((Int.toNat b0_0) : Nat) : Int), ()), (b1_0, ()), ()), (q0, ())))))
noncomputable def L18_4 (a2 : Int) (b0_0 : Int) (b1_0 : (List (List DEv))) (q0 : (List DEv)) : Option ((Unit × Unit) × ((Int × Unit) × (((List (List DEv)) × Unit) × Unit)) × ((List DEv) × Unit)) := loopF (fun x : ((Int × (Unit × (Unit × Unit))) × ((Int × Unit) × (((List (List DEv)) × Unit) × Unit)) × ((List DEv) × Unit)) => T18_4 x.1.1 x.2.1.1.1 x.2.1.2.1.1 x.2.2.1) ((a2, (), (), ()), ((b0_0, ()), (b1_0, ()), ()), (q0, ()))
theorem L18_4_eq (a2 : Int) (b0_0 : Int) (b1_0 : (List (List DEv))) (q0 : (List DEv)) : L18_4 a2 b0_0 b1_0 q0 = (T18_4 a2 b0_0 b1_0 q0).bind (Sum.elim (fun x => L18_4 x.1.1 x.2.1.1.1 x.2.1.2.1.1 x.2.2.1) some) := loopF_eq _ _
noncomputable def k18_4 : Con := ⟨i18_4, o18_4, fun x => L18_4 x.1.1 x.2.1.1.1 x.2.1.2.1.1 x.2.2.1⟩
theorem e18_4 (x : i18_4.E) : vround Try.prog C18_4 LO18_4 Try.f18.ntmps l18_4 i18_4 o18_4 x = T18_4 x.1.1 x.2.1.1.1 x.2.1.2.1.1 x.2.2.1 := by kernel_rfl
theorem k18_4_ok : Con.LOK Try.prog Try.f18.ntmps l18_4 k18_4 := (loop_ok C18_4_ok (loops_of (l := []) (by kernel_rfl) (show LoopsOK Try.prog Try.f18.ntmps [] LO18_4 from trivial)) i18_4 o18_4).congr fun x => (congrArg (fun T => loopF T x) (funext e18_4)).symm
noncomputable def C18 : Tab := [(11, c11), (14, c14), (15, c15)]
theorem C18_ok : TabOK Try.prog C18 := ⟨c11_ok, c14_ok, c15_ok, trivial⟩
noncomputable def LO18 : Tab := [(4, k18_4)]
noncomputable def i18 : Tm := { sl := [(0, .v (.l (.l tDEv))), (1, .v (.p (.i .u64) (.p (.i .i64) .u))), (2, .v (.i .i64))], bx := [], bf := [] }
noncomputable def o18 : OT := (.ret { sl := [(0, .v (.l tDEv))], bx := [], bf := [] })
noncomputable def F18 (a0 : (List (List DEv))) (a1 : (Int × (Int × Unit))) (a2 : Int) : Option (((List DEv) × Unit) × Unit × Unit) :=
 ((F11 a0).bind fun y132 => ((F14 (a1.1, (a1.2.1, ())) (((Int.toNat y132.2.1.1.1) : Nat) : Int) y132.2.1.2.1.1).bind fun y133 => ((L18_4 a2 (((Int.toNat y133.2.1.1.1) : Nat) : Int) y133.2.1.2.1.1 ([] : List DEv)).bind fun y136 => (some ((y136.2.2.1, ()), (), ())))))
noncomputable def c18 : Con := ⟨i18, o18, fun x => F18 x.1.1 x.1.2.1 x.1.2.2.1⟩
theorem e18 (x : i18.E) : vfn Try.prog C18 LO18 Try.f18 b18 i18 o18 x = F18 x.1.1 x.1.2.1 x.1.2.2.1 := by kernel_rfl
theorem c18_ok : Con.OK Try.prog 18 c18 := (fn_ok C18_ok Try.func18 body18 (loops_of (l := [l18_4]) (by kernel_rfl) (show LoopsOK Try.prog Try.f18.ntmps [l18_4] LO18 from ⟨k18_4_ok, trivial⟩)) i18 o18).congr fun x => (e18 x).symm
noncomputable def b20 : Code := (.seq (.region 0 (regOf Try.f20 0) false) (.seq (.region 1 (regOf Try.f20 1) false) .ret))
theorem body20 : Try.f20.body = some b20 := by kernel_rfl
noncomputable def C20 : Tab := [(18, c18)]
theorem C20_ok : TabOK Try.prog C20 := ⟨c18_ok, trivial⟩
noncomputable def LO20 : Tab := []
noncomputable def i20 : Tm := { sl := [(0, .v (.l (.l tDEv)))], bx := [], bf := [] }
noncomputable def o20 : OT := (.ret { sl := [(0, .v (.l tDEv))], bx := [], bf := [] })
noncomputable def F20 (a0 : (List (List DEv))) : Option (((List DEv) × Unit) × Unit × Unit) :=
 ((F18 a0 (0, ((-1), ())) 4611686018427387904).bind fun y137 => (some ((y137.1.1, ()), (), ())))
noncomputable def c20 : Con := ⟨i20, o20, fun x => F20 x.1.1⟩
theorem e20 (x : i20.E) : vfn Try.prog C20 LO20 Try.f20 b20 i20 o20 x = F20 x.1.1 := by kernel_rfl
theorem c20_ok : Con.OK Try.prog 20 c20 := (fn_ok C20_ok Try.func20 body20 (loops_of (l := []) (by kernel_rfl) (show LoopsOK Try.prog Try.f20.ntmps [] LO20 from trivial)) i20 o20).congr fun x => (e20 x).symm
noncomputable def b8 : Code := (.seq (.region 0 (regOf Try.f8 0) false) (.seq (.region 1 (regOf Try.f8 1) false) (.seq (.region 2 (regOf Try.f8 2) false) .ret)))
theorem body8 : Try.f8.body = some b8 := by kernel_rfl
noncomputable def C8 : Tab := [(20, c20)]
theorem C8_ok : TabOK Try.prog C8 := ⟨c20_ok, trivial⟩
noncomputable def LO8 : Tab := []
noncomputable def i8 : Tm := { sl := [], bx := [], bf := [] }
noncomputable def o8 : OT := (.ret { sl := [(0, .v .b)], bx := [], bf := [] })
noncomputable def F8 : Option ((Bool × Unit) × Unit × Unit) :=
 ((F20 [[(0, (1, (1, (0, (ByteArray.empty, (([] : List Int), (0, (0, ())))))))), (0, (2, (3, (0, (ByteArray.empty, (([] : List Int), (0, (0, ()))))))))], [(1, (1, (2, (0, (ByteArray.empty, (([] : List Int), (0, (0, ()))))))))]]).bind fun y138 => (bif ((((y138.1.1).length : Int) : Int) == 3) then (bif decide (0 ≤ (1 : Int) ∧ (1 : Int) < ((y138.1.1).length : Int)) then (bif ((((y138.1.1).getD (1 : Int).toNat ((0 : Int), ((0 : Int), ((0 : Int), ((0 : Int), (ByteArray.empty, ([], ((0 : Nat), ((0 : Int), ()))))))))).1 : Int) == 1) then (bif decide (0 ≤ (2 : Int) ∧ (2 : Int) < ((y138.1.1).length : Int)) then (some ((((((y138.1.1).getD (2 : Int).toNat ((0 : Int), ((0 : Int), ((0 : Int), ((0 : Int), (ByteArray.empty, ([], ((0 : Nat), ((0 : Int), ()))))))))).2.2.1 : Int) == 3), ()), (), ())) else none) else (some ((false, ()), (), ()))) else none) else (some ((false, ()), (), ()))))
noncomputable def c8 : Con := ⟨i8, o8, fun x => F8⟩
theorem e8 (x : i8.E) : vfn Try.prog C8 LO8 Try.f8 b8 i8 o8 x = F8 := by kernel_rfl
theorem c8_ok : Con.OK Try.prog 8 c8 := (fn_ok C8_ok Try.func8 body8 (loops_of (l := []) (by kernel_rfl) (show LoopsOK Try.prog Try.f8.ntmps [] LO8 from trivial)) i8 o8).congr fun x => (e8 x).symm
noncomputable def l7_14 : Code := (.seq (.seq (.region 14 (regOf Try.f7 14) false) (.cond (.tmp 51) .skip (.exit 2))) (.seq (.block 3 (.seq (.region 16 (regOf Try.f7 16) false) (.cond (.tmp 63) (.region 17 (regOf Try.f7 17) false) .skip))) (.region 15 (regOf Try.f7 15) false)))
noncomputable def l7_10 : Code := (.seq (.seq (.region 10 (regOf Try.f7 10) false) (.cond (.tmp 42) .skip (.exit 0))) (.seq (.block 1 (.seq (.region 12 (regOf Try.f7 12) false) (.seq (.seq (.region 13 (regOf Try.f7 13) false) (.block 2 (.loop l7_14))) (.seq (.region 18 (regOf Try.f7 18) false) (.cond (.tmp 71) (.seq (.region 19 (regOf Try.f7 19) false) .ret) .skip))))) (.region 11 (regOf Try.f7 11) false)))
noncomputable def b7 : Code := (.seq (.region 0 (regOf Try.f7 0) false) (.seq (.seq (.region 1 (regOf Try.f7 1) false) (.cond (.tmp 20) (.seq (.region 2 (regOf Try.f7 2) false) .ret) .skip)) (.seq (.seq (.region 3 (regOf Try.f7 3) false) (.cond (.tmp 22) (.region 4 (regOf Try.f7 4) false) .skip)) (.seq (.region 5 (regOf Try.f7 5) false) (.seq (.region 6 (regOf Try.f7 6) false) (.seq (.seq (.region 7 (regOf Try.f7 7) false) (.cond (.tmp 38) (.seq (.region 8 (regOf Try.f7 8) false) .ret) .skip)) (.seq (.seq (.region 9 (regOf Try.f7 9) false) (.block 0 (.loop l7_10))) (.seq (.region 20 (regOf Try.f7 20) false) .ret))))))))
theorem body7 : Try.f7.body = some b7 := by kernel_rfl
noncomputable def C7_14 : Tab := []
theorem C7_14_ok : TabOK Try.prog C7_14 := trivial
noncomputable def LO7_14 : Tab := []
noncomputable def i7_14 : Tm := { sl := [(2, .v (.i .u64)), (9, .v (.l (.l tDEv))), (10, .v (.l (.i .i64))), (11, .v (.i .i64)), (12, .v (.i .i64)), (13, .v (.i .i64))], bx := [], bf := [] }
noncomputable def o7_14 : OT := (.exit 2 { sl := [(12, .v (.i .i64))], bx := [], bf := [] })
noncomputable def T7_14 (a2 : Int) (a9 : (List (List DEv))) (a10 : (List Int)) (a11 : Int) (a12 : Int) (a13 : Int) : Option (((Int × ((List (List DEv)) × ((List Int) × (Int × (Int × (Int × Unit)))))) × Unit × Unit) ⊕ ((Int × Unit) × Unit × Unit)) :=
 (bif decide (0 ≤ a11 ∧ a11 < (a9.length : Int)) then (bif (decide (a13 < (((a9.getD a11.toNat [])).length : Int))) then (bif decide (0 ≤ a11 ∧ a11 < (a9.length : Int)) then (bif (decide (0 ≤ a13 ∧ a13 < (((a9.getD a11.toNat [])).length : Int))) then (bif (decide (((((a9.getD a11.toNat [])).getD a13.toNat ((0 : Int), ((0 : Int), ((0 : Int), ((0 : Int), (ByteArray.empty, ([], ((0 : Nat), ((0 : Int), ()))))))))).2.2.1 : Int) ≤ a2)) then (some (.inl ((a2, a9, a10, a11, (IntKind.wrap .i64 (a12 + 1)), (IntKind.wrap .i64 (a13 + 1)), ()), (), ()))) else (some (.inl ((a2, a9, a10, a11, a12, (IntKind.wrap .i64 (a13 + 1)), ()), (), ())))) else none) else none) else (some (.inr ((a12, ()), (), ())))) else none)
noncomputable def L7_14 (a2 : Int) (a9 : (List (List DEv))) (a10 : (List Int)) (a11 : Int) (a12 : Int) (a13 : Int) : Option ((Int × Unit) × Unit × Unit) := loopF (fun x : ((Int × ((List (List DEv)) × ((List Int) × (Int × (Int × (Int × Unit)))))) × Unit × Unit) => T7_14 x.1.1 x.1.2.1 x.1.2.2.1 x.1.2.2.2.1 x.1.2.2.2.2.1 x.1.2.2.2.2.2.1) ((a2, a9, a10, a11, a12, a13, ()), (), ())
theorem L7_14_eq (a2 : Int) (a9 : (List (List DEv))) (a10 : (List Int)) (a11 : Int) (a12 : Int) (a13 : Int) : L7_14 a2 a9 a10 a11 a12 a13 = (T7_14 a2 a9 a10 a11 a12 a13).bind (Sum.elim (fun x => L7_14 x.1.1 x.1.2.1 x.1.2.2.1 x.1.2.2.2.1 x.1.2.2.2.2.1 x.1.2.2.2.2.2.1) some) := loopF_eq _ _
noncomputable def k7_14 : Con := ⟨i7_14, o7_14, fun x => L7_14 x.1.1 x.1.2.1 x.1.2.2.1 x.1.2.2.2.1 x.1.2.2.2.2.1 x.1.2.2.2.2.2.1⟩
theorem e7_14 (x : i7_14.E) : vround Try.prog C7_14 LO7_14 Try.f7.ntmps l7_14 i7_14 o7_14 x = T7_14 x.1.1 x.1.2.1 x.1.2.2.1 x.1.2.2.2.1 x.1.2.2.2.2.1 x.1.2.2.2.2.2.1 := by kernel_rfl
theorem k7_14_ok : Con.LOK Try.prog Try.f7.ntmps l7_14 k7_14 := (loop_ok C7_14_ok (loops_of (l := []) (by kernel_rfl) (show LoopsOK Try.prog Try.f7.ntmps [] LO7_14 from trivial)) i7_14 o7_14).congr fun x => (congrArg (fun T => loopF T x) (funext e7_14)).symm
noncomputable def C7_10 : Tab := []
theorem C7_10_ok : TabOK Try.prog C7_10 := trivial
noncomputable def LO7_10 : Tab := [(14, k7_14)]
noncomputable def i7_10 : Tm := { sl := [(2, .v (.i .u64)), (9, .v (.l (.l tDEv))), (10, .v (.l (.i .i64))), (11, .v (.i .i64))], bx := [], bf := [] }
noncomputable def o7_10 : OT := (.two (.ret { sl := [(8, .v .b)], bx := [], bf := [] }) (.exit 0 { sl := [], bx := [], bf := [] }))
noncomputable def T7_10 (a2 : Int) (a9 : (List (List DEv))) (a10 : (List Int)) (a11 : Int) : Option (((Int × ((List (List DEv)) × ((List Int) × (Int × Unit)))) × Unit × Unit) ⊕ (((Bool × Unit) × Unit × Unit) ⊕ (Unit × Unit × Unit))) :=
 (bif decide (a11 < (a9.length : Int)) then ((L7_14 a2 a9 a10 a11 0 0).bind fun y145 => (bif decide (0 ≤ a11 ∧ a11 < (a10.length : Int)) then (bif (((a10.getD a11.toNat (0 : Int)) : Int) != y145.1.1) then (some (.inr (.inl ((false, ()), (), ())))) else (some (.inl ((a2, a9, a10, (IntKind.wrap .i64 (a11 + 1)), ()), (), ())))) else none)) else (some (.inr (.inr ((), (), ())))))
noncomputable def L7_10 (a2 : Int) (a9 : (List (List DEv))) (a10 : (List Int)) (a11 : Int) : Option (((Bool × Unit) × Unit × Unit) ⊕ (Unit × Unit × Unit)) := loopF (fun x : ((Int × ((List (List DEv)) × ((List Int) × (Int × Unit)))) × Unit × Unit) => T7_10 x.1.1 x.1.2.1 x.1.2.2.1 x.1.2.2.2.1) ((a2, a9, a10, a11, ()), (), ())
theorem L7_10_eq (a2 : Int) (a9 : (List (List DEv))) (a10 : (List Int)) (a11 : Int) : L7_10 a2 a9 a10 a11 = (T7_10 a2 a9 a10 a11).bind (Sum.elim (fun x => L7_10 x.1.1 x.1.2.1 x.1.2.2.1 x.1.2.2.2.1) some) := loopF_eq _ _
noncomputable def k7_10 : Con := ⟨i7_10, o7_10, fun x => L7_10 x.1.1 x.1.2.1 x.1.2.2.1 x.1.2.2.2.1⟩
theorem e7_10 (x : i7_10.E) : vround Try.prog C7_10 LO7_10 Try.f7.ntmps l7_10 i7_10 o7_10 x = T7_10 x.1.1 x.1.2.1 x.1.2.2.1 x.1.2.2.2.1 := by kernel_rfl
theorem k7_10_ok : Con.LOK Try.prog Try.f7.ntmps l7_10 k7_10 := (loop_ok C7_10_ok (loops_of (l := [l7_14]) (by kernel_rfl) (show LoopsOK Try.prog Try.f7.ntmps [l7_14] LO7_10 from ⟨k7_14_ok, trivial⟩)) i7_10 o7_10).congr fun x => (congrArg (fun T => loopF T x) (funext e7_10)).symm
noncomputable def C7 : Tab := [(8, c8), (9, c9), (21, c21)]
theorem C7_ok : TabOK Try.prog C7 := ⟨c8_ok, c9_ok, c21_ok, trivial⟩
noncomputable def LO7 : Tab := [(10, k7_10)]
noncomputable def i7 : Tm := { sl := [(0, .v (.l (.i .u16))), (1, .v (.i .u8)), (2, .v (.i .u64)), (3, .v .b)], bx := [], bf := [] }
noncomputable def o7 : OT := (.ret { sl := [(0, .v .b)], bx := [], bf := [] })
noncomputable def F7 (a0 : (List Int)) (a1 : Int) (a2 : Int) (a3 : Bool) : Option ((Bool × Unit) × Unit × Unit) :=
 ((F8).bind fun y139 => (bif (!y139.1.1) then ((F8).bind fun y140 => (some ((y140.1.1, ()), (), ()))) else (bif decide (((a0.length : Int) : Int) > 60) then ((F8).bind fun y141 => (some ((y141.1.1, ()), (), ()))) else (bif a3 then ((F9 a0 (IntKind.wrap .i64 (1 + (((IntKind.wrap .i64 a1) : Int).tmod 6)))).bind fun y142 => ((F21 y142.1.1 (a2.tmod 60)).bind fun y143 => (bif ((((y143.1.1).length : Int) : Int) != ((y142.1.1).length : Int)) then (some ((false, ()), (), ())) else ((L7_10 (a2.tmod 60) y142.1.1 y143.1.1 0).bind fun y146 => (Sum.elim (fun y147 => (some ((y147.1.1, ()), (), ()))) (fun y147 => (some ((true, ()), (), ()))) y146))))) else ((F9 a0 (IntKind.wrap .i64 (1 + (((IntKind.wrap .i64 a1) : Int).tmod 6)))).bind fun y148 => ((F21 y148.1.1 a2).bind fun y149 => (bif ((((y149.1.1).length : Int) : Int) != ((y148.1.1).length : Int)) then (some ((false, ()), (), ())) else ((L7_10 a2 y148.1.1 y149.1.1 0).bind fun y150 => (Sum.elim (fun y151 => (some ((y151.1.1, ()), (), ()))) (fun y151 => (some ((true, ()), (), ()))) y150)))))))))
noncomputable def c7 : Con := ⟨i7, o7, fun x => F7 x.1.1 x.1.2.1 x.1.2.2.1 x.1.2.2.2.1⟩
theorem e7 (x : i7.E) : vfn Try.prog C7 LO7 Try.f7 b7 i7 o7 x = F7 x.1.1 x.1.2.1 x.1.2.2.1 x.1.2.2.2.1 := by kernel_rfl
theorem c7_ok : Con.OK Try.prog 7 c7 := (fn_ok C7_ok Try.func7 body7 (loops_of (l := [l7_10]) (by kernel_rfl) (show LoopsOK Try.prog Try.f7.ntmps [l7_10] LO7 from ⟨k7_10_ok, trivial⟩)) i7 o7).congr fun x => (e7 x).symm
noncomputable def l5_5 : Code := (.seq (.seq (.region 5 (regOf Try.f5 5) false) (.cond (.tmp 21) .skip (.exit 0))) (.seq (.block 1 (.seq (.region 7 (regOf Try.f5 7) true) (.cond (.tmp 35) (.region 8 (regOf Try.f5 8) false) .skip))) (.region 6 (regOf Try.f5 6) false)))
noncomputable def b5 : Code := (.seq (.region 0 (regOf Try.f5 0) false) (.seq (.seq (.region 1 (regOf Try.f5 1) false) (.cond (.tmp 16) (.seq (.region 2 (regOf Try.f5 2) false) .ret) .skip)) (.seq (.region 3 (regOf Try.f5 3) false) (.seq (.seq (.region 4 (regOf Try.f5 4) false) (.block 0 (.loop l5_5))) (.seq (.region 9 (regOf Try.f5 9) false) (.seq (.region 10 (regOf Try.f5 10) false) (.seq (.region 11 (regOf Try.f5 11) false) .ret)))))))
noncomputable def i5_5 : Tm := { sl := [(0, .v (.l tDEv)), (3, .p 0 0), (5, .v .b), (6, .v (.i .i64))], bx := [[.v (.i .u64), .v (.i .i64)]], bf := [] }
noncomputable def o5_5 : OT := (.exit 0 { sl := [(5, .v .b)], bx := [[.v (.i .u64), .v (.i .i64)]], bf := [] })
noncomputable def T5_5 (a0 : (List DEv)) (a5 : Bool) (a6 : Int) (b0_0 : Int) (b0_1 : Int) : Option ((((List DEv) × (Unit × (Bool × (Int × Unit)))) × ((Int × (Int × Unit)) × Unit) × Unit) ⊕ ((Bool × Unit) × ((Int × (Int × Unit)) × Unit) × Unit)) :=
 (bif decide (a6 < (a0.length : Int)) then (bif decide (0 ≤ a6 ∧ a6 < (a0.length : Int)) then ((F13 ((a0.getD a6.toNat ((0 : Int), ((0 : Int), ((0 : Int), ((0 : Int), (ByteArray.empty, ([], ((0 : Nat), ((0 : Int), ()))))))))).1, ((a0.getD a6.toNat ((0 : Int), ((0 : Int), ((0 : Int), ((0 : Int), (ByteArray.empty, ([], ((0 : Nat), ((0 : Int), ()))))))))).2.1, ((a0.getD a6.toNat ((0 : Int), ((0 : Int), ((0 : Int), ((0 : Int), (ByteArray.empty, ([], ((0 : Nat), ((0 : Int), ()))))))))).2.2.1, ((a0.getD a6.toNat ((0 : Int), ((0 : Int), ((0 : Int), ((0 : Int), (ByteArray.empty, ([], ((0 : Nat), ((0 : Int), ()))))))))).2.2.2.1, ((a0.getD a6.toNat ((0 : Int), ((0 : Int), ((0 : Int), ((0 : Int), (ByteArray.empty, ([], ((0 : Nat), ((0 : Int), ()))))))))).2.2.2.2.1, ((a0.getD a6.toNat ((0 : Int), ((0 : Int), ((0 : Int), ((0 : Int), (ByteArray.empty, ([], ((0 : Nat), ((0 : Int), ()))))))))).2.2.2.2.2.1, ((a0.getD a6.toNat ((0 : Int), ((0 : Int), ((0 : Int), ((0 : Int), (ByteArray.empty, ([], ((0 : Nat), ((0 : Int), ()))))))))).2.2.2.2.2.2.1, ((a0.getD a6.toNat ((0 : Int), ((0 : Int), ((0 : Int), ((0 : Int), (ByteArray.empty, ([], ((0 : Nat), ((0 : Int), ()))))))))).2.2.2.2.2.2.2.1, ()))))))))).bind fun y158 => (bif (decide (0 ≤ ((IntKind.wrap .i64 (a6 - 1)) : Int) ∧ ((IntKind.wrap .i64 (a6 - 1)) : Int) < (a0.length : Int))) then ((F13 ((a0.getD ((IntKind.wrap .i64 (a6 - 1)) : Int).toNat ((0 : Int), ((0 : Int), ((0 : Int), ((0 : Int), (ByteArray.empty, ([], ((0 : Nat), ((0 : Int), ()))))))))).1, ((a0.getD ((IntKind.wrap .i64 (a6 - 1)) : Int).toNat ((0 : Int), ((0 : Int), ((0 : Int), ((0 : Int), (ByteArray.empty, ([], ((0 : Nat), ((0 : Int), ()))))))))).2.1, ((a0.getD ((IntKind.wrap .i64 (a6 - 1)) : Int).toNat ((0 : Int), ((0 : Int), ((0 : Int), ((0 : Int), (ByteArray.empty, ([], ((0 : Nat), ((0 : Int), ()))))))))).2.2.1, ((a0.getD ((IntKind.wrap .i64 (a6 - 1)) : Int).toNat ((0 : Int), ((0 : Int), ((0 : Int), ((0 : Int), (ByteArray.empty, ([], ((0 : Nat), ((0 : Int), ()))))))))).2.2.2.1, ((a0.getD ((IntKind.wrap .i64 (a6 - 1)) : Int).toNat ((0 : Int), ((0 : Int), ((0 : Int), ((0 : Int), (ByteArray.empty, ([], ((0 : Nat), ((0 : Int), ()))))))))).2.2.2.2.1, ((a0.getD ((IntKind.wrap .i64 (a6 - 1)) : Int).toNat ((0 : Int), ((0 : Int), ((0 : Int), ((0 : Int), (ByteArray.empty, ([], ((0 : Nat), ((0 : Int), ()))))))))).2.2.2.2.2.1, ((a0.getD ((IntKind.wrap .i64 (a6 - 1)) : Int).toNat ((0 : Int), ((0 : Int), ((0 : Int), ((0 : Int), (ByteArray.empty, ([], ((0 : Nat), ((0 : Int), ()))))))))).2.2.2.2.2.2.1, ((a0.getD ((IntKind.wrap .i64 (a6 - 1)) : Int).toNat ((0 : Int), ((0 : Int), ((0 : Int), ((0 : Int), (ByteArray.empty, ([], ((0 : Nat), ((0 : Int), ()))))))))).2.2.2.2.2.2.2.1, ()))))))))).bind fun y159 => ((F12 (y158.1.1.1, (y158.1.1.2.1, ())) (y159.1.1.1, (y159.1.1.2.1, ()))).bind fun y160 => (bif y160.1.1 then (some (.inl ((a0, (), false, (IntKind.wrap .i64 (a6 + 1)), ()), ((b0_0, b0_1, ()), ()), ()))) else (some (.inl ((a0, (), a5, (IntKind.wrap .i64 (a6 + 1)), ()), ((b0_0, b0_1, ()), ()), ())))))) else none)) else none) else (some (.inr ((a5, ()), ((b0_0, b0_1, ()), ()), ()))))
noncomputable def L5_5 (a0 : (List DEv)) (a5 : Bool) (a6 : Int) (b0_0 : Int) (b0_1 : Int) : Option ((Bool × Unit) × ((Int × (Int × Unit)) × Unit) × Unit) := loopF (fun x : (((List DEv) × (Unit × (Bool × (Int × Unit)))) × ((Int × (Int × Unit)) × Unit) × Unit) => T5_5 x.1.1 x.1.2.2.1 x.1.2.2.2.1 x.2.1.1.1 x.2.1.1.2.1) ((a0, (), a5, a6, ()), ((b0_0, b0_1, ()), ()), ())
noncomputable def k5_5 : Con := ⟨i5_5, o5_5, fun x => L5_5 x.1.1 x.1.2.2.1 x.1.2.2.2.1 x.2.1.1.1 x.2.1.1.2.1⟩
noncomputable def C5 : Tab := [(8, c8), (12, c12), (13, c13), (14, c14n), (15, c15n), (19, c19)]
noncomputable def LO5 : Tab := [(5, k5_5)]
noncomputable def i5 : Tm := { sl := [(0, .v (.l tDEv)), (1, .v (.p (.i .u64) (.p (.i .i64) .u)))], bx := [], bf := [] }
noncomputable def o5 : OT := (.ret { sl := [(0, .v .b)], bx := [], bf := [] })
noncomputable def F5 (a0 : (List DEv)) (a1 : (Int × (Int × Unit))) : Option ((Bool × Unit) × Unit × Unit) :=
 ((F8).bind fun y152 => (bif (!y152.1.1) then ((F8).bind fun y153 => (some ((y153.1.1, ()), (), ()))) else (bif decide (((a0.length : Int) : Int) > 30) then ((F8).bind fun y154 => (some ((y154.1.1, ()), (), ()))) else ((L5_5 a0 true 1 a1.1 a1.2.1).bind fun y161 => ((F15n).bind fun y162 => ((F19 a0).bind fun y163 => (bif (y163.1.1 == y161.1.1) then (bif (!y162.1.2.1) then ((F14n (y161.2.1.1.1, (y161.2.1.1.2.1, ()))).bind fun y164 => (some ((((y164.1.1 : Int) == 0), ()), (), ()))) else (some ((false, ()), (), ()))) else (some ((false, ()), (), ())))))))))
noncomputable def c5 : Con := ⟨i5, o5, fun x => F5 x.1.1 x.1.2.1⟩
theorem e5 (x : i5.E) : vfn Try.prog C5 LO5 Try.f5 b5 i5 o5 x = F5 x.1.1 x.1.2.1 := by kernel_rfl
noncomputable def l4_10 : Code := (.seq (.seq (.region 10 (regOf Try.f4 10) false) (.cond (.tmp 41) .skip (.exit 0))) (.seq (.block 1 (.seq (.region 12 (regOf Try.f4 12) true) (.cond (.tmp 56) (.region 13 (regOf Try.f4 13) false) .skip))) (.region 11 (regOf Try.f4 11) false)))
noncomputable def b4 : Code := (.seq (.region 0 (regOf Try.f4 0) false) (.seq (.seq (.region 1 (regOf Try.f4 1) false) (.cond (.tmp 21) (.seq (.region 2 (regOf Try.f4 2) false) .ret) .skip)) (.seq (.seq (.region 3 (regOf Try.f4 3) false) (.cond (.tmp 23) (.seq (.region 4 (regOf Try.f4 4) false) (.region 5 (regOf Try.f4 5) false)) .skip)) (.seq (.region 6 (regOf Try.f4 6) false) (.seq (.region 7 (regOf Try.f4 7) false) (.seq (.region 8 (regOf Try.f4 8) false) (.seq (.seq (.region 9 (regOf Try.f4 9) false) (.block 0 (.loop l4_10))) (.seq (.region 14 (regOf Try.f4 14) false) .ret))))))))
noncomputable def i4_10 : Tm := { sl := [(3, .v (.i .i64)), (7, .p 0 0), (11, .v (.l (.l tDEv))), (12, .v (.l tDEv)), (13, .o 0), (14, .v (.i .i64))], bx := [[.v (.i .u64), .v (.i .i64)]], bf := [tDEv] }
noncomputable def o4_10 : OT := (.exit 0 { sl := [(13, .o 0)], bx := [[.v (.i .u64), .v (.i .i64)]], bf := [tDEv] })
noncomputable def T4_10 (a3 : Int) (a11 : (List (List DEv))) (a12 : (List DEv)) (a14 : Int) (b0_0 : Int) (b0_1 : Int) (q0 : (List DEv)) : Option (((Int × (Unit × ((List (List DEv)) × ((List DEv) × (Unit × (Int × Unit)))))) × ((Int × (Int × Unit)) × Unit) × ((List DEv) × Unit)) ⊕ ((Unit × Unit) × ((Int × (Int × Unit)) × Unit) × ((List DEv) × Unit))) :=
 (bif decide (a14 < (a12.length : Int)) then (bif decide (0 ≤ a14 ∧ a14 < (a12.length : Int)) then ((F13 ((a12.getD a14.toNat ((0 : Int), ((0 : Int), ((0 : Int), ((0 : Int), (ByteArray.empty, ([], ((0 : Nat), ((0 : Int), ()))))))))).1, ((a12.getD a14.toNat ((0 : Int), ((0 : Int), ((0 : Int), ((0 : Int), (ByteArray.empty, ([], ((0 : Nat), ((0 : Int), ()))))))))).2.1, ((a12.getD a14.toNat ((0 : Int), ((0 : Int), ((0 : Int), ((0 : Int), (ByteArray.empty, ([], ((0 : Nat), ((0 : Int), ()))))))))).2.2.1, ((a12.getD a14.toNat ((0 : Int), ((0 : Int), ((0 : Int), ((0 : Int), (ByteArray.empty, ([], ((0 : Nat), ((0 : Int), ()))))))))).2.2.2.1, ((a12.getD a14.toNat ((0 : Int), ((0 : Int), ((0 : Int), ((0 : Int), (ByteArray.empty, ([], ((0 : Nat), ((0 : Int), ()))))))))).2.2.2.2.1, ((a12.getD a14.toNat ((0 : Int), ((0 : Int), ((0 : Int), ((0 : Int), (ByteArray.empty, ([], ((0 : Nat), ((0 : Int), ()))))))))).2.2.2.2.2.1, ((a12.getD a14.toNat ((0 : Int), ((0 : Int), ((0 : Int), ((0 : Int), (ByteArray.empty, ([], ((0 : Nat), ((0 : Int), ()))))))))).2.2.2.2.2.2.1, ((a12.getD a14.toNat ((0 : Int), ((0 : Int), ((0 : Int), ((0 : Int), (ByteArray.empty, ([], ((0 : Nat), ((0 : Int), ()))))))))).2.2.2.2.2.2.2.1, ()))))))))).bind fun y172 => ((F12 (b0_0, (b0_1, ())) (y172.1.1.1, (y172.1.1.2.1, ()))).bind fun y173 => (bif y173.1.1 then (bif decide (((q0.length : Int) : Int) < a3) then (bif decide (0 ≤ a14 ∧ a14 < (a12.length : Int)) then (bif (decide (q0.length + ([((a12.getD a14.toNat ((0 : Int), ((0 : Int), ((0 : Int), ((0 : Int), (ByteArray.empty, ([], ((0 : Nat), ((0 : Int), ()))))))))).1, ((a12.getD a14.toNat ((0 : Int), ((0 : Int), ((0 : Int), ((0 : Int), (ByteArray.empty, ([], ((0 : Nat), ((0 : Int), ()))))))))).2.1, ((a12.getD a14.toNat ((0 : Int), ((0 : Int), ((0 : Int), ((0 : Int), (ByteArray.empty, ([], ((0 : Nat), ((0 : Int), ()))))))))).2.2.1, ((a12.getD a14.toNat ((0 : Int), ((0 : Int), ((0 : Int), ((0 : Int), (ByteArray.empty, ([], ((0 : Nat), ((0 : Int), ()))))))))).2.2.2.1, ((a12.getD a14.toNat ((0 : Int), ((0 : Int), ((0 : Int), ((0 : Int), (ByteArray.empty, ([], ((0 : Nat), ((0 : Int), ()))))))))).2.2.2.2.1, ((a12.getD a14.toNat ((0 : Int), ((0 : Int), ((0 : Int), ((0 : Int), (ByteArray.empty, ([], ((0 : Nat), ((0 : Int), ()))))))))).2.2.2.2.2.1, ((a12.getD a14.toNat ((0 : Int), ((0 : Int), ((0 : Int), ((0 : Int), (ByteArray.empty, ([], ((0 : Nat), ((0 : Int), ()))))))))).2.2.2.2.2.2.1, ((a12.getD a14.toNat ((0 : Int), ((0 : Int), ((0 : Int), ((0 : Int), (ByteArray.empty, ([], ((0 : Nat), ((0 : Int), ()))))))))).2.2.2.2.2.2.2.1, ()))))))))]).length < lim)) then (some (.inl ((a3, (), a11, a12, (), (IntKind.wrap .i64 (a14 + 1)), ()), ((b0_0, b0_1, ()), ()), ((q0 ++ [((a12.getD a14.toNat ((0 : Int), ((0 : Int), ((0 : Int), ((0 : Int), (ByteArray.empty, ([], ((0 : Nat), ((0 : Int), ()))))))))).1, ((a12.getD a14.toNat ((0 : Int), ((0 : Int), ((0 : Int), ((0 : Int), (ByteArray.empty, ([], ((0 : Nat), ((0 : Int), ()))))))))).2.1, ((a12.getD a14.toNat ((0 : Int), ((0 : Int), ((0 : Int), ((0 : Int), (ByteArray.empty, ([], ((0 : Nat), ((0 : Int), ()))))))))).2.2.1, ((a12.getD a14.toNat ((0 : Int), ((0 : Int), ((0 : Int), ((0 : Int), (ByteArray.empty, ([], ((0 : Nat), ((0 : Int), ()))))))))).2.2.2.1, ((a12.getD a14.toNat ((0 : Int), ((0 : Int), ((0 : Int), ((0 : Int), (ByteArray.empty, ([], ((0 : Nat), ((0 : Int), ()))))))))).2.2.2.2.1, ((a12.getD a14.toNat ((0 : Int), ((0 : Int), ((0 : Int), ((0 : Int), (ByteArray.empty, ([], ((0 : Nat), ((0 : Int), ()))))))))).2.2.2.2.2.1, ((a12.getD a14.toNat ((0 : Int), ((0 : Int), ((0 : Int), ((0 : Int), (ByteArray.empty, ([], ((0 : Nat), ((0 : Int), ()))))))))).2.2.2.2.2.2.1, ((a12.getD a14.toNat ((0 : Int), ((0 : Int), ((0 : Int), ((0 : Int), (ByteArray.empty, ([], ((0 : Nat), ((0 : Int), ()))))))))).2.2.2.2.2.2.2.1, ()))))))))]), ())))) else none) else none) else (some (.inl ((a3, (), a11, a12, (), (IntKind.wrap .i64 (a14 + 1)), ()), ((b0_0, b0_1, ()), ()), (q0, ()))))) else (some (.inl ((a3, (), a11, a12, (), (IntKind.wrap .i64 (a14 + 1)), ()), ((b0_0, b0_1, ()), ()), (q0, ()))))))) else none) else (some (.inr (((), ()), ((b0_0, b0_1, ()), ()), (q0, ())))))
noncomputable def L4_10 (a3 : Int) (a11 : (List (List DEv))) (a12 : (List DEv)) (a14 : Int) (b0_0 : Int) (b0_1 : Int) (q0 : (List DEv)) : Option ((Unit × Unit) × ((Int × (Int × Unit)) × Unit) × ((List DEv) × Unit)) := loopF (fun x : ((Int × (Unit × ((List (List DEv)) × ((List DEv) × (Unit × (Int × Unit)))))) × ((Int × (Int × Unit)) × Unit) × ((List DEv) × Unit)) => T4_10 x.1.1 x.1.2.2.1 x.1.2.2.2.1 x.1.2.2.2.2.2.1 x.2.1.1.1 x.2.1.1.2.1 x.2.2.1) ((a3, (), a11, a12, (), a14, ()), ((b0_0, b0_1, ()), ()), (q0, ()))
noncomputable def k4_10 : Con := ⟨i4_10, o4_10, fun x => L4_10 x.1.1 x.1.2.2.1 x.1.2.2.2.1 x.1.2.2.2.2.2.1 x.2.1.1.1 x.2.1.1.2.1 x.2.2.1⟩
noncomputable def C4 : Tab := [(8, c8), (9, c9), (10, c10), (12, c12), (13, c13), (17, c17), (18, c18)]
noncomputable def LO4 : Tab := [(10, k4_10)]
noncomputable def i4 : Tm := { sl := [(0, .v (.l (.i .u16))), (1, .v (.i .u8)), (2, .v (.p (.i .u64) (.p (.i .i64) .u))), (3, .v (.i .i64)), (4, .v .b)], bx := [], bf := [] }
noncomputable def o4 : OT := (.ret { sl := [(0, .v .b)], bx := [], bf := [] })
noncomputable def F4 (a0 : (List Int)) (a1 : Int) (a2 : (Int × (Int × Unit))) (a3 : Int) (a4 : Bool) : Option ((Bool × Unit) × Unit × Unit) :=
 ((F8).bind fun y165 => (bif (!y165.1.1) then ((F8).bind fun y166 => (some ((y166.1.1, ()), (), ()))) else (bif decide (((a0.length : Int) : Int) > 60) then ((F8).bind fun y167 => (some ((y167.1.1, ()), (), ()))) else (bif a4 then ((F9 a0 (IntKind.wrap .i64 (1 + (((IntKind.wrap .i64 a1) : Int).tmod 6)))).bind fun y168 => ((F10 y168.1.1).bind fun y169 => ((L4_10 (a3.tmod 20) y168.1.1 y169.1.1 0 ((a2.1 : Int).tmod 60) a2.2.1 ([] : List DEv)).bind fun y174 => ((F18 y168.1.1 (y174.2.1.1.1, (y174.2.1.1.2.1, ())) (a3.tmod 20)).bind fun y175 => ((F17 y175.1.1 y174.2.2.1).bind fun y176 => (some ((y176.1.1, ()), (), ()))))))) else ((F9 a0 (IntKind.wrap .i64 (1 + (((IntKind.wrap .i64 a1) : Int).tmod 6)))).bind fun y177 => ((F10 y177.1.1).bind fun y178 => ((L4_10 a3 y177.1.1 y178.1.1 0 a2.1 a2.2.1 ([] : List DEv)).bind fun y179 => ((F18 y177.1.1 (y179.2.1.1.1, (y179.2.1.1.2.1, ())) a3).bind fun y180 => ((F17 y180.1.1 y179.2.2.1).bind fun y181 => (some ((y181.1.1, ()), (), ())))))))))))
noncomputable def c4 : Con := ⟨i4, o4, fun x => F4 x.1.1 x.1.2.1 x.1.2.2.1 x.1.2.2.2.1 x.1.2.2.2.2.1⟩
theorem e4 (x : i4.E) : vfn Try.prog C4 LO4 Try.f4 b4 i4 o4 x = F4 x.1.1 x.1.2.1 x.1.2.2.1 x.1.2.2.2.1 x.1.2.2.2.2.1 := by kernel_rfl
noncomputable def l6_7 : Code := (.seq (.seq (.region 7 (regOf Try.f6 7) false) (.cond (.tmp 34) .skip (.exit 0))) (.seq (.block 1 (.seq (.region 9 (regOf Try.f6 9) false) (.seq (.region 10 (regOf Try.f6 10) true) (.cond (.tmp 52) (.seq (.region 11 (regOf Try.f6 11) false) .ret) .skip)))) (.region 8 (regOf Try.f6 8) false)))
noncomputable def b6 : Code := (.seq (.region 0 (regOf Try.f6 0) false) (.seq (.seq (.region 1 (regOf Try.f6 1) false) (.cond (.tmp 19) (.seq (.region 2 (regOf Try.f6 2) false) .ret) .skip)) (.seq (.region 3 (regOf Try.f6 3) false) (.seq (.region 4 (regOf Try.f6 4) false) (.seq (.region 5 (regOf Try.f6 5) false) (.seq (.seq (.region 6 (regOf Try.f6 6) false) (.block 0 (.loop l6_7))) (.seq (.region 12 (regOf Try.f6 12) false) (.seq (.region 13 (regOf Try.f6 13) false) .ret))))))))
noncomputable def T6_7 (a5 : (List (List DEv))) (a6 : (List DEv)) (a8 : Int) (b0_0 : Int) (b1_0 : (List (List DEv))) : Option ((((List (List DEv)) × ((List DEv) × (Unit × (Int × Unit)))) × ((Int × Unit) × (((List (List DEv)) × Unit) × Unit)) × Unit) ⊕ (((Bool × Unit) × ((Int × Unit) × (((List (List DEv)) × Unit) × Unit)) × Unit) ⊕ (Unit × ((Int × Unit) × (((List (List DEv)) × Unit) × Unit)) × Unit))) :=
 (bif decide (a8 < (a6.length : Int)) then ((F15 (((Int.toNat b0_0) : Nat) : Int) b1_0).bind fun y190 => (bif (!y190.1.2.1) then (some (.inr (.inl ((false, ()), (((((Int.toNat y190.2.1.1.1) : Nat) : Int), ()), (y190.2.1.2.1.1, ()), ()), ())))) else (bif decide (0 ≤ a8 ∧ a8 < (a6.length : Int)) then ((F16 (y190.1.1.1, (y190.1.1.2.1, (y190.1.1.2.2.1, (y190.1.1.2.2.2.1, (y190.1.1.2.2.2.2.1, (y190.1.1.2.2.2.2.2.1, (y190.1.1.2.2.2.2.2.2.1, (y190.1.1.2.2.2.2.2.2.2.1, ())))))))) ((a6.getD a8.toNat ((0 : Int), ((0 : Int), ((0 : Int), ((0 : Int), (ByteArray.empty, ([], ((0 : Nat), ((0 : Int), ()))))))))).1, ((a6.getD a8.toNat ((0 : Int), ((0 : Int), ((0 : Int), ((0 : Int), (ByteArray.empty, ([], ((0 : Nat), ((0 : Int), ()))))))))).2.1, ((a6.getD a8.toNat ((0 : Int), ((0 : Int), ((0 : Int), ((0 : Int), (ByteArray.empty, ([], ((0 : Nat), ((0 : Int), ()))))))))).2.2.1, ((a6.getD a8.toNat ((0 : Int), ((0 : Int), ((0 : Int), ((0 : Int), (ByteArray.empty, ([], ((0 : Nat), ((0 : Int), ()))))))))).2.2.2.1, ((a6.getD a8.toNat ((0 : Int), ((0 : Int), ((0 : Int), ((0 : Int), (ByteArray.empty, ([], ((0 : Nat), ((0 : Int), ()))))))))).2.2.2.2.1, ((a6.getD a8.toNat ((0 : Int), ((0 : Int), ((0 : Int), ((0 : Int), (ByteArray.empty, ([], ((0 : Nat), ((0 : Int), ()))))))))).2.2.2.2.2.1, ((a6.getD a8.toNat ((0 : Int), ((0 : Int), ((0 : Int), ((0 : Int), (ByteArray.empty, ([], ((0 : Nat), ((0 : Int), ()))))))))).2.2.2.2.2.2.1, ((a6.getD a8.toNat ((0 : Int), ((0 : Int), ((0 : Int), ((0 : Int), (ByteArray.empty, ([], ((0 : Nat), ((0 : Int), ()))))))))).2.2.2.2.2.2.2.1, ()))))))))).bind fun y191 => (bif (!y191.1.1) then (some (.inr (.inl ((false, ()), (((((Int.toNat y190.2.1.1.1) : Nat) : Int), ()), (y190.2.1.2.1.1, ()), ()), ())))) else (some (.inl ((a5, a6, (), (IntKind.wrap .i64 (a8 + 1)), ()), (((((Int.toNat y190.2.1.1.1) : Nat) : Int), ()), (y190.2.1.2.1.1, ()), ()), ()))))) else none))) else (some (.inr (.inr ((), (((((Int.toNat b0_0) : Nat) : Int), ()), (b1_0, ()), ()), ())))))
noncomputable def L6_7 (a5 : (List (List DEv))) (a6 : (List DEv)) (a8 : Int) (b0_0 : Int) (b1_0 : (List (List DEv))) : Option (((Bool × Unit) × ((Int × Unit) × (((List (List DEv)) × Unit) × Unit)) × Unit) ⊕ (Unit × ((Int × Unit) × (((List (List DEv)) × Unit) × Unit)) × Unit)) := loopF (fun x : (((List (List DEv)) × ((List DEv) × (Unit × (Int × Unit)))) × ((Int × Unit) × (((List (List DEv)) × Unit) × Unit)) × Unit) => T6_7 x.1.1 x.1.2.1 x.1.2.2.2.1 x.2.1.1.1 x.2.1.2.1.1) ((a5, a6, (), a8, ()), ((b0_0, ()), (b1_0, ()), ()), ())
noncomputable def i6 : Tm := { sl := [(0, .v (.l (.i .u16))), (1, .v (.i .u8))], bx := [], bf := [] }
noncomputable def o6 : OT := (.ret { sl := [(0, .v .b)], bx := [], bf := [] })
noncomputable def F6 (a0 : (List Int)) (a1 : Int) : Option ((Bool × Unit) × Unit × Unit) :=
 ((F8).bind fun y182 => (bif (!y182.1.1) then ((F8).bind fun y183 => (some ((y183.1.1, ()), (), ()))) else (bif decide (((a0.length : Int) : Int) > 60) then ((F8).bind fun y184 => (some ((y184.1.1, ()), (), ()))) else ((F9 a0 (IntKind.wrap .i64 (1 + (((IntKind.wrap .i64 a1) : Int).tmod 6)))).bind fun y185 => ((F10 y185.1.1).bind fun y186 => ((F11 y185.1.1).bind fun y187 => ((L6_7 y185.1.1 y186.1.1 0 (((Int.toNat y187.2.1.1.1) : Nat) : Int) y187.2.1.2.1.1).bind fun y192 => (Sum.elim (fun y193 => (some ((y193.1.1, ()), (), ()))) (fun y193 => ((F15 (((Int.toNat y193.2.1.1.1) : Nat) : Int) y193.2.1.2.1.1).bind fun y194 => (bif (!y194.1.2.1) then ((F20 y185.1.1).bind fun y195 => ((F17 y195.1.1 y186.1.1).bind fun y196 => (bif y196.1.1 then ((F19 y186.1.1).bind fun y197 => (some ((y197.1.1, ()), (), ()))) else (some ((false, ()), (), ()))))) else (some ((false, ()), (), ()))))) y192))))))))
noncomputable def c6 : Con := ⟨i6, o6, fun x => F6 x.1.1 x.1.2.1⟩
noncomputable def l3_15 : Code := (.seq (.seq (.region 15 (regOf Try.f3 15) true) (.cond (.tmp 73) .skip (.exit 2))) (.block 3 (.seq (.region 16 (regOf Try.f3 16) false) (.region 17 (regOf Try.f3 17) false))))
noncomputable def l3_12 : Code := (.seq (.region 12 (regOf Try.f3 12) false) (.seq (.cond (.tmp 57) .skip (.exit 0)) (.seq (.block 1 (.seq (.region 13 (regOf Try.f3 13) false) (.seq (.region 14 (regOf Try.f3 14) false) (.seq (.block 2 (.loop l3_15)) (.seq (.seq (.region 18 (regOf Try.f3 18) false) (.cond (.tmp 82) (.seq (.region 19 (regOf Try.f3 19) false) .ret) .skip)) (.seq (.region 20 (regOf Try.f3 20) false) (.cond (.tmp 86) (.seq (.region 21 (regOf Try.f3 21) false) (.seq (.seq (.region 22 (regOf Try.f3 22) true) (.cond (.tmp 102) (.seq (.region 23 (regOf Try.f3 23) false) .ret) .skip)) (.region 24 (regOf Try.f3 24) false))) .skip))))))) (.region 25 (regOf Try.f3 25) false))))
noncomputable def b3 : Code := (.seq (.region 0 (regOf Try.f3 0) false) (.seq (.seq (.region 1 (regOf Try.f3 1) false) (.cond (.tmp 26) (.seq (.region 2 (regOf Try.f3 2) false) .ret) .skip)) (.seq (.seq (.region 3 (regOf Try.f3 3) false) (.cond (.tmp 28) (.seq (.region 4 (regOf Try.f3 4) false) (.seq (.region 5 (regOf Try.f3 5) false) (.region 6 (regOf Try.f3 6) false))) .skip)) (.seq (.region 7 (regOf Try.f3 7) false) (.seq (.region 8 (regOf Try.f3 8) false) (.seq (.region 9 (regOf Try.f3 9) false) (.seq (.region 10 (regOf Try.f3 10) false) (.seq (.seq (.region 11 (regOf Try.f3 11) false) (.block 0 (.loop l3_12))) (.seq (.region 26 (regOf Try.f3 26) false) .ret)))))))))
noncomputable def T3_15 (a12 : (List DEv)) (a14 : Int) (a17 : Int) (a54 : (List (Int × (Int × Unit)))) (a55 : Int) (a56 : Int) (b0_0 : Int) (b1_0 : Int) (b1_1 : Int) (b2_0 : (List (List DEv))) : Option ((((List DEv) × (Unit × (Int × (Unit × (Int × ((List (Int × (Int × Unit))) × (Int × (Int × Unit)))))))) × ((Int × Unit) × ((Int × (Int × Unit)) × (((List (List DEv)) × Unit) × Unit))) × Unit) ⊕ ((Int × (Int × Unit)) × ((Int × Unit) × ((Int × (Int × Unit)) × (((List (List DEv)) × Unit) × Unit))) × Unit)) :=
 (bif decide (a14 < (a12.length : Int)) then (bif decide (0 ≤ a14 ∧ a14 < (a12.length : Int)) then ((F13 ((a12.getD a14.toNat ((0 : Int), ((0 : Int), ((0 : Int), ((0 : Int), (ByteArray.empty, ([], ((0 : Nat), ((0 : Int), ()))))))))).1, ((a12.getD a14.toNat ((0 : Int), ((0 : Int), ((0 : Int), ((0 : Int), (ByteArray.empty, ([], ((0 : Nat), ((0 : Int), ()))))))))).2.1, ((a12.getD a14.toNat ((0 : Int), ((0 : Int), ((0 : Int), ((0 : Int), (ByteArray.empty, ([], ((0 : Nat), ((0 : Int), ()))))))))).2.2.1, ((a12.getD a14.toNat ((0 : Int), ((0 : Int), ((0 : Int), ((0 : Int), (ByteArray.empty, ([], ((0 : Nat), ((0 : Int), ()))))))))).2.2.2.1, ((a12.getD a14.toNat ((0 : Int), ((0 : Int), ((0 : Int), ((0 : Int), (ByteArray.empty, ([], ((0 : Nat), ((0 : Int), ()))))))))).2.2.2.2.1, ((a12.getD a14.toNat ((0 : Int), ((0 : Int), ((0 : Int), ((0 : Int), (ByteArray.empty, ([], ((0 : Nat), ((0 : Int), ()))))))))).2.2.2.2.2.1, ((a12.getD a14.toNat ((0 : Int), ((0 : Int), ((0 : Int), ((0 : Int), (ByteArray.empty, ([], ((0 : Nat), ((0 : Int), ()))))))))).2.2.2.2.2.2.1, ((a12.getD a14.toNat ((0 : Int), ((0 : Int), ((0 : Int), ((0 : Int), (ByteArray.empty, ([], ((0 : Nat), ((0 : Int), ()))))))))).2.2.2.2.2.2.2.1, ()))))))))).bind fun y206 => ((F12 (b1_0, (b1_1, ())) (y206.1.1.1, (y206.1.1.2.1, ()))).bind fun y207 => (bif (!y207.1.1) then (some (.inl ((a12, (), (IntKind.wrap .i64 (a14 + 1)), (), (IntKind.wrap .i64 (a17 + 1)), a54, a55, a56, ()), (((((Int.toNat b0_0) : Nat) : Int), ()), (b1_0, b1_1, ()), (b2_0, ()), ()), ()))) else (some (.inr ((a14, a17, ()), (((((Int.toNat b0_0) : Nat) : Int), ()), (b1_0, b1_1, ()), (b2_0, ()), ()), ())))))) else none) else (some (.inr ((a14, a17, ()), (((((Int.toNat b0_0) : Nat) : Int), ()), (b1_0, b1_1, ()), (b2_0, ()), ()), ()))))
noncomputable def L3_15 (a12 : (List DEv)) (a14 : Int) (a17 : Int) (a54 : (List (Int × (Int × Unit)))) (a55 : Int) (a56 : Int) (b0_0 : Int) (b1_0 : Int) (b1_1 : Int) (b2_0 : (List (List DEv))) : Option ((Int × (Int × Unit)) × ((Int × Unit) × ((Int × (Int × Unit)) × (((List (List DEv)) × Unit) × Unit))) × Unit) := loopF (fun x : (((List DEv) × (Unit × (Int × (Unit × (Int × ((List (Int × (Int × Unit))) × (Int × (Int × Unit)))))))) × ((Int × Unit) × ((Int × (Int × Unit)) × (((List (List DEv)) × Unit) × Unit))) × Unit) => T3_15 x.1.1 x.1.2.2.1 x.1.2.2.2.2.1 x.1.2.2.2.2.2.1 x.1.2.2.2.2.2.2.1 x.1.2.2.2.2.2.2.2.1 x.2.1.1.1 x.2.1.2.1.1 x.2.1.2.1.2.1 x.2.1.2.2.1.1) ((a12, (), a14, (), a17, a54, a55, a56, ()), ((b0_0, ()), (b1_0, b1_1, ()), (b2_0, ()), ()), ())
noncomputable def i3_12 : Tm := { sl := [(12, .v (.l tDEv)), (13, .p 0 0), (14, .v (.i .i64)), (54, .v (.l (.p (.i .u64) (.p (.i .i64) .u)))), (55, .v (.i .i64)), (56, .v (.i .i64))], bx := [[.w (.l tDEv) 1], [.r (.l tDEv)]], bf := [] }
noncomputable def o3_12 : OT := (.two (.ret { sl := [(10, .v .b)], bx := [[.w (.l tDEv) 1], [.r (.l tDEv)]], bf := [] }) (.exit 0 { sl := [], bx := [[.w (.l tDEv) 1], [.r (.l tDEv)]], bf := [] }))
noncomputable def T3_12 (a12 : (List DEv)) (a14 : Int) (a54 : (List (Int × (Int × Unit)))) (a55 : Int) (a56 : Int) (b0_0 : Int) (b1_0 : (List (List DEv))) : Option ((((List DEv) × (Unit × (Int × ((List (Int × (Int × Unit))) × (Int × (Int × Unit)))))) × ((Int × Unit) × (((List (List DEv)) × Unit) × Unit)) × Unit) ⊕ (((Bool × Unit) × ((Int × Unit) × (((List (List DEv)) × Unit) × Unit)) × Unit) ⊕ (Unit × ((Int × Unit) × (((List (List DEv)) × Unit) × Unit)) × Unit))) :=
 (bif decide (a56 < a55) then (bif decide (0 ≤ a56 ∧ a56 < (a54.length : Int)) then ((L3_15 a12 a14 0 a54 a55 a56 (((Int.toNat b0_0) : Nat) : Int) ((a54.getD a56.toNat ((0 : Int), ((0 : Int), ()))).1) ((a54.getD a56.toNat ((0 : Int), ((0 : Int), ()))).2.1) b1_0).bind fun y212 => ((F14 (y212.2.1.2.1.1, (y212.2.1.2.1.2.1, ())) (((Int.toNat y212.2.1.1.1) : Nat) : Int) y212.2.1.2.2.1.1).bind fun y213 => (bif ((y213.1.1 : Int) != y212.1.2.1) then (some (.inr (.inl ((false, ()), (((((Int.toNat y213.2.1.1.1) : Nat) : Int), ()), (y213.2.1.2.1.1, ()), ()), ())))) else (bif decide ((y212.1.1 : Int) < (a12.length : Int)) then ((F15 (((Int.toNat y213.2.1.1.1) : Nat) : Int) y213.2.1.2.1.1).bind fun y214 => (bif (!y214.1.2.1) then (some (.inr (.inl ((false, ()), (((((Int.toNat y214.2.1.1.1) : Nat) : Int), ()), (y214.2.1.2.1.1, ()), ()), ())))) else (bif decide (0 ≤ (y212.1.1 : Int) ∧ (y212.1.1 : Int) < (a12.length : Int)) then ((F16 (y214.1.1.1, (y214.1.1.2.1, (y214.1.1.2.2.1, (y214.1.1.2.2.2.1, (y214.1.1.2.2.2.2.1, (y214.1.1.2.2.2.2.2.1, (y214.1.1.2.2.2.2.2.2.1, (y214.1.1.2.2.2.2.2.2.2.1, ())))))))) ((a12.getD (y212.1.1 : Int).toNat ((0 : Int), ((0 : Int), ((0 : Int), ((0 : Int), (ByteArray.empty, ([], ((0 : Nat), ((0 : Int), ()))))))))).1, ((a12.getD (y212.1.1 : Int).toNat ((0 : Int), ((0 : Int), ((0 : Int), ((0 : Int), (ByteArray.empty, ([], ((0 : Nat), ((0 : Int), ()))))))))).2.1, ((a12.getD (y212.1.1 : Int).toNat ((0 : Int), ((0 : Int), ((0 : Int), ((0 : Int), (ByteArray.empty, ([], ((0 : Nat), ((0 : Int), ()))))))))).2.2.1, ((a12.getD (y212.1.1 : Int).toNat ((0 : Int), ((0 : Int), ((0 : Int), ((0 : Int), (ByteArray.empty, ([], ((0 : Nat), ((0 : Int), ()))))))))).2.2.2.1, ((a12.getD (y212.1.1 : Int).toNat ((0 : Int), ((0 : Int), ((0 : Int), ((0 : Int), (ByteArray.empty, ([], ((0 : Nat), ((0 : Int), ()))))))))).2.2.2.2.1, ((a12.getD (y212.1.1 : Int).toNat ((0 : Int), ((0 : Int), ((0 : Int), ((0 : Int), (ByteArray.empty, ([], ((0 : Nat), ((0 : Int), ()))))))))).2.2.2.2.2.1, ((a12.getD (y212.1.1 : Int).toNat ((0 : Int), ((0 : Int), ((0 : Int), ((0 : Int), (ByteArray.empty, ([], ((0 : Nat), ((0 : Int), ()))))))))).2.2.2.2.2.2.1, ((a12.getD (y212.1.1 : Int).toNat ((0 : Int), ((0 : Int), ((0 : Int), ((0 : Int), (ByteArray.empty, ([], ((0 : Nat), ((0 : Int), ()))))))))).2.2.2.2.2.2.2.1, ()))))))))).bind fun y215 => (bif (!y215.1.1) then (some (.inr (.inl ((false, ()), (((((Int.toNat y214.2.1.1.1) : Nat) : Int), ()), (y214.2.1.2.1.1, ()), ()), ())))) else (some (.inl ((a12, (), (IntKind.wrap .i64 (y212.1.1 + 1)), a54, a55, (IntKind.wrap .i64 (a56 + 1)), ()), (((((Int.toNat y214.2.1.1.1) : Nat) : Int), ()), (y214.2.1.2.1.1, ()), ()), ()))))) else none))) else (some (.inl ((a12, (), y212.1.1, a54, a55, (IntKind.wrap .i64 (a56 + 1)), ()), (((((Int.toNat y213.2.1.1.1) : Nat) : Int), ()), (y213.2.1.2.1.1, ()), ()), ()))))))) else none) else (some (.inr (.inr ((), (((((Int.toNat b0_0) : Nat) : Int), ()), (b1_0, ()), ()), ())))))
noncomputable def L3_12 (a12 : (List DEv)) (a14 : Int) (a54 : (List (Int × (Int × Unit)))) (a55 : Int) (a56 : Int) (b0_0 : Int) (b1_0 : (List (List DEv))) : Option (((Bool × Unit) × ((Int × Unit) × (((List (List DEv)) × Unit) × Unit)) × Unit) ⊕ (Unit × ((Int × Unit) × (((List (List DEv)) × Unit) × Unit)) × Unit)) := loopF (fun x : (((List DEv) × (Unit × (Int × ((List (Int × (Int × Unit))) × (Int × (Int × Unit)))))) × ((Int × Unit) × (((List (List DEv)) × Unit) × Unit)) × Unit) => T3_12 x.1.1 x.1.2.2.1 x.1.2.2.2.1 x.1.2.2.2.2.1 x.1.2.2.2.2.2.1 x.2.1.1.1 x.2.1.2.1.1) ((a12, (), a14, a54, a55, a56, ()), ((b0_0, ()), (b1_0, ()), ()), ())
noncomputable def k3_12 : Con := ⟨i3_12, o3_12, fun x => L3_12 x.1.1 x.1.2.2.1 x.1.2.2.2.1 x.1.2.2.2.2.1 x.1.2.2.2.2.2.1 x.2.1.1.1 x.2.1.2.1.1⟩
noncomputable def C3 : Tab := [(8, c8), (9, c9), (10, c10), (11, c11), (14, c14), (15, c15), (16, c16)]
noncomputable def LO3 : Tab := [(12, k3_12)]
noncomputable def i3 : Tm := { sl := [(0, .v (.l (.i .u16))), (1, .v (.i .u8)), (2, .v (.p (.i .u64) (.p (.i .i64) .u))), (3, .v (.p (.i .u64) (.p (.i .i64) .u))), (4, .v .b)], bx := [], bf := [] }
noncomputable def o3 : OT := (.ret { sl := [(0, .v .b)], bx := [], bf := [] })
noncomputable def F3 (a0 : (List Int)) (a1 : Int) (a2 : (Int × (Int × Unit))) (a3 : (Int × (Int × Unit))) (a4 : Bool) : Option ((Bool × Unit) × Unit × Unit) :=
 ((F8).bind fun y198 => (bif (!y198.1.1) then ((F8).bind fun y199 => (some ((y199.1.1, ()), (), ()))) else (bif decide (((a0.length : Int) : Int) > 60) then ((F8).bind fun y200 => (some ((y200.1.1, ()), (), ()))) else (bif a4 then ((F9 a0 (IntKind.wrap .i64 (1 + (((IntKind.wrap .i64 a1) : Int).tmod 6)))).bind fun y201 => ((F10 y201.1.1).bind fun y202 => ((F11 y201.1.1).bind fun y203 => ((L3_12 y202.1.1 0 [(((a2.1 : Int).tmod 60), (((a2.2.1 : Int).tmod 7), ())), (((a3.1 : Int).tmod 60), (a3.2.1, ())), (((a2.1 : Int).tmod 60), (((a2.2.1 : Int).tmod 7), ()))] ((([(((a2.1 : Int).tmod 60), (((a2.2.1 : Int).tmod 7), ())), (((a3.1 : Int).tmod 60), (a3.2.1, ())), (((a2.1 : Int).tmod 60), (((a2.2.1 : Int).tmod 7), ()))]).length : Nat) : Int) 0 (((Int.toNat y203.2.1.1.1) : Nat) : Int) y203.2.1.2.1.1).bind fun y216 => (Sum.elim (fun y217 => (some ((y217.1.1, ()), (), ()))) (fun y217 => (some ((true, ()), (), ()))) y216))))) else ((F9 a0 (IntKind.wrap .i64 (1 + (((IntKind.wrap .i64 a1) : Int).tmod 6)))).bind fun y218 => ((F10 y218.1.1).bind fun y219 => ((F11 y218.1.1).bind fun y220 => ((L3_12 y219.1.1 0 [(a2.1, (a2.2.1, ())), (a3.1, (a3.2.1, ())), (a2.1, (a2.2.1, ()))] ((([(a2.1, (a2.2.1, ())), (a3.1, (a3.2.1, ())), (a2.1, (a2.2.1, ()))]).length : Nat) : Int) 0 (((Int.toNat y220.2.1.1.1) : Nat) : Int) y220.2.1.2.1.1).bind fun y221 => (Sum.elim (fun y222 => (some ((y222.1.1, ()), (), ()))) (fun y222 => (some ((true, ()), (), ()))) y221)))))))))
noncomputable def c3 : Con := ⟨i3, o3, fun x => F3 x.1.1 x.1.2.1 x.1.2.2.1 x.1.2.2.2.1 x.1.2.2.2.2.1⟩
theorem e3 (x : i3.E) : vfn Try.prog C3 LO3 Try.f3 b3 i3 o3 x = F3 x.1.1 x.1.2.1 x.1.2.2.1 x.1.2.2.2.1 x.1.2.2.2.2.1 := by kernel_rfl
end Go.IM.V
set_option linter.unusedSimpArgs false
namespace Go.IM.V
open Go Go.IM Go.Proofs
abbrev Ev : Type := DEv
def upT (t x : Int) : Int := IntKind.wrap .u64 (t + (IntKind.wrap .u64 (1 + (((IntKind.wrap .u64 (IntKind.wrap .u16 (x.tdiv 16))) : Int).tmod 4))))
def kdX (x : Int) : Int := IntKind.wrap .u8 (1 + (((IntKind.wrap .u8 (IntKind.wrap .u16 (x.tdiv 64))) : Int).tmod 4))
def kyX (x : Int) : Int := IntKind.wrap .u8 (97 + (((IntKind.wrap .u8 (IntKind.wrap .u16 (x.tdiv 256))) : Int).tmod 4))
noncomputable def qtI (i : Int) : Nat := ((FloatKind.f64).format.div (FloatKind.nearest .f64 i) (4616189618054758400)).getD 0
noncomputable def evX (w : Int) (n : Nat) (t x i : Int) : Ev :=
 (w, (IntKind.wrap .u64 ((IntKind.wrap .u64 ((n : Nat) : Int)) + 1)), t, kdX x, strL [kyX x], (bif kdX x == 1 then [IntKind.wrap .u8 i] else []), (bif kdX x == 2 then qtI i else bif kdX x == 3 then qtI i else 0), 0, ())
theorem qt_some : ∀ i : Fin 60, ((FloatKind.f64).format.div (FloatKind.nearest .f64 ((i.val : Nat) : Int)) (4616189618054758400)).isSome = true := by decide +kernel
theorem qt_some' {i : Int} (h0 : 0 ≤ i) (h : i < 60) : ((FloatKind.f64).format.div (FloatKind.nearest .f64 i) (4616189618054758400)).isSome = true := by
 have := qt_some ⟨i.toNat, by omega⟩
 rwa [show ((i.toNat : Nat) : Int) = i by omega] at this
theorem lim2 {q : List Ev} (h : q.length < 1000000) : q.length + 1 < lim := by have : lim = 1099511627776 := rfl; omega
theorem condT {α : Type} {p : Prop} [i : Decidable p] {a b r : α} (hp : p) (h : a = r) : (bif decide p then a else b) = r := by rw [decide_eq_true hp]; exact h
theorem wu16 {n : Int} (h0 : 0 ≤ n) (h1 : n < 65536) : IntKind.wrap .u16 n = n := by
 have : IntKind.wrap .u16 n = n % 65536 := by simp [IntKind.wrap, IntKind.bits, IntKind.signed]
 rw [this]; omega
def EvF (e : Ev) : Prop := (1 ≤ e.2.2.2.1 ∧ e.2.2.2.1 ≤ 4) ∧ (∃ c, 97 ≤ c ∧ c ≤ 100 ∧ e.2.2.2.2.1 = strL [c]) ∧ (e.2.2.2.2.2.1 = [] ∨ (e.2.2.2.1 = 1 ∧ ∃ c, 0 ≤ c ∧ c < 256 ∧ e.2.2.2.2.2.1 = [c])) ∧ (e.2.2.2.2.2.2.1 = 0 ∨ ((e.2.2.2.1 = 2 ∨ e.2.2.2.1 = 3) ∧ ∃ i : Int, 0 ≤ i ∧ i < 60 ∧ e.2.2.2.2.2.2.1 = qtI i)) ∧ e.2.2.2.2.2.2.2.1 = 0
structure FdOK (w : Int) (k : Nat) (q : List Ev) (t : Int) : Prop where
 len : q.length ≤ k
 t0 : 0 ≤ t
 t1 : t ≤ 4 * k
 who : ∀ (i : Nat) (e : Ev), q[i]? = some e → e.1 = w ∧ e.2.1 = (i : Int) + 1 ∧ 1 ≤ e.2.2.1 ∧ e.2.2.1 ≤ t ∧ EvF e
 rise : ∀ (i j : Nat) (ei ej : Ev), q[i]? = some ei → q[j]? = some ej → i < j → ei.2.2.1 < ej.2.2.1
theorem FdOK.keep {w : Int} {k : Nat} {q : List Ev} {t : Int} (h : FdOK w k q t) : FdOK w (k + 1) q t :=
 ⟨Nat.le_succ_of_le h.len, h.t0, by have := h.t1; omega, h.who, h.rise⟩
theorem FdOK.upto {w : Int} {k k' : Nat} {q : List Ev} {t : Int} (h : FdOK w k q t) (hk : k ≤ k') : FdOK w k' q t :=
 ⟨Nat.le_trans h.len hk, h.t0, by have := h.t1; omega, h.who, h.rise⟩
theorem FdOK.nil (w : Int) : FdOK w 0 [] 0 := ⟨Nat.le_refl _, by omega, by omega, fun i e h => (by cases h), fun i j e f h => (by cases h)⟩
theorem upT_eq {t x : Int} (ht : 0 ≤ t ∧ t ≤ 1000000) (hx : 0 ≤ x ∧ x < 65536) : upT t x = t + (1 + x / 16 % 4) := by
 unfold upT
 have h0 : 0 ≤ x / 16 := Int.ediv_nonneg hx.1 (by omega)
 have h1 : x / 16 < 65536 := by omega
 rw [Int.tdiv_eq_ediv_of_nonneg hx.1, wu16 h0 (by omega), wu64 h0 (by omega), Int.tmod_eq_emod_of_nonneg h0]
 have h2 := Int.emod_nonneg (x / 16) (show (4 : Int) ≠ 0 by omega)
 have h3 := Int.emod_lt_of_pos (x / 16) (show (0 : Int) < 4 by omega)
 rw [wu64 (n := 1 + x / 16 % 4) (by omega) (by omega), wu64 (by omega) (by omega)]
theorem kdX_eq {x : Int} (hx : 0 ≤ x ∧ x < 65536) : kdX x = 1 + x / 64 % 4 := by
 unfold kdX
 have h0 : 0 ≤ x / 64 := Int.ediv_nonneg hx.1 (by omega)
 rw [Int.tdiv_eq_ediv_of_nonneg hx.1, wu16 h0 (by omega)]
 rw [wu8_mod (x / 64), Int.tmod_eq_emod_of_nonneg (by omega)]
 rw [wu8_mod]
 omega
theorem kyX_eq {x : Int} (hx : 0 ≤ x ∧ x < 65536) : kyX x = 97 + x / 256 % 4 := by
 unfold kyX
 have h0 : 0 ≤ x / 256 := Int.ediv_nonneg hx.1 (by omega)
 rw [Int.tdiv_eq_ediv_of_nonneg hx.1, wu16 h0 (by omega)]
 rw [wu8_mod (x / 256), Int.tmod_eq_emod_of_nonneg (by omega)]
 rw [wu8_mod]
 omega
theorem evX_form {w t x i : Int} {n : Nat} (hx : 0 ≤ x ∧ x < 65536) (hi : 0 ≤ i ∧ i < 60) : EvF (evX w n t x i) := by
 have hk := kdX_eq hx
 have hy := kyX_eq hx
 unfold evX EvF
 dsimp only
 refine ⟨by omega, ⟨kyX x, by omega, by omega, rfl⟩, ?_, ?_, rfl⟩
 ·cases h1 : kdX x == 1 with
  | false => exact .inl rfl
  | true => exact .inr ⟨by simpa using h1, IntKind.wrap .u8 i, by rw [wu8_mod]; omega, by rw [wu8_mod]; omega, rfl⟩
 ·cases h2 : kdX x == 2 with
  | true => exact .inr ⟨.inl (by simpa using h2), i, hi.1, hi.2, rfl⟩
  | false =>
   cases h3 : kdX x == 3 with
   | true => exact .inr ⟨.inr (by simpa using h3), i, hi.1, hi.2, rfl⟩
   | false => exact .inl rfl
theorem app1 {α : Type} {q : List α} {x e : α} {i : Nat} (h : (q ++ [x])[i]? = some e) : q[i]? = some e ∨ (i = q.length ∧ e = x) := by
 rcases Nat.lt_or_ge i q.length with hl | hl
 ·rw [List.getElem?_append_left hl] at h; exact .inl h
 ·rw [List.getElem?_append_right hl] at h
  rcases Nat.eq_zero_or_pos (i - q.length) with h0 | h0
  ·rw [h0] at h; simp at h; exact .inr ⟨by omega, h.symm⟩
  ·rw [List.getElem?_eq_none (by simp; omega)] at h; cases h
theorem lt_get? {α : Type} {q : List α} {e : α} {i : Nat} (h : q[i]? = some e) : i < q.length := (List.getElem?_eq_some_iff.1 h).1
theorem FdOK.add {w : Int} {k : Nat} {q : List Ev} {t x i : Int} (h : FdOK w k q t) (hx : 0 ≤ x ∧ x < 65536) (hk : k < 60) (hi : 0 ≤ i ∧ i < 60) : FdOK w (k + 1) (q ++ [evX w q.length (upT t x) x i]) (upT t x) := by
 have ht := upT_eq ⟨h.t0, by have := h.t1; omega⟩ hx
 have h2 := Int.emod_nonneg (x / 16) (show (4 : Int) ≠ 0 by omega)
 have h3 := Int.emod_lt_of_pos (x / 16) (show (0 : Int) < 4 by omega)
 have hl := h.len
 have h0 := h.t0
 refine ⟨by simp; omega, by omega, by have := h.t1; omega, fun j e hj => ?_, fun j j' e e' hj hj' hlt => ?_⟩
 ·rcases app1 hj with hj | ⟨rfl, rfl⟩
  ·obtain ⟨a, b, c, d, f⟩ := h.who j e hj
   exact ⟨a, b, c, by omega, f⟩
  ·refine ⟨rfl, ?_, by show 1 ≤ upT t x; omega, Int.le_refl _, evX_form hx hi⟩
   show IntKind.wrap .u64 (IntKind.wrap .u64 (q.length : Int) + 1) = _
   rw [wu64 (n := (q.length : Int)) (by omega) (by omega), wu64 (by omega) (by omega)]
 ·rcases app1 hj with hj | ⟨rfl, rfl⟩
  ·rcases app1 hj' with hj' | ⟨rfl, rfl⟩
   ·exact h.rise j j' e e' hj hj' hlt
   ·have := (h.who j e hj).2.2.2.1
    show _ < upT t x
    omega
  ·rcases app1 hj' with hj' | ⟨rfl, rfl⟩
   ·have := lt_get? hj'; omega
   ·omega
theorem gset {b : List Int} {i j : Nat} {v : Int} (h : i ≠ j) : (b.set i v).getD j 0 = b.getD j 0 := by
 rw [List.getD_eq_getElem?_getD, List.getElem?_set_ne h, ← List.getD_eq_getElem?_getD]
theorem gset_same {b : List Int} {i : Nat} {v : Int} (h : i < b.length) : (b.set i v).getD i 0 = v := by
 rw [List.getD_eq_getElem?_getD, List.getElem?_set_self h]; rfl
def U16s (l : List Int) : Prop := ∀ x ∈ l, 0 ≤ x ∧ x < 65536
theorem U16s.get {l : List Int} (h : U16s l) (k : Nat) : 0 ≤ l.getD k 0 ∧ l.getD k 0 < 65536 := by
 rw [List.getD_eq_getElem?_getD]
 rcases Nat.lt_or_ge k l.length with hk | hk
 ·rw [List.getElem?_eq_getElem hk]; exact h _ (List.getElem_mem hk)
 ·rw [List.getElem?_eq_none hk]; simp
theorem T9f1_4_s0 (a0 : List Int) (k : Int) (b : List Int) (q0 : List Ev) (hk : 0 ≤ k ∧ k < a0.length) (h60 : k < 60) (hb : b.length = 1) (hq : q0.length < 1000000) (hw : (IntKind.wrap .i64 (a0.getD k.toNat 0)).tmod 1 = 0) :
  T9f1_4 a0 1 k b q0 = some (.inl ((a0, 1, (), (), IntKind.wrap .i64 (k + 1), ()), (((), ()), (b.set 0 (upT (b.getD 0 0) (a0.getD k.toNat 0)), ()), ()), ((q0 ++ [evX 0 q0.length ((b.set 0 (upT (b.getD 0 0) (a0.getD k.toNat 0))).getD 0 0) (a0.getD k.toNat 0) k]), ()))) := by
 have c1 : decide (k < (a0.length : Int)) = true := decide_eq_true hk.2
 have c2 : decide (k < 60) = true := decide_eq_true h60
 have c3 : decide (0 ≤ k ∧ k < (a0.length : Int)) = true := decide_eq_true hk
 have c4 : decide ((1 : Int) ≠ 0) = true := rfl
 have w0 : decide (((((IntKind.wrap .i64 ((a0).getD (k : Int).toNat (0 : Int))) : Int).tmod 1) : Int) = 0) = true := by rw [hw]; rfl
 have c5 : decide (0 ≤ (0 : Int) ∧ (0 : Int) < ((b.length : Nat) : Int)) = true := decide_eq_true (by omega)
 have c6 : decide ((0 : Int).toNat < b.length) = true := decide_eq_true (by rw [hb]; decide)
 have c7 : ∀ v, decide (0 ≤ (0 : Int) ∧ (0 : Int) < (((b.set (0 : Int).toNat v).length : Nat) : Int)) = true := fun v => decide_eq_true (by rw [List.length_set]; omega)
 have c8 : ∀ v, decide ((0 : Int).toNat < (b.set (0 : Int).toNat v).length) = true := fun v => decide_eq_true (by rw [List.length_set, hb]; decide)
 have c9 := qt_some' hk.1 h60
 unfold T9f1_4
 try delta uT9f1_4_6
 try delta uT9f1_4_5
 try delta uT9f1_4_4
 try delta uT9f1_4_3
 try delta uT9f1_4_2
 try delta uT9f1_4_1
 try delta uT9f1_4_0
 simp only [c1, c2, c3, c4, w0, c5, c6, c7, c8, c9, cond_true, cond_false]
 unfold evX
 unfold kdX
 generalize hkd : (IntKind.wrap .u8 (1 + (((IntKind.wrap .u8 (IntKind.wrap .u16 ((a0.getD k.toNat 0).tdiv 64))) : Int).tmod 4))) = kd
 cases h1 : kd == 1 <;> cases h2 : kd == 2 <;> cases h3 : kd == 3 <;> exact condT (lim2 hq) rfl
theorem L9f1_4_run (a0 : List Int) (ha : U16s a0) : ∀ (d k : Nat) (b : List Int) (q0 : List Ev), k + d = min a0.length 60 → b.length = 1 → FdOK 0 k q0 (b.getD 0 0) →
  ∃ (b' : List Int) (q0' : List Ev), L9f1_4 a0 1 (k : Nat) b q0 = some ((), (((), ()), (b', ()), ()), (q0', ())) ∧ b'.length = 1 ∧ FdOK 0 60 q0' (b'.getD 0 0) := by
 intro d
 induction d with
 | zero =>
  intro k b q0 hk hb f0
  rw [L9f1_4_eq]
  refine ⟨b, q0, ?_, hb, f0.upto (by omega)⟩
  unfold T9f1_4
  by_cases h : (k : Int) < (a0.length : Int)
  ·rw [decide_eq_true h, show decide ((k : Int) < 60) = false from decide_eq_false (by omega)]; rfl
  ·rw [decide_eq_false h]; rfl
 | succ d ih =>
  intro k b q0 hk hb f0
  rw [L9f1_4_eq]
  have hx := ha.get k
  have hw' : (IntKind.wrap .i64 (a0.getD ((k : Nat) : Int).toNat 0)).tmod 1 = a0.getD k 0 % 1 := by
   rw [Int.toNat_natCast, w64 (by omega) (by omega), Int.tmod_eq_emod_of_nonneg hx.1]
  have hor : a0.getD k 0 % 1 = 0 := by omega
  have h0 := hor
  ·have hs := T9f1_4_s0 a0 (k : Nat) b q0 ⟨by omega, by omega⟩ (by omega) hb (by have := f0.len; omega) (by rw [hw', h0])
   rw [hs]
   simp only [Option.bind_some, Sum.elim_inl]
   rw [gset_same (by omega), show IntKind.wrap .i64 ((k : Nat) + 1 : Int) = ((k + 1 : Nat) : Int) by rw [w64 (by omega) (by omega)]; rfl, Int.toNat_natCast]
   exact ih (k + 1) _ _ (by omega) (by rw [List.length_set]; exact hb) (by rw [gset_same (by omega)]; exact f0.add hx (by omega) ⟨by omega, by omega⟩)
theorem F9t1_feeds (a0 : List Int) (ha : U16s a0) : ∃ (b' : List Int) (q0' : List Ev), F9t1 a0 = some (([q0'], ()), (), ()) ∧ FdOK 0 60 q0' (b'.getD 0 0) := by
 obtain ⟨b', q0', h, _, hh⟩ := L9f1_4_run a0 ha (min a0.length 60) 0 (List.replicate 1 0) [] (by omega) (by simp) (FdOK.nil _)
 refine ⟨b', q0', ?_, hh⟩
 unfold F9t1 F9f1
 have h' : L9f1_4 a0 1 0 (List.replicate (1 : Int).toNat 0) [] = _ := h
 rw [h']
 rfl
theorem T9f2_4_s0 (a0 : List Int) (k : Int) (b : List Int) (q0 q1 : List Ev) (hk : 0 ≤ k ∧ k < a0.length) (h60 : k < 60) (hb : b.length = 2) (hq : q0.length < 1000000) (hw : (IntKind.wrap .i64 (a0.getD k.toNat 0)).tmod 2 = 0) :
  T9f2_4 a0 2 k b q0 q1 = some (.inl ((a0, 2, (), (), IntKind.wrap .i64 (k + 1), ()), (((), (), ()), (b.set 0 (upT (b.getD 0 0) (a0.getD k.toNat 0)), ()), ()), ((q0 ++ [evX 0 q0.length ((b.set 0 (upT (b.getD 0 0) (a0.getD k.toNat 0))).getD 0 0) (a0.getD k.toNat 0) k]), q1, ()))) := by
 have c1 : decide (k < (a0.length : Int)) = true := decide_eq_true hk.2
 have c2 : decide (k < 60) = true := decide_eq_true h60
 have c3 : decide (0 ≤ k ∧ k < (a0.length : Int)) = true := decide_eq_true hk
 have c4 : decide ((2 : Int) ≠ 0) = true := rfl
 have w0 : decide (((((IntKind.wrap .i64 ((a0).getD (k : Int).toNat (0 : Int))) : Int).tmod 2) : Int) = 0) = true := by rw [hw]; rfl
 have c5 : decide (0 ≤ (0 : Int) ∧ (0 : Int) < ((b.length : Nat) : Int)) = true := decide_eq_true (by omega)
 have c6 : decide ((0 : Int).toNat < b.length) = true := decide_eq_true (by rw [hb]; decide)
 have c7 : ∀ v, decide (0 ≤ (0 : Int) ∧ (0 : Int) < (((b.set (0 : Int).toNat v).length : Nat) : Int)) = true := fun v => decide_eq_true (by rw [List.length_set]; omega)
 have c8 : ∀ v, decide ((0 : Int).toNat < (b.set (0 : Int).toNat v).length) = true := fun v => decide_eq_true (by rw [List.length_set, hb]; decide)
 have c9 := qt_some' hk.1 h60
 unfold T9f2_4
 try delta uT9f2_4_11
 try delta uT9f2_4_10
 try delta uT9f2_4_9
 try delta uT9f2_4_8
 try delta uT9f2_4_7
 try delta uT9f2_4_6
 try delta uT9f2_4_5
 try delta uT9f2_4_4
 try delta uT9f2_4_3
 try delta uT9f2_4_2
 try delta uT9f2_4_1
 try delta uT9f2_4_0
 simp only [c1, c2, c3, c4, w0, c5, c6, c7, c8, c9, cond_true, cond_false]
 unfold evX
 unfold kdX
 generalize hkd : (IntKind.wrap .u8 (1 + (((IntKind.wrap .u8 (IntKind.wrap .u16 ((a0.getD k.toNat 0).tdiv 64))) : Int).tmod 4))) = kd
 cases h1 : kd == 1 <;> cases h2 : kd == 2 <;> cases h3 : kd == 3 <;> exact condT (lim2 hq) rfl
theorem T9f2_4_s1 (a0 : List Int) (k : Int) (b : List Int) (q0 q1 : List Ev) (hk : 0 ≤ k ∧ k < a0.length) (h60 : k < 60) (hb : b.length = 2) (hq : q1.length < 1000000) (hw : (IntKind.wrap .i64 (a0.getD k.toNat 0)).tmod 2 = 1) :
  T9f2_4 a0 2 k b q0 q1 = some (.inl ((a0, 2, (), (), IntKind.wrap .i64 (k + 1), ()), (((), (), ()), (b.set 1 (upT (b.getD 1 0) (a0.getD k.toNat 0)), ()), ()), (q0, (q1 ++ [evX 1 q1.length ((b.set 1 (upT (b.getD 1 0) (a0.getD k.toNat 0))).getD 1 0) (a0.getD k.toNat 0) k]), ()))) := by
 have c1 : decide (k < (a0.length : Int)) = true := decide_eq_true hk.2
 have c2 : decide (k < 60) = true := decide_eq_true h60
 have c3 : decide (0 ≤ k ∧ k < (a0.length : Int)) = true := decide_eq_true hk
 have c4 : decide ((2 : Int) ≠ 0) = true := rfl
 have w0 : decide (((((IntKind.wrap .i64 ((a0).getD (k : Int).toNat (0 : Int))) : Int).tmod 2) : Int) = 0) = false := by rw [hw]; rfl
 have w1 : decide (((((IntKind.wrap .i64 ((a0).getD (k : Int).toNat (0 : Int))) : Int).tmod 2) : Int) = 1) = true := by rw [hw]; rfl
 have c5 : decide (0 ≤ (1 : Int) ∧ (1 : Int) < ((b.length : Nat) : Int)) = true := decide_eq_true (by omega)
 have c6 : decide ((1 : Int).toNat < b.length) = true := decide_eq_true (by rw [hb]; decide)
 have c7 : ∀ v, decide (0 ≤ (1 : Int) ∧ (1 : Int) < (((b.set (1 : Int).toNat v).length : Nat) : Int)) = true := fun v => decide_eq_true (by rw [List.length_set]; omega)
 have c8 : ∀ v, decide ((1 : Int).toNat < (b.set (1 : Int).toNat v).length) = true := fun v => decide_eq_true (by rw [List.length_set, hb]; decide)
 have c9 := qt_some' hk.1 h60
 unfold T9f2_4
 try delta uT9f2_4_11
 try delta uT9f2_4_10
 try delta uT9f2_4_9
 try delta uT9f2_4_8
 try delta uT9f2_4_7
 try delta uT9f2_4_6
 try delta uT9f2_4_5
 try delta uT9f2_4_4
 try delta uT9f2_4_3
 try delta uT9f2_4_2
 try delta uT9f2_4_1
 try delta uT9f2_4_0
 simp only [c1, c2, c3, c4, w0, w1, c5, c6, c7, c8, c9, cond_true, cond_false]
 unfold evX
 unfold kdX
 generalize hkd : (IntKind.wrap .u8 (1 + (((IntKind.wrap .u8 (IntKind.wrap .u16 ((a0.getD k.toNat 0).tdiv 64))) : Int).tmod 4))) = kd
 cases h1 : kd == 1 <;> cases h2 : kd == 2 <;> cases h3 : kd == 3 <;> exact condT (lim2 hq) rfl
theorem L9f2_4_run (a0 : List Int) (ha : U16s a0) : ∀ (d k : Nat) (b : List Int) (q0 q1 : List Ev), k + d = min a0.length 60 → b.length = 2 → FdOK 0 k q0 (b.getD 0 0) → FdOK 1 k q1 (b.getD 1 0) →
  ∃ (b' : List Int) (q0' q1' : List Ev), L9f2_4 a0 2 (k : Nat) b q0 q1 = some ((), (((), (), ()), (b', ()), ()), (q0', q1', ())) ∧ b'.length = 2 ∧ FdOK 0 60 q0' (b'.getD 0 0) ∧ FdOK 1 60 q1' (b'.getD 1 0) := by
 intro d
 induction d with
 | zero =>
  intro k b q0 q1 hk hb f0 f1
  rw [L9f2_4_eq]
  refine ⟨b, q0, q1, ?_, hb, f0.upto (by omega), f1.upto (by omega)⟩
  unfold T9f2_4
  by_cases h : (k : Int) < (a0.length : Int)
  ·rw [decide_eq_true h, show decide ((k : Int) < 60) = false from decide_eq_false (by omega)]; rfl
  ·rw [decide_eq_false h]; rfl
 | succ d ih =>
  intro k b q0 q1 hk hb f0 f1
  rw [L9f2_4_eq]
  have hx := ha.get k
  have hw' : (IntKind.wrap .i64 (a0.getD ((k : Nat) : Int).toNat 0)).tmod 2 = a0.getD k 0 % 2 := by
   rw [Int.toNat_natCast, w64 (by omega) (by omega), Int.tmod_eq_emod_of_nonneg hx.1]
  have hor : a0.getD k 0 % 2 = 0 ∨ a0.getD k 0 % 2 = 1 := by omega
  rcases hor with h0 | h1
  ·have hs := T9f2_4_s0 a0 (k : Nat) b q0 q1 ⟨by omega, by omega⟩ (by omega) hb (by have := f0.len; omega) (by rw [hw', h0])
   rw [hs]
   simp only [Option.bind_some, Sum.elim_inl]
   rw [gset_same (by omega), show IntKind.wrap .i64 ((k : Nat) + 1 : Int) = ((k + 1 : Nat) : Int) by rw [w64 (by omega) (by omega)]; rfl, Int.toNat_natCast]
   exact ih (k + 1) _ _ _ (by omega) (by rw [List.length_set]; exact hb) (by rw [gset_same (by omega)]; exact f0.add hx (by omega) ⟨by omega, by omega⟩) (by rw [gset (by decide)]; exact f1.keep)
  ·have hs := T9f2_4_s1 a0 (k : Nat) b q0 q1 ⟨by omega, by omega⟩ (by omega) hb (by have := f1.len; omega) (by rw [hw', h1])
   rw [hs]
   simp only [Option.bind_some, Sum.elim_inl]
   rw [gset_same (by omega), show IntKind.wrap .i64 ((k : Nat) + 1 : Int) = ((k + 1 : Nat) : Int) by rw [w64 (by omega) (by omega)]; rfl, Int.toNat_natCast]
   exact ih (k + 1) _ _ _ (by omega) (by rw [List.length_set]; exact hb) (by rw [gset (by decide)]; exact f0.keep) (by rw [gset_same (by omega)]; exact f1.add hx (by omega) ⟨by omega, by omega⟩)
theorem F9t2_feeds (a0 : List Int) (ha : U16s a0) : ∃ (b' : List Int) (q0' q1' : List Ev), F9t2 a0 = some (([q0', q1'], ()), (), ()) ∧ FdOK 0 60 q0' (b'.getD 0 0) ∧ FdOK 1 60 q1' (b'.getD 1 0) := by
 obtain ⟨b', q0', q1', h, _, hh⟩ := L9f2_4_run a0 ha (min a0.length 60) 0 (List.replicate 2 0) [] [] (by omega) (by simp) (FdOK.nil _) (FdOK.nil _)
 refine ⟨b', q0', q1', ?_, hh⟩
 unfold F9t2 F9f2
 have h' : L9f2_4 a0 2 0 (List.replicate (2 : Int).toNat 0) [] [] = _ := h
 rw [h']
 rfl
theorem T9f3_4_s0 (a0 : List Int) (k : Int) (b : List Int) (q0 q1 q2 : List Ev) (hk : 0 ≤ k ∧ k < a0.length) (h60 : k < 60) (hb : b.length = 3) (hq : q0.length < 1000000) (hw : (IntKind.wrap .i64 (a0.getD k.toNat 0)).tmod 3 = 0) :
  T9f3_4 a0 3 k b q0 q1 q2 = some (.inl ((a0, 3, (), (), IntKind.wrap .i64 (k + 1), ()), (((), (), (), ()), (b.set 0 (upT (b.getD 0 0) (a0.getD k.toNat 0)), ()), ()), ((q0 ++ [evX 0 q0.length ((b.set 0 (upT (b.getD 0 0) (a0.getD k.toNat 0))).getD 0 0) (a0.getD k.toNat 0) k]), q1, q2, ()))) := by
 have c1 : decide (k < (a0.length : Int)) = true := decide_eq_true hk.2
 have c2 : decide (k < 60) = true := decide_eq_true h60
 have c3 : decide (0 ≤ k ∧ k < (a0.length : Int)) = true := decide_eq_true hk
 have c4 : decide ((3 : Int) ≠ 0) = true := rfl
 have w0 : decide (((((IntKind.wrap .i64 ((a0).getD (k : Int).toNat (0 : Int))) : Int).tmod 3) : Int) = 0) = true := by rw [hw]; rfl
 have c5 : decide (0 ≤ (0 : Int) ∧ (0 : Int) < ((b.length : Nat) : Int)) = true := decide_eq_true (by omega)
 have c6 : decide ((0 : Int).toNat < b.length) = true := decide_eq_true (by rw [hb]; decide)
 have c7 : ∀ v, decide (0 ≤ (0 : Int) ∧ (0 : Int) < (((b.set (0 : Int).toNat v).length : Nat) : Int)) = true := fun v => decide_eq_true (by rw [List.length_set]; omega)
 have c8 : ∀ v, decide ((0 : Int).toNat < (b.set (0 : Int).toNat v).length) = true := fun v => decide_eq_true (by rw [List.length_set, hb]; decide)
 have c9 := qt_some' hk.1 h60
 unfold T9f3_4
 try delta uT9f3_4_16
 try delta uT9f3_4_15
 try delta uT9f3_4_14
 try delta uT9f3_4_13
 try delta uT9f3_4_12
 try delta uT9f3_4_11
 try delta uT9f3_4_10
 try delta uT9f3_4_9
 try delta uT9f3_4_8
 try delta uT9f3_4_7
 try delta uT9f3_4_6
 try delta uT9f3_4_5
 try delta uT9f3_4_4
 try delta uT9f3_4_3
 try delta uT9f3_4_2
 try delta uT9f3_4_1
 try delta uT9f3_4_0
 simp only [c1, c2, c3, c4, w0, c5, c6, c7, c8, c9, cond_true, cond_false]
 unfold evX
 unfold kdX
 generalize hkd : (IntKind.wrap .u8 (1 + (((IntKind.wrap .u8 (IntKind.wrap .u16 ((a0.getD k.toNat 0).tdiv 64))) : Int).tmod 4))) = kd
 cases h1 : kd == 1 <;> cases h2 : kd == 2 <;> cases h3 : kd == 3 <;> exact condT (lim2 hq) rfl
theorem T9f3_4_s1 (a0 : List Int) (k : Int) (b : List Int) (q0 q1 q2 : List Ev) (hk : 0 ≤ k ∧ k < a0.length) (h60 : k < 60) (hb : b.length = 3) (hq : q1.length < 1000000) (hw : (IntKind.wrap .i64 (a0.getD k.toNat 0)).tmod 3 = 1) :
  T9f3_4 a0 3 k b q0 q1 q2 = some (.inl ((a0, 3, (), (), IntKind.wrap .i64 (k + 1), ()), (((), (), (), ()), (b.set 1 (upT (b.getD 1 0) (a0.getD k.toNat 0)), ()), ()), (q0, (q1 ++ [evX 1 q1.length ((b.set 1 (upT (b.getD 1 0) (a0.getD k.toNat 0))).getD 1 0) (a0.getD k.toNat 0) k]), q2, ()))) := by
 have c1 : decide (k < (a0.length : Int)) = true := decide_eq_true hk.2
 have c2 : decide (k < 60) = true := decide_eq_true h60
 have c3 : decide (0 ≤ k ∧ k < (a0.length : Int)) = true := decide_eq_true hk
 have c4 : decide ((3 : Int) ≠ 0) = true := rfl
 have w0 : decide (((((IntKind.wrap .i64 ((a0).getD (k : Int).toNat (0 : Int))) : Int).tmod 3) : Int) = 0) = false := by rw [hw]; rfl
 have w1 : decide (((((IntKind.wrap .i64 ((a0).getD (k : Int).toNat (0 : Int))) : Int).tmod 3) : Int) = 1) = true := by rw [hw]; rfl
 have c5 : decide (0 ≤ (1 : Int) ∧ (1 : Int) < ((b.length : Nat) : Int)) = true := decide_eq_true (by omega)
 have c6 : decide ((1 : Int).toNat < b.length) = true := decide_eq_true (by rw [hb]; decide)
 have c7 : ∀ v, decide (0 ≤ (1 : Int) ∧ (1 : Int) < (((b.set (1 : Int).toNat v).length : Nat) : Int)) = true := fun v => decide_eq_true (by rw [List.length_set]; omega)
 have c8 : ∀ v, decide ((1 : Int).toNat < (b.set (1 : Int).toNat v).length) = true := fun v => decide_eq_true (by rw [List.length_set, hb]; decide)
 have c9 := qt_some' hk.1 h60
 unfold T9f3_4
 try delta uT9f3_4_16
 try delta uT9f3_4_15
 try delta uT9f3_4_14
 try delta uT9f3_4_13
 try delta uT9f3_4_12
 try delta uT9f3_4_11
 try delta uT9f3_4_10
 try delta uT9f3_4_9
 try delta uT9f3_4_8
 try delta uT9f3_4_7
 try delta uT9f3_4_6
 try delta uT9f3_4_5
 try delta uT9f3_4_4
 try delta uT9f3_4_3
 try delta uT9f3_4_2
 try delta uT9f3_4_1
 try delta uT9f3_4_0
 simp only [c1, c2, c3, c4, w0, w1, c5, c6, c7, c8, c9, cond_true, cond_false]
 unfold evX
 unfold kdX
 generalize hkd : (IntKind.wrap .u8 (1 + (((IntKind.wrap .u8 (IntKind.wrap .u16 ((a0.getD k.toNat 0).tdiv 64))) : Int).tmod 4))) = kd
 cases h1 : kd == 1 <;> cases h2 : kd == 2 <;> cases h3 : kd == 3 <;> exact condT (lim2 hq) rfl
theorem T9f3_4_s2 (a0 : List Int) (k : Int) (b : List Int) (q0 q1 q2 : List Ev) (hk : 0 ≤ k ∧ k < a0.length) (h60 : k < 60) (hb : b.length = 3) (hq : q2.length < 1000000) (hw : (IntKind.wrap .i64 (a0.getD k.toNat 0)).tmod 3 = 2) :
  T9f3_4 a0 3 k b q0 q1 q2 = some (.inl ((a0, 3, (), (), IntKind.wrap .i64 (k + 1), ()), (((), (), (), ()), (b.set 2 (upT (b.getD 2 0) (a0.getD k.toNat 0)), ()), ()), (q0, q1, (q2 ++ [evX 2 q2.length ((b.set 2 (upT (b.getD 2 0) (a0.getD k.toNat 0))).getD 2 0) (a0.getD k.toNat 0) k]), ()))) := by
 have c1 : decide (k < (a0.length : Int)) = true := decide_eq_true hk.2
 have c2 : decide (k < 60) = true := decide_eq_true h60
 have c3 : decide (0 ≤ k ∧ k < (a0.length : Int)) = true := decide_eq_true hk
 have c4 : decide ((3 : Int) ≠ 0) = true := rfl
 have w0 : decide (((((IntKind.wrap .i64 ((a0).getD (k : Int).toNat (0 : Int))) : Int).tmod 3) : Int) = 0) = false := by rw [hw]; rfl
 have w1 : decide (((((IntKind.wrap .i64 ((a0).getD (k : Int).toNat (0 : Int))) : Int).tmod 3) : Int) = 1) = false := by rw [hw]; rfl
 have w2 : decide (((((IntKind.wrap .i64 ((a0).getD (k : Int).toNat (0 : Int))) : Int).tmod 3) : Int) = 2) = true := by rw [hw]; rfl
 have c5 : decide (0 ≤ (2 : Int) ∧ (2 : Int) < ((b.length : Nat) : Int)) = true := decide_eq_true (by omega)
 have c6 : decide ((2 : Int).toNat < b.length) = true := decide_eq_true (by rw [hb]; decide)
 have c7 : ∀ v, decide (0 ≤ (2 : Int) ∧ (2 : Int) < (((b.set (2 : Int).toNat v).length : Nat) : Int)) = true := fun v => decide_eq_true (by rw [List.length_set]; omega)
 have c8 : ∀ v, decide ((2 : Int).toNat < (b.set (2 : Int).toNat v).length) = true := fun v => decide_eq_true (by rw [List.length_set, hb]; decide)
 have c9 := qt_some' hk.1 h60
 unfold T9f3_4
 try delta uT9f3_4_16
 try delta uT9f3_4_15
 try delta uT9f3_4_14
 try delta uT9f3_4_13
 try delta uT9f3_4_12
 try delta uT9f3_4_11
 try delta uT9f3_4_10
 try delta uT9f3_4_9
 try delta uT9f3_4_8
 try delta uT9f3_4_7
 try delta uT9f3_4_6
 try delta uT9f3_4_5
 try delta uT9f3_4_4
 try delta uT9f3_4_3
 try delta uT9f3_4_2
 try delta uT9f3_4_1
 try delta uT9f3_4_0
 simp only [c1, c2, c3, c4, w0, w1, w2, c5, c6, c7, c8, c9, cond_true, cond_false]
 unfold evX
 unfold kdX
 generalize hkd : (IntKind.wrap .u8 (1 + (((IntKind.wrap .u8 (IntKind.wrap .u16 ((a0.getD k.toNat 0).tdiv 64))) : Int).tmod 4))) = kd
 cases h1 : kd == 1 <;> cases h2 : kd == 2 <;> cases h3 : kd == 3 <;> exact condT (lim2 hq) rfl
theorem L9f3_4_run (a0 : List Int) (ha : U16s a0) : ∀ (d k : Nat) (b : List Int) (q0 q1 q2 : List Ev), k + d = min a0.length 60 → b.length = 3 → FdOK 0 k q0 (b.getD 0 0) → FdOK 1 k q1 (b.getD 1 0) → FdOK 2 k q2 (b.getD 2 0) →
  ∃ (b' : List Int) (q0' q1' q2' : List Ev), L9f3_4 a0 3 (k : Nat) b q0 q1 q2 = some ((), (((), (), (), ()), (b', ()), ()), (q0', q1', q2', ())) ∧ b'.length = 3 ∧ FdOK 0 60 q0' (b'.getD 0 0) ∧ FdOK 1 60 q1' (b'.getD 1 0) ∧ FdOK 2 60 q2' (b'.getD 2 0) := by
 intro d
 induction d with
 | zero =>
  intro k b q0 q1 q2 hk hb f0 f1 f2
  rw [L9f3_4_eq]
  refine ⟨b, q0, q1, q2, ?_, hb, f0.upto (by omega), f1.upto (by omega), f2.upto (by omega)⟩
  unfold T9f3_4
  by_cases h : (k : Int) < (a0.length : Int)
  ·rw [decide_eq_true h, show decide ((k : Int) < 60) = false from decide_eq_false (by omega)]; rfl
  ·rw [decide_eq_false h]; rfl
 | succ d ih =>
  intro k b q0 q1 q2 hk hb f0 f1 f2
  rw [L9f3_4_eq]
  have hx := ha.get k
  have hw' : (IntKind.wrap .i64 (a0.getD ((k : Nat) : Int).toNat 0)).tmod 3 = a0.getD k 0 % 3 := by
   rw [Int.toNat_natCast, w64 (by omega) (by omega), Int.tmod_eq_emod_of_nonneg hx.1]
  have hor : a0.getD k 0 % 3 = 0 ∨ a0.getD k 0 % 3 = 1 ∨ a0.getD k 0 % 3 = 2 := by omega
  rcases hor with h0 | h1 | h2
  ·have hs := T9f3_4_s0 a0 (k : Nat) b q0 q1 q2 ⟨by omega, by omega⟩ (by omega) hb (by have := f0.len; omega) (by rw [hw', h0])
   rw [hs]
   simp only [Option.bind_some, Sum.elim_inl]
   rw [gset_same (by omega), show IntKind.wrap .i64 ((k : Nat) + 1 : Int) = ((k + 1 : Nat) : Int) by rw [w64 (by omega) (by omega)]; rfl, Int.toNat_natCast]
   exact ih (k + 1) _ _ _ _ (by omega) (by rw [List.length_set]; exact hb) (by rw [gset_same (by omega)]; exact f0.add hx (by omega) ⟨by omega, by omega⟩) (by rw [gset (by decide)]; exact f1.keep) (by rw [gset (by decide)]; exact f2.keep)
  ·have hs := T9f3_4_s1 a0 (k : Nat) b q0 q1 q2 ⟨by omega, by omega⟩ (by omega) hb (by have := f1.len; omega) (by rw [hw', h1])
   rw [hs]
   simp only [Option.bind_some, Sum.elim_inl]
   rw [gset_same (by omega), show IntKind.wrap .i64 ((k : Nat) + 1 : Int) = ((k + 1 : Nat) : Int) by rw [w64 (by omega) (by omega)]; rfl, Int.toNat_natCast]
   exact ih (k + 1) _ _ _ _ (by omega) (by rw [List.length_set]; exact hb) (by rw [gset (by decide)]; exact f0.keep) (by rw [gset_same (by omega)]; exact f1.add hx (by omega) ⟨by omega, by omega⟩) (by rw [gset (by decide)]; exact f2.keep)
  ·have hs := T9f3_4_s2 a0 (k : Nat) b q0 q1 q2 ⟨by omega, by omega⟩ (by omega) hb (by have := f2.len; omega) (by rw [hw', h2])
   rw [hs]
   simp only [Option.bind_some, Sum.elim_inl]
   rw [gset_same (by omega), show IntKind.wrap .i64 ((k : Nat) + 1 : Int) = ((k + 1 : Nat) : Int) by rw [w64 (by omega) (by omega)]; rfl, Int.toNat_natCast]
   exact ih (k + 1) _ _ _ _ (by omega) (by rw [List.length_set]; exact hb) (by rw [gset (by decide)]; exact f0.keep) (by rw [gset (by decide)]; exact f1.keep) (by rw [gset_same (by omega)]; exact f2.add hx (by omega) ⟨by omega, by omega⟩)
theorem F9t3_feeds (a0 : List Int) (ha : U16s a0) : ∃ (b' : List Int) (q0' q1' q2' : List Ev), F9t3 a0 = some (([q0', q1', q2'], ()), (), ()) ∧ FdOK 0 60 q0' (b'.getD 0 0) ∧ FdOK 1 60 q1' (b'.getD 1 0) ∧ FdOK 2 60 q2' (b'.getD 2 0) := by
 obtain ⟨b', q0', q1', q2', h, _, hh⟩ := L9f3_4_run a0 ha (min a0.length 60) 0 (List.replicate 3 0) [] [] [] (by omega) (by simp) (FdOK.nil _) (FdOK.nil _) (FdOK.nil _)
 refine ⟨b', q0', q1', q2', ?_, hh⟩
 unfold F9t3 F9f3
 have h' : L9f3_4 a0 3 0 (List.replicate (3 : Int).toNat 0) [] [] [] = _ := h
 rw [h']
 rfl
theorem T9f4_4_s0 (a0 : List Int) (k : Int) (b : List Int) (q0 q1 q2 q3 : List Ev) (hk : 0 ≤ k ∧ k < a0.length) (h60 : k < 60) (hb : b.length = 4) (hq : q0.length < 1000000) (hw : (IntKind.wrap .i64 (a0.getD k.toNat 0)).tmod 4 = 0) :
  T9f4_4 a0 4 k b q0 q1 q2 q3 = some (.inl ((a0, 4, (), (), IntKind.wrap .i64 (k + 1), ()), (((), (), (), (), ()), (b.set 0 (upT (b.getD 0 0) (a0.getD k.toNat 0)), ()), ()), ((q0 ++ [evX 0 q0.length ((b.set 0 (upT (b.getD 0 0) (a0.getD k.toNat 0))).getD 0 0) (a0.getD k.toNat 0) k]), q1, q2, q3, ()))) := by
 have c1 : decide (k < (a0.length : Int)) = true := decide_eq_true hk.2
 have c2 : decide (k < 60) = true := decide_eq_true h60
 have c3 : decide (0 ≤ k ∧ k < (a0.length : Int)) = true := decide_eq_true hk
 have c4 : decide ((4 : Int) ≠ 0) = true := rfl
 have w0 : decide (((((IntKind.wrap .i64 ((a0).getD (k : Int).toNat (0 : Int))) : Int).tmod 4) : Int) = 0) = true := by rw [hw]; rfl
 have c5 : decide (0 ≤ (0 : Int) ∧ (0 : Int) < ((b.length : Nat) : Int)) = true := decide_eq_true (by omega)
 have c6 : decide ((0 : Int).toNat < b.length) = true := decide_eq_true (by rw [hb]; decide)
 have c7 : ∀ v, decide (0 ≤ (0 : Int) ∧ (0 : Int) < (((b.set (0 : Int).toNat v).length : Nat) : Int)) = true := fun v => decide_eq_true (by rw [List.length_set]; omega)
 have c8 : ∀ v, decide ((0 : Int).toNat < (b.set (0 : Int).toNat v).length) = true := fun v => decide_eq_true (by rw [List.length_set, hb]; decide)
 have c9 := qt_some' hk.1 h60
 unfold T9f4_4
 try delta uT9f4_4_21
 try delta uT9f4_4_20
 try delta uT9f4_4_19
 try delta uT9f4_4_18
 try delta uT9f4_4_17
 try delta uT9f4_4_16
 try delta uT9f4_4_15
 try delta uT9f4_4_14
 try delta uT9f4_4_13
 try delta uT9f4_4_12
 try delta uT9f4_4_11
 try delta uT9f4_4_10
 try delta uT9f4_4_9
 try delta uT9f4_4_8
 try delta uT9f4_4_7
 try delta uT9f4_4_6
 try delta uT9f4_4_5
 try delta uT9f4_4_4
 try delta uT9f4_4_3
 try delta uT9f4_4_2
 try delta uT9f4_4_1
 try delta uT9f4_4_0
 simp only [c1, c2, c3, c4, w0, c5, c6, c7, c8, c9, cond_true, cond_false]
 unfold evX
 unfold kdX
 generalize hkd : (IntKind.wrap .u8 (1 + (((IntKind.wrap .u8 (IntKind.wrap .u16 ((a0.getD k.toNat 0).tdiv 64))) : Int).tmod 4))) = kd
 cases h1 : kd == 1 <;> cases h2 : kd == 2 <;> cases h3 : kd == 3 <;> exact condT (lim2 hq) rfl
theorem T9f4_4_s1 (a0 : List Int) (k : Int) (b : List Int) (q0 q1 q2 q3 : List Ev) (hk : 0 ≤ k ∧ k < a0.length) (h60 : k < 60) (hb : b.length = 4) (hq : q1.length < 1000000) (hw : (IntKind.wrap .i64 (a0.getD k.toNat 0)).tmod 4 = 1) :
  T9f4_4 a0 4 k b q0 q1 q2 q3 = some (.inl ((a0, 4, (), (), IntKind.wrap .i64 (k + 1), ()), (((), (), (), (), ()), (b.set 1 (upT (b.getD 1 0) (a0.getD k.toNat 0)), ()), ()), (q0, (q1 ++ [evX 1 q1.length ((b.set 1 (upT (b.getD 1 0) (a0.getD k.toNat 0))).getD 1 0) (a0.getD k.toNat 0) k]), q2, q3, ()))) := by
 have c1 : decide (k < (a0.length : Int)) = true := decide_eq_true hk.2
 have c2 : decide (k < 60) = true := decide_eq_true h60
 have c3 : decide (0 ≤ k ∧ k < (a0.length : Int)) = true := decide_eq_true hk
 have c4 : decide ((4 : Int) ≠ 0) = true := rfl
 have w0 : decide (((((IntKind.wrap .i64 ((a0).getD (k : Int).toNat (0 : Int))) : Int).tmod 4) : Int) = 0) = false := by rw [hw]; rfl
 have w1 : decide (((((IntKind.wrap .i64 ((a0).getD (k : Int).toNat (0 : Int))) : Int).tmod 4) : Int) = 1) = true := by rw [hw]; rfl
 have c5 : decide (0 ≤ (1 : Int) ∧ (1 : Int) < ((b.length : Nat) : Int)) = true := decide_eq_true (by omega)
 have c6 : decide ((1 : Int).toNat < b.length) = true := decide_eq_true (by rw [hb]; decide)
 have c7 : ∀ v, decide (0 ≤ (1 : Int) ∧ (1 : Int) < (((b.set (1 : Int).toNat v).length : Nat) : Int)) = true := fun v => decide_eq_true (by rw [List.length_set]; omega)
 have c8 : ∀ v, decide ((1 : Int).toNat < (b.set (1 : Int).toNat v).length) = true := fun v => decide_eq_true (by rw [List.length_set, hb]; decide)
 have c9 := qt_some' hk.1 h60
 unfold T9f4_4
 try delta uT9f4_4_21
 try delta uT9f4_4_20
 try delta uT9f4_4_19
 try delta uT9f4_4_18
 try delta uT9f4_4_17
 try delta uT9f4_4_16
 try delta uT9f4_4_15
 try delta uT9f4_4_14
 try delta uT9f4_4_13
 try delta uT9f4_4_12
 try delta uT9f4_4_11
 try delta uT9f4_4_10
 try delta uT9f4_4_9
 try delta uT9f4_4_8
 try delta uT9f4_4_7
 try delta uT9f4_4_6
 try delta uT9f4_4_5
 try delta uT9f4_4_4
 try delta uT9f4_4_3
 try delta uT9f4_4_2
 try delta uT9f4_4_1
 try delta uT9f4_4_0
 simp only [c1, c2, c3, c4, w0, w1, c5, c6, c7, c8, c9, cond_true, cond_false]
 unfold evX
 unfold kdX
 generalize hkd : (IntKind.wrap .u8 (1 + (((IntKind.wrap .u8 (IntKind.wrap .u16 ((a0.getD k.toNat 0).tdiv 64))) : Int).tmod 4))) = kd
 cases h1 : kd == 1 <;> cases h2 : kd == 2 <;> cases h3 : kd == 3 <;> exact condT (lim2 hq) rfl
theorem T9f4_4_s2 (a0 : List Int) (k : Int) (b : List Int) (q0 q1 q2 q3 : List Ev) (hk : 0 ≤ k ∧ k < a0.length) (h60 : k < 60) (hb : b.length = 4) (hq : q2.length < 1000000) (hw : (IntKind.wrap .i64 (a0.getD k.toNat 0)).tmod 4 = 2) :
  T9f4_4 a0 4 k b q0 q1 q2 q3 = some (.inl ((a0, 4, (), (), IntKind.wrap .i64 (k + 1), ()), (((), (), (), (), ()), (b.set 2 (upT (b.getD 2 0) (a0.getD k.toNat 0)), ()), ()), (q0, q1, (q2 ++ [evX 2 q2.length ((b.set 2 (upT (b.getD 2 0) (a0.getD k.toNat 0))).getD 2 0) (a0.getD k.toNat 0) k]), q3, ()))) := by
 have c1 : decide (k < (a0.length : Int)) = true := decide_eq_true hk.2
 have c2 : decide (k < 60) = true := decide_eq_true h60
 have c3 : decide (0 ≤ k ∧ k < (a0.length : Int)) = true := decide_eq_true hk
 have c4 : decide ((4 : Int) ≠ 0) = true := rfl
 have w0 : decide (((((IntKind.wrap .i64 ((a0).getD (k : Int).toNat (0 : Int))) : Int).tmod 4) : Int) = 0) = false := by rw [hw]; rfl
 have w1 : decide (((((IntKind.wrap .i64 ((a0).getD (k : Int).toNat (0 : Int))) : Int).tmod 4) : Int) = 1) = false := by rw [hw]; rfl
 have w2 : decide (((((IntKind.wrap .i64 ((a0).getD (k : Int).toNat (0 : Int))) : Int).tmod 4) : Int) = 2) = true := by rw [hw]; rfl
 have c5 : decide (0 ≤ (2 : Int) ∧ (2 : Int) < ((b.length : Nat) : Int)) = true := decide_eq_true (by omega)
 have c6 : decide ((2 : Int).toNat < b.length) = true := decide_eq_true (by rw [hb]; decide)
 have c7 : ∀ v, decide (0 ≤ (2 : Int) ∧ (2 : Int) < (((b.set (2 : Int).toNat v).length : Nat) : Int)) = true := fun v => decide_eq_true (by rw [List.length_set]; omega)
 have c8 : ∀ v, decide ((2 : Int).toNat < (b.set (2 : Int).toNat v).length) = true := fun v => decide_eq_true (by rw [List.length_set, hb]; decide)
 have c9 := qt_some' hk.1 h60
 unfold T9f4_4
 try delta uT9f4_4_21
 try delta uT9f4_4_20
 try delta uT9f4_4_19
 try delta uT9f4_4_18
 try delta uT9f4_4_17
 try delta uT9f4_4_16
 try delta uT9f4_4_15
 try delta uT9f4_4_14
 try delta uT9f4_4_13
 try delta uT9f4_4_12
 try delta uT9f4_4_11
 try delta uT9f4_4_10
 try delta uT9f4_4_9
 try delta uT9f4_4_8
 try delta uT9f4_4_7
 try delta uT9f4_4_6
 try delta uT9f4_4_5
 try delta uT9f4_4_4
 try delta uT9f4_4_3
 try delta uT9f4_4_2
 try delta uT9f4_4_1
 try delta uT9f4_4_0
 simp only [c1, c2, c3, c4, w0, w1, w2, c5, c6, c7, c8, c9, cond_true, cond_false]
 unfold evX
 unfold kdX
 generalize hkd : (IntKind.wrap .u8 (1 + (((IntKind.wrap .u8 (IntKind.wrap .u16 ((a0.getD k.toNat 0).tdiv 64))) : Int).tmod 4))) = kd
 cases h1 : kd == 1 <;> cases h2 : kd == 2 <;> cases h3 : kd == 3 <;> exact condT (lim2 hq) rfl
theorem T9f4_4_s3 (a0 : List Int) (k : Int) (b : List Int) (q0 q1 q2 q3 : List Ev) (hk : 0 ≤ k ∧ k < a0.length) (h60 : k < 60) (hb : b.length = 4) (hq : q3.length < 1000000) (hw : (IntKind.wrap .i64 (a0.getD k.toNat 0)).tmod 4 = 3) :
  T9f4_4 a0 4 k b q0 q1 q2 q3 = some (.inl ((a0, 4, (), (), IntKind.wrap .i64 (k + 1), ()), (((), (), (), (), ()), (b.set 3 (upT (b.getD 3 0) (a0.getD k.toNat 0)), ()), ()), (q0, q1, q2, (q3 ++ [evX 3 q3.length ((b.set 3 (upT (b.getD 3 0) (a0.getD k.toNat 0))).getD 3 0) (a0.getD k.toNat 0) k]), ()))) := by
 have c1 : decide (k < (a0.length : Int)) = true := decide_eq_true hk.2
 have c2 : decide (k < 60) = true := decide_eq_true h60
 have c3 : decide (0 ≤ k ∧ k < (a0.length : Int)) = true := decide_eq_true hk
 have c4 : decide ((4 : Int) ≠ 0) = true := rfl
 have w0 : decide (((((IntKind.wrap .i64 ((a0).getD (k : Int).toNat (0 : Int))) : Int).tmod 4) : Int) = 0) = false := by rw [hw]; rfl
 have w1 : decide (((((IntKind.wrap .i64 ((a0).getD (k : Int).toNat (0 : Int))) : Int).tmod 4) : Int) = 1) = false := by rw [hw]; rfl
 have w2 : decide (((((IntKind.wrap .i64 ((a0).getD (k : Int).toNat (0 : Int))) : Int).tmod 4) : Int) = 2) = false := by rw [hw]; rfl
 have w3 : decide (((((IntKind.wrap .i64 ((a0).getD (k : Int).toNat (0 : Int))) : Int).tmod 4) : Int) = 3) = true := by rw [hw]; rfl
 have c5 : decide (0 ≤ (3 : Int) ∧ (3 : Int) < ((b.length : Nat) : Int)) = true := decide_eq_true (by omega)
 have c6 : decide ((3 : Int).toNat < b.length) = true := decide_eq_true (by rw [hb]; decide)
 have c7 : ∀ v, decide (0 ≤ (3 : Int) ∧ (3 : Int) < (((b.set (3 : Int).toNat v).length : Nat) : Int)) = true := fun v => decide_eq_true (by rw [List.length_set]; omega)
 have c8 : ∀ v, decide ((3 : Int).toNat < (b.set (3 : Int).toNat v).length) = true := fun v => decide_eq_true (by rw [List.length_set, hb]; decide)
 have c9 := qt_some' hk.1 h60
 unfold T9f4_4
 try delta uT9f4_4_21
 try delta uT9f4_4_20
 try delta uT9f4_4_19
 try delta uT9f4_4_18
 try delta uT9f4_4_17
 try delta uT9f4_4_16
 try delta uT9f4_4_15
 try delta uT9f4_4_14
 try delta uT9f4_4_13
 try delta uT9f4_4_12
 try delta uT9f4_4_11
 try delta uT9f4_4_10
 try delta uT9f4_4_9
 try delta uT9f4_4_8
 try delta uT9f4_4_7
 try delta uT9f4_4_6
 try delta uT9f4_4_5
 try delta uT9f4_4_4
 try delta uT9f4_4_3
 try delta uT9f4_4_2
 try delta uT9f4_4_1
 try delta uT9f4_4_0
 simp only [c1, c2, c3, c4, w0, w1, w2, w3, c5, c6, c7, c8, c9, cond_true, cond_false]
 unfold evX
 unfold kdX
 generalize hkd : (IntKind.wrap .u8 (1 + (((IntKind.wrap .u8 (IntKind.wrap .u16 ((a0.getD k.toNat 0).tdiv 64))) : Int).tmod 4))) = kd
 cases h1 : kd == 1 <;> cases h2 : kd == 2 <;> cases h3 : kd == 3 <;> exact condT (lim2 hq) rfl
theorem L9f4_4_run (a0 : List Int) (ha : U16s a0) : ∀ (d k : Nat) (b : List Int) (q0 q1 q2 q3 : List Ev), k + d = min a0.length 60 → b.length = 4 → FdOK 0 k q0 (b.getD 0 0) → FdOK 1 k q1 (b.getD 1 0) → FdOK 2 k q2 (b.getD 2 0) → FdOK 3 k q3 (b.getD 3 0) →
  ∃ (b' : List Int) (q0' q1' q2' q3' : List Ev), L9f4_4 a0 4 (k : Nat) b q0 q1 q2 q3 = some ((), (((), (), (), (), ()), (b', ()), ()), (q0', q1', q2', q3', ())) ∧ b'.length = 4 ∧ FdOK 0 60 q0' (b'.getD 0 0) ∧ FdOK 1 60 q1' (b'.getD 1 0) ∧ FdOK 2 60 q2' (b'.getD 2 0) ∧ FdOK 3 60 q3' (b'.getD 3 0) := by
 intro d
 induction d with
 | zero =>
  intro k b q0 q1 q2 q3 hk hb f0 f1 f2 f3
  rw [L9f4_4_eq]
  refine ⟨b, q0, q1, q2, q3, ?_, hb, f0.upto (by omega), f1.upto (by omega), f2.upto (by omega), f3.upto (by omega)⟩
  unfold T9f4_4
  by_cases h : (k : Int) < (a0.length : Int)
  ·rw [decide_eq_true h, show decide ((k : Int) < 60) = false from decide_eq_false (by omega)]; rfl
  ·rw [decide_eq_false h]; rfl
 | succ d ih =>
  intro k b q0 q1 q2 q3 hk hb f0 f1 f2 f3
  rw [L9f4_4_eq]
  have hx := ha.get k
  have hw' : (IntKind.wrap .i64 (a0.getD ((k : Nat) : Int).toNat 0)).tmod 4 = a0.getD k 0 % 4 := by
   rw [Int.toNat_natCast, w64 (by omega) (by omega), Int.tmod_eq_emod_of_nonneg hx.1]
  have hor : a0.getD k 0 % 4 = 0 ∨ a0.getD k 0 % 4 = 1 ∨ a0.getD k 0 % 4 = 2 ∨ a0.getD k 0 % 4 = 3 := by omega
  rcases hor with h0 | h1 | h2 | h3
  ·have hs := T9f4_4_s0 a0 (k : Nat) b q0 q1 q2 q3 ⟨by omega, by omega⟩ (by omega) hb (by have := f0.len; omega) (by rw [hw', h0])
   rw [hs]
   simp only [Option.bind_some, Sum.elim_inl]
   rw [gset_same (by omega), show IntKind.wrap .i64 ((k : Nat) + 1 : Int) = ((k + 1 : Nat) : Int) by rw [w64 (by omega) (by omega)]; rfl, Int.toNat_natCast]
   exact ih (k + 1) _ _ _ _ _ (by omega) (by rw [List.length_set]; exact hb) (by rw [gset_same (by omega)]; exact f0.add hx (by omega) ⟨by omega, by omega⟩) (by rw [gset (by decide)]; exact f1.keep) (by rw [gset (by decide)]; exact f2.keep) (by rw [gset (by decide)]; exact f3.keep)
  ·have hs := T9f4_4_s1 a0 (k : Nat) b q0 q1 q2 q3 ⟨by omega, by omega⟩ (by omega) hb (by have := f1.len; omega) (by rw [hw', h1])
   rw [hs]
   simp only [Option.bind_some, Sum.elim_inl]
   rw [gset_same (by omega), show IntKind.wrap .i64 ((k : Nat) + 1 : Int) = ((k + 1 : Nat) : Int) by rw [w64 (by omega) (by omega)]; rfl, Int.toNat_natCast]
   exact ih (k + 1) _ _ _ _ _ (by omega) (by rw [List.length_set]; exact hb) (by rw [gset (by decide)]; exact f0.keep) (by rw [gset_same (by omega)]; exact f1.add hx (by omega) ⟨by omega, by omega⟩) (by rw [gset (by decide)]; exact f2.keep) (by rw [gset (by decide)]; exact f3.keep)
  ·have hs := T9f4_4_s2 a0 (k : Nat) b q0 q1 q2 q3 ⟨by omega, by omega⟩ (by omega) hb (by have := f2.len; omega) (by rw [hw', h2])
   rw [hs]
   simp only [Option.bind_some, Sum.elim_inl]
   rw [gset_same (by omega), show IntKind.wrap .i64 ((k : Nat) + 1 : Int) = ((k + 1 : Nat) : Int) by rw [w64 (by omega) (by omega)]; rfl, Int.toNat_natCast]
   exact ih (k + 1) _ _ _ _ _ (by omega) (by rw [List.length_set]; exact hb) (by rw [gset (by decide)]; exact f0.keep) (by rw [gset (by decide)]; exact f1.keep) (by rw [gset_same (by omega)]; exact f2.add hx (by omega) ⟨by omega, by omega⟩) (by rw [gset (by decide)]; exact f3.keep)
  ·have hs := T9f4_4_s3 a0 (k : Nat) b q0 q1 q2 q3 ⟨by omega, by omega⟩ (by omega) hb (by have := f3.len; omega) (by rw [hw', h3])
   rw [hs]
   simp only [Option.bind_some, Sum.elim_inl]
   rw [gset_same (by omega), show IntKind.wrap .i64 ((k : Nat) + 1 : Int) = ((k + 1 : Nat) : Int) by rw [w64 (by omega) (by omega)]; rfl, Int.toNat_natCast]
   exact ih (k + 1) _ _ _ _ _ (by omega) (by rw [List.length_set]; exact hb) (by rw [gset (by decide)]; exact f0.keep) (by rw [gset (by decide)]; exact f1.keep) (by rw [gset (by decide)]; exact f2.keep) (by rw [gset_same (by omega)]; exact f3.add hx (by omega) ⟨by omega, by omega⟩)
theorem F9t4_feeds (a0 : List Int) (ha : U16s a0) : ∃ (b' : List Int) (q0' q1' q2' q3' : List Ev), F9t4 a0 = some (([q0', q1', q2', q3'], ()), (), ()) ∧ FdOK 0 60 q0' (b'.getD 0 0) ∧ FdOK 1 60 q1' (b'.getD 1 0) ∧ FdOK 2 60 q2' (b'.getD 2 0) ∧ FdOK 3 60 q3' (b'.getD 3 0) := by
 obtain ⟨b', q0', q1', q2', q3', h, _, hh⟩ := L9f4_4_run a0 ha (min a0.length 60) 0 (List.replicate 4 0) [] [] [] [] (by omega) (by simp) (FdOK.nil _) (FdOK.nil _) (FdOK.nil _) (FdOK.nil _)
 refine ⟨b', q0', q1', q2', q3', ?_, hh⟩
 unfold F9t4 F9f4
 have h' : L9f4_4 a0 4 0 (List.replicate (4 : Int).toNat 0) [] [] [] [] = _ := h
 rw [h']
 rfl
theorem T9f5_4_s0 (a0 : List Int) (k : Int) (b : List Int) (q0 q1 q2 q3 q4 : List Ev) (hk : 0 ≤ k ∧ k < a0.length) (h60 : k < 60) (hb : b.length = 5) (hq : q0.length < 1000000) (hw : (IntKind.wrap .i64 (a0.getD k.toNat 0)).tmod 5 = 0) :
  T9f5_4 a0 5 k b q0 q1 q2 q3 q4 = some (.inl ((a0, 5, (), (), IntKind.wrap .i64 (k + 1), ()), (((), (), (), (), (), ()), (b.set 0 (upT (b.getD 0 0) (a0.getD k.toNat 0)), ()), ()), ((q0 ++ [evX 0 q0.length ((b.set 0 (upT (b.getD 0 0) (a0.getD k.toNat 0))).getD 0 0) (a0.getD k.toNat 0) k]), q1, q2, q3, q4, ()))) := by
 have c1 : decide (k < (a0.length : Int)) = true := decide_eq_true hk.2
 have c2 : decide (k < 60) = true := decide_eq_true h60
 have c3 : decide (0 ≤ k ∧ k < (a0.length : Int)) = true := decide_eq_true hk
 have c4 : decide ((5 : Int) ≠ 0) = true := rfl
 have w0 : decide (((((IntKind.wrap .i64 ((a0).getD (k : Int).toNat (0 : Int))) : Int).tmod 5) : Int) = 0) = true := by rw [hw]; rfl
 have c5 : decide (0 ≤ (0 : Int) ∧ (0 : Int) < ((b.length : Nat) : Int)) = true := decide_eq_true (by omega)
 have c6 : decide ((0 : Int).toNat < b.length) = true := decide_eq_true (by rw [hb]; decide)
 have c7 : ∀ v, decide (0 ≤ (0 : Int) ∧ (0 : Int) < (((b.set (0 : Int).toNat v).length : Nat) : Int)) = true := fun v => decide_eq_true (by rw [List.length_set]; omega)
 have c8 : ∀ v, decide ((0 : Int).toNat < (b.set (0 : Int).toNat v).length) = true := fun v => decide_eq_true (by rw [List.length_set, hb]; decide)
 have c9 := qt_some' hk.1 h60
 unfold T9f5_4
 try delta uT9f5_4_26
 try delta uT9f5_4_25
 try delta uT9f5_4_24
 try delta uT9f5_4_23
 try delta uT9f5_4_22
 try delta uT9f5_4_21
 try delta uT9f5_4_20
 try delta uT9f5_4_19
 try delta uT9f5_4_18
 try delta uT9f5_4_17
 try delta uT9f5_4_16
 try delta uT9f5_4_15
 try delta uT9f5_4_14
 try delta uT9f5_4_13
 try delta uT9f5_4_12
 try delta uT9f5_4_11
 try delta uT9f5_4_10
 try delta uT9f5_4_9
 try delta uT9f5_4_8
 try delta uT9f5_4_7
 try delta uT9f5_4_6
 try delta uT9f5_4_5
 try delta uT9f5_4_4
 try delta uT9f5_4_3
 try delta uT9f5_4_2
 try delta uT9f5_4_1
 try delta uT9f5_4_0
 simp only [c1, c2, c3, c4, w0, c5, c6, c7, c8, c9, cond_true, cond_false]
 unfold evX
 unfold kdX
 generalize hkd : (IntKind.wrap .u8 (1 + (((IntKind.wrap .u8 (IntKind.wrap .u16 ((a0.getD k.toNat 0).tdiv 64))) : Int).tmod 4))) = kd
 cases h1 : kd == 1 <;> cases h2 : kd == 2 <;> cases h3 : kd == 3 <;> exact condT (lim2 hq) rfl
theorem T9f5_4_s1 (a0 : List Int) (k : Int) (b : List Int) (q0 q1 q2 q3 q4 : List Ev) (hk : 0 ≤ k ∧ k < a0.length) (h60 : k < 60) (hb : b.length = 5) (hq : q1.length < 1000000) (hw : (IntKind.wrap .i64 (a0.getD k.toNat 0)).tmod 5 = 1) :
  T9f5_4 a0 5 k b q0 q1 q2 q3 q4 = some (.inl ((a0, 5, (), (), IntKind.wrap .i64 (k + 1), ()), (((), (), (), (), (), ()), (b.set 1 (upT (b.getD 1 0) (a0.getD k.toNat 0)), ()), ()), (q0, (q1 ++ [evX 1 q1.length ((b.set 1 (upT (b.getD 1 0) (a0.getD k.toNat 0))).getD 1 0) (a0.getD k.toNat 0) k]), q2, q3, q4, ()))) := by
 have c1 : decide (k < (a0.length : Int)) = true := decide_eq_true hk.2
 have c2 : decide (k < 60) = true := decide_eq_true h60
 have c3 : decide (0 ≤ k ∧ k < (a0.length : Int)) = true := decide_eq_true hk
 have c4 : decide ((5 : Int) ≠ 0) = true := rfl
 have w0 : decide (((((IntKind.wrap .i64 ((a0).getD (k : Int).toNat (0 : Int))) : Int).tmod 5) : Int) = 0) = false := by rw [hw]; rfl
 have w1 : decide (((((IntKind.wrap .i64 ((a0).getD (k : Int).toNat (0 : Int))) : Int).tmod 5) : Int) = 1) = true := by rw [hw]; rfl
 have c5 : decide (0 ≤ (1 : Int) ∧ (1 : Int) < ((b.length : Nat) : Int)) = true := decide_eq_true (by omega)
 have c6 : decide ((1 : Int).toNat < b.length) = true := decide_eq_true (by rw [hb]; decide)
 have c7 : ∀ v, decide (0 ≤ (1 : Int) ∧ (1 : Int) < (((b.set (1 : Int).toNat v).length : Nat) : Int)) = true := fun v => decide_eq_true (by rw [List.length_set]; omega)
 have c8 : ∀ v, decide ((1 : Int).toNat < (b.set (1 : Int).toNat v).length) = true := fun v => decide_eq_true (by rw [List.length_set, hb]; decide)
 have c9 := qt_some' hk.1 h60
 unfold T9f5_4
 try delta uT9f5_4_26
 try delta uT9f5_4_25
 try delta uT9f5_4_24
 try delta uT9f5_4_23
 try delta uT9f5_4_22
 try delta uT9f5_4_21
 try delta uT9f5_4_20
 try delta uT9f5_4_19
 try delta uT9f5_4_18
 try delta uT9f5_4_17
 try delta uT9f5_4_16
 try delta uT9f5_4_15
 try delta uT9f5_4_14
 try delta uT9f5_4_13
 try delta uT9f5_4_12
 try delta uT9f5_4_11
 try delta uT9f5_4_10
 try delta uT9f5_4_9
 try delta uT9f5_4_8
 try delta uT9f5_4_7
 try delta uT9f5_4_6
 try delta uT9f5_4_5
 try delta uT9f5_4_4
 try delta uT9f5_4_3
 try delta uT9f5_4_2
 try delta uT9f5_4_1
 try delta uT9f5_4_0
 simp only [c1, c2, c3, c4, w0, w1, c5, c6, c7, c8, c9, cond_true, cond_false]
 unfold evX
 unfold kdX
 generalize hkd : (IntKind.wrap .u8 (1 + (((IntKind.wrap .u8 (IntKind.wrap .u16 ((a0.getD k.toNat 0).tdiv 64))) : Int).tmod 4))) = kd
 cases h1 : kd == 1 <;> cases h2 : kd == 2 <;> cases h3 : kd == 3 <;> exact condT (lim2 hq) rfl
theorem T9f5_4_s2 (a0 : List Int) (k : Int) (b : List Int) (q0 q1 q2 q3 q4 : List Ev) (hk : 0 ≤ k ∧ k < a0.length) (h60 : k < 60) (hb : b.length = 5) (hq : q2.length < 1000000) (hw : (IntKind.wrap .i64 (a0.getD k.toNat 0)).tmod 5 = 2) :
  T9f5_4 a0 5 k b q0 q1 q2 q3 q4 = some (.inl ((a0, 5, (), (), IntKind.wrap .i64 (k + 1), ()), (((), (), (), (), (), ()), (b.set 2 (upT (b.getD 2 0) (a0.getD k.toNat 0)), ()), ()), (q0, q1, (q2 ++ [evX 2 q2.length ((b.set 2 (upT (b.getD 2 0) (a0.getD k.toNat 0))).getD 2 0) (a0.getD k.toNat 0) k]), q3, q4, ()))) := by
 have c1 : decide (k < (a0.length : Int)) = true := decide_eq_true hk.2
 have c2 : decide (k < 60) = true := decide_eq_true h60
 have c3 : decide (0 ≤ k ∧ k < (a0.length : Int)) = true := decide_eq_true hk
 have c4 : decide ((5 : Int) ≠ 0) = true := rfl
 have w0 : decide (((((IntKind.wrap .i64 ((a0).getD (k : Int).toNat (0 : Int))) : Int).tmod 5) : Int) = 0) = false := by rw [hw]; rfl
 have w1 : decide (((((IntKind.wrap .i64 ((a0).getD (k : Int).toNat (0 : Int))) : Int).tmod 5) : Int) = 1) = false := by rw [hw]; rfl
 have w2 : decide (((((IntKind.wrap .i64 ((a0).getD (k : Int).toNat (0 : Int))) : Int).tmod 5) : Int) = 2) = true := by rw [hw]; rfl
 have c5 : decide (0 ≤ (2 : Int) ∧ (2 : Int) < ((b.length : Nat) : Int)) = true := decide_eq_true (by omega)
 have c6 : decide ((2 : Int).toNat < b.length) = true := decide_eq_true (by rw [hb]; decide)
 have c7 : ∀ v, decide (0 ≤ (2 : Int) ∧ (2 : Int) < (((b.set (2 : Int).toNat v).length : Nat) : Int)) = true := fun v => decide_eq_true (by rw [List.length_set]; omega)
 have c8 : ∀ v, decide ((2 : Int).toNat < (b.set (2 : Int).toNat v).length) = true := fun v => decide_eq_true (by rw [List.length_set, hb]; decide)
 have c9 := qt_some' hk.1 h60
 unfold T9f5_4
 try delta uT9f5_4_26
 try delta uT9f5_4_25
 try delta uT9f5_4_24
 try delta uT9f5_4_23
 try delta uT9f5_4_22
 try delta uT9f5_4_21
 try delta uT9f5_4_20
 try delta uT9f5_4_19
 try delta uT9f5_4_18
 try delta uT9f5_4_17
 try delta uT9f5_4_16
 try delta uT9f5_4_15
 try delta uT9f5_4_14
 try delta uT9f5_4_13
 try delta uT9f5_4_12
 try delta uT9f5_4_11
 try delta uT9f5_4_10
 try delta uT9f5_4_9
 try delta uT9f5_4_8
 try delta uT9f5_4_7
 try delta uT9f5_4_6
 try delta uT9f5_4_5
 try delta uT9f5_4_4
 try delta uT9f5_4_3
 try delta uT9f5_4_2
 try delta uT9f5_4_1
 try delta uT9f5_4_0
 simp only [c1, c2, c3, c4, w0, w1, w2, c5, c6, c7, c8, c9, cond_true, cond_false]
 unfold evX
 unfold kdX
 generalize hkd : (IntKind.wrap .u8 (1 + (((IntKind.wrap .u8 (IntKind.wrap .u16 ((a0.getD k.toNat 0).tdiv 64))) : Int).tmod 4))) = kd
 cases h1 : kd == 1 <;> cases h2 : kd == 2 <;> cases h3 : kd == 3 <;> exact condT (lim2 hq) rfl
theorem T9f5_4_s3 (a0 : List Int) (k : Int) (b : List Int) (q0 q1 q2 q3 q4 : List Ev) (hk : 0 ≤ k ∧ k < a0.length) (h60 : k < 60) (hb : b.length = 5) (hq : q3.length < 1000000) (hw : (IntKind.wrap .i64 (a0.getD k.toNat 0)).tmod 5 = 3) :
  T9f5_4 a0 5 k b q0 q1 q2 q3 q4 = some (.inl ((a0, 5, (), (), IntKind.wrap .i64 (k + 1), ()), (((), (), (), (), (), ()), (b.set 3 (upT (b.getD 3 0) (a0.getD k.toNat 0)), ()), ()), (q0, q1, q2, (q3 ++ [evX 3 q3.length ((b.set 3 (upT (b.getD 3 0) (a0.getD k.toNat 0))).getD 3 0) (a0.getD k.toNat 0) k]), q4, ()))) := by
 have c1 : decide (k < (a0.length : Int)) = true := decide_eq_true hk.2
 have c2 : decide (k < 60) = true := decide_eq_true h60
 have c3 : decide (0 ≤ k ∧ k < (a0.length : Int)) = true := decide_eq_true hk
 have c4 : decide ((5 : Int) ≠ 0) = true := rfl
 have w0 : decide (((((IntKind.wrap .i64 ((a0).getD (k : Int).toNat (0 : Int))) : Int).tmod 5) : Int) = 0) = false := by rw [hw]; rfl
 have w1 : decide (((((IntKind.wrap .i64 ((a0).getD (k : Int).toNat (0 : Int))) : Int).tmod 5) : Int) = 1) = false := by rw [hw]; rfl
 have w2 : decide (((((IntKind.wrap .i64 ((a0).getD (k : Int).toNat (0 : Int))) : Int).tmod 5) : Int) = 2) = false := by rw [hw]; rfl
 have w3 : decide (((((IntKind.wrap .i64 ((a0).getD (k : Int).toNat (0 : Int))) : Int).tmod 5) : Int) = 3) = true := by rw [hw]; rfl
 have c5 : decide (0 ≤ (3 : Int) ∧ (3 : Int) < ((b.length : Nat) : Int)) = true := decide_eq_true (by omega)
 have c6 : decide ((3 : Int).toNat < b.length) = true := decide_eq_true (by rw [hb]; decide)
 have c7 : ∀ v, decide (0 ≤ (3 : Int) ∧ (3 : Int) < (((b.set (3 : Int).toNat v).length : Nat) : Int)) = true := fun v => decide_eq_true (by rw [List.length_set]; omega)
 have c8 : ∀ v, decide ((3 : Int).toNat < (b.set (3 : Int).toNat v).length) = true := fun v => decide_eq_true (by rw [List.length_set, hb]; decide)
 have c9 := qt_some' hk.1 h60
 unfold T9f5_4
 try delta uT9f5_4_26
 try delta uT9f5_4_25
 try delta uT9f5_4_24
 try delta uT9f5_4_23
 try delta uT9f5_4_22
 try delta uT9f5_4_21
 try delta uT9f5_4_20
 try delta uT9f5_4_19
 try delta uT9f5_4_18
 try delta uT9f5_4_17
 try delta uT9f5_4_16
 try delta uT9f5_4_15
 try delta uT9f5_4_14
 try delta uT9f5_4_13
 try delta uT9f5_4_12
 try delta uT9f5_4_11
 try delta uT9f5_4_10
 try delta uT9f5_4_9
 try delta uT9f5_4_8
 try delta uT9f5_4_7
 try delta uT9f5_4_6
 try delta uT9f5_4_5
 try delta uT9f5_4_4
 try delta uT9f5_4_3
 try delta uT9f5_4_2
 try delta uT9f5_4_1
 try delta uT9f5_4_0
 simp only [c1, c2, c3, c4, w0, w1, w2, w3, c5, c6, c7, c8, c9, cond_true, cond_false]
 unfold evX
 unfold kdX
 generalize hkd : (IntKind.wrap .u8 (1 + (((IntKind.wrap .u8 (IntKind.wrap .u16 ((a0.getD k.toNat 0).tdiv 64))) : Int).tmod 4))) = kd
 cases h1 : kd == 1 <;> cases h2 : kd == 2 <;> cases h3 : kd == 3 <;> exact condT (lim2 hq) rfl
theorem T9f5_4_s4 (a0 : List Int) (k : Int) (b : List Int) (q0 q1 q2 q3 q4 : List Ev) (hk : 0 ≤ k ∧ k < a0.length) (h60 : k < 60) (hb : b.length = 5) (hq : q4.length < 1000000) (hw : (IntKind.wrap .i64 (a0.getD k.toNat 0)).tmod 5 = 4) :
  T9f5_4 a0 5 k b q0 q1 q2 q3 q4 = some (.inl ((a0, 5, (), (), IntKind.wrap .i64 (k + 1), ()), (((), (), (), (), (), ()), (b.set 4 (upT (b.getD 4 0) (a0.getD k.toNat 0)), ()), ()), (q0, q1, q2, q3, (q4 ++ [evX 4 q4.length ((b.set 4 (upT (b.getD 4 0) (a0.getD k.toNat 0))).getD 4 0) (a0.getD k.toNat 0) k]), ()))) := by
 have c1 : decide (k < (a0.length : Int)) = true := decide_eq_true hk.2
 have c2 : decide (k < 60) = true := decide_eq_true h60
 have c3 : decide (0 ≤ k ∧ k < (a0.length : Int)) = true := decide_eq_true hk
 have c4 : decide ((5 : Int) ≠ 0) = true := rfl
 have w0 : decide (((((IntKind.wrap .i64 ((a0).getD (k : Int).toNat (0 : Int))) : Int).tmod 5) : Int) = 0) = false := by rw [hw]; rfl
 have w1 : decide (((((IntKind.wrap .i64 ((a0).getD (k : Int).toNat (0 : Int))) : Int).tmod 5) : Int) = 1) = false := by rw [hw]; rfl
 have w2 : decide (((((IntKind.wrap .i64 ((a0).getD (k : Int).toNat (0 : Int))) : Int).tmod 5) : Int) = 2) = false := by rw [hw]; rfl
 have w3 : decide (((((IntKind.wrap .i64 ((a0).getD (k : Int).toNat (0 : Int))) : Int).tmod 5) : Int) = 3) = false := by rw [hw]; rfl
 have w4 : decide (((((IntKind.wrap .i64 ((a0).getD (k : Int).toNat (0 : Int))) : Int).tmod 5) : Int) = 4) = true := by rw [hw]; rfl
 have c5 : decide (0 ≤ (4 : Int) ∧ (4 : Int) < ((b.length : Nat) : Int)) = true := decide_eq_true (by omega)
 have c6 : decide ((4 : Int).toNat < b.length) = true := decide_eq_true (by rw [hb]; decide)
 have c7 : ∀ v, decide (0 ≤ (4 : Int) ∧ (4 : Int) < (((b.set (4 : Int).toNat v).length : Nat) : Int)) = true := fun v => decide_eq_true (by rw [List.length_set]; omega)
 have c8 : ∀ v, decide ((4 : Int).toNat < (b.set (4 : Int).toNat v).length) = true := fun v => decide_eq_true (by rw [List.length_set, hb]; decide)
 have c9 := qt_some' hk.1 h60
 unfold T9f5_4
 try delta uT9f5_4_26
 try delta uT9f5_4_25
 try delta uT9f5_4_24
 try delta uT9f5_4_23
 try delta uT9f5_4_22
 try delta uT9f5_4_21
 try delta uT9f5_4_20
 try delta uT9f5_4_19
 try delta uT9f5_4_18
 try delta uT9f5_4_17
 try delta uT9f5_4_16
 try delta uT9f5_4_15
 try delta uT9f5_4_14
 try delta uT9f5_4_13
 try delta uT9f5_4_12
 try delta uT9f5_4_11
 try delta uT9f5_4_10
 try delta uT9f5_4_9
 try delta uT9f5_4_8
 try delta uT9f5_4_7
 try delta uT9f5_4_6
 try delta uT9f5_4_5
 try delta uT9f5_4_4
 try delta uT9f5_4_3
 try delta uT9f5_4_2
 try delta uT9f5_4_1
 try delta uT9f5_4_0
 simp only [c1, c2, c3, c4, w0, w1, w2, w3, w4, c5, c6, c7, c8, c9, cond_true, cond_false]
 unfold evX
 unfold kdX
 generalize hkd : (IntKind.wrap .u8 (1 + (((IntKind.wrap .u8 (IntKind.wrap .u16 ((a0.getD k.toNat 0).tdiv 64))) : Int).tmod 4))) = kd
 cases h1 : kd == 1 <;> cases h2 : kd == 2 <;> cases h3 : kd == 3 <;> exact condT (lim2 hq) rfl
theorem L9f5_4_run (a0 : List Int) (ha : U16s a0) : ∀ (d k : Nat) (b : List Int) (q0 q1 q2 q3 q4 : List Ev), k + d = min a0.length 60 → b.length = 5 → FdOK 0 k q0 (b.getD 0 0) → FdOK 1 k q1 (b.getD 1 0) → FdOK 2 k q2 (b.getD 2 0) → FdOK 3 k q3 (b.getD 3 0) → FdOK 4 k q4 (b.getD 4 0) →
  ∃ (b' : List Int) (q0' q1' q2' q3' q4' : List Ev), L9f5_4 a0 5 (k : Nat) b q0 q1 q2 q3 q4 = some ((), (((), (), (), (), (), ()), (b', ()), ()), (q0', q1', q2', q3', q4', ())) ∧ b'.length = 5 ∧ FdOK 0 60 q0' (b'.getD 0 0) ∧ FdOK 1 60 q1' (b'.getD 1 0) ∧ FdOK 2 60 q2' (b'.getD 2 0) ∧ FdOK 3 60 q3' (b'.getD 3 0) ∧ FdOK 4 60 q4' (b'.getD 4 0) := by
 intro d
 induction d with
 | zero =>
  intro k b q0 q1 q2 q3 q4 hk hb f0 f1 f2 f3 f4
  rw [L9f5_4_eq]
  refine ⟨b, q0, q1, q2, q3, q4, ?_, hb, f0.upto (by omega), f1.upto (by omega), f2.upto (by omega), f3.upto (by omega), f4.upto (by omega)⟩
  unfold T9f5_4
  by_cases h : (k : Int) < (a0.length : Int)
  ·rw [decide_eq_true h, show decide ((k : Int) < 60) = false from decide_eq_false (by omega)]; rfl
  ·rw [decide_eq_false h]; rfl
 | succ d ih =>
  intro k b q0 q1 q2 q3 q4 hk hb f0 f1 f2 f3 f4
  rw [L9f5_4_eq]
  have hx := ha.get k
  have hw' : (IntKind.wrap .i64 (a0.getD ((k : Nat) : Int).toNat 0)).tmod 5 = a0.getD k 0 % 5 := by
   rw [Int.toNat_natCast, w64 (by omega) (by omega), Int.tmod_eq_emod_of_nonneg hx.1]
  have hor : a0.getD k 0 % 5 = 0 ∨ a0.getD k 0 % 5 = 1 ∨ a0.getD k 0 % 5 = 2 ∨ a0.getD k 0 % 5 = 3 ∨ a0.getD k 0 % 5 = 4 := by omega
  rcases hor with h0 | h1 | h2 | h3 | h4
  ·have hs := T9f5_4_s0 a0 (k : Nat) b q0 q1 q2 q3 q4 ⟨by omega, by omega⟩ (by omega) hb (by have := f0.len; omega) (by rw [hw', h0])
   rw [hs]
   simp only [Option.bind_some, Sum.elim_inl]
   rw [gset_same (by omega), show IntKind.wrap .i64 ((k : Nat) + 1 : Int) = ((k + 1 : Nat) : Int) by rw [w64 (by omega) (by omega)]; rfl, Int.toNat_natCast]
   exact ih (k + 1) _ _ _ _ _ _ (by omega) (by rw [List.length_set]; exact hb) (by rw [gset_same (by omega)]; exact f0.add hx (by omega) ⟨by omega, by omega⟩) (by rw [gset (by decide)]; exact f1.keep) (by rw [gset (by decide)]; exact f2.keep) (by rw [gset (by decide)]; exact f3.keep) (by rw [gset (by decide)]; exact f4.keep)
  ·have hs := T9f5_4_s1 a0 (k : Nat) b q0 q1 q2 q3 q4 ⟨by omega, by omega⟩ (by omega) hb (by have := f1.len; omega) (by rw [hw', h1])
   rw [hs]
   simp only [Option.bind_some, Sum.elim_inl]
   rw [gset_same (by omega), show IntKind.wrap .i64 ((k : Nat) + 1 : Int) = ((k + 1 : Nat) : Int) by rw [w64 (by omega) (by omega)]; rfl, Int.toNat_natCast]
   exact ih (k + 1) _ _ _ _ _ _ (by omega) (by rw [List.length_set]; exact hb) (by rw [gset (by decide)]; exact f0.keep) (by rw [gset_same (by omega)]; exact f1.add hx (by omega) ⟨by omega, by omega⟩) (by rw [gset (by decide)]; exact f2.keep) (by rw [gset (by decide)]; exact f3.keep) (by rw [gset (by decide)]; exact f4.keep)
  ·have hs := T9f5_4_s2 a0 (k : Nat) b q0 q1 q2 q3 q4 ⟨by omega, by omega⟩ (by omega) hb (by have := f2.len; omega) (by rw [hw', h2])
   rw [hs]
   simp only [Option.bind_some, Sum.elim_inl]
   rw [gset_same (by omega), show IntKind.wrap .i64 ((k : Nat) + 1 : Int) = ((k + 1 : Nat) : Int) by rw [w64 (by omega) (by omega)]; rfl, Int.toNat_natCast]
   exact ih (k + 1) _ _ _ _ _ _ (by omega) (by rw [List.length_set]; exact hb) (by rw [gset (by decide)]; exact f0.keep) (by rw [gset (by decide)]; exact f1.keep) (by rw [gset_same (by omega)]; exact f2.add hx (by omega) ⟨by omega, by omega⟩) (by rw [gset (by decide)]; exact f3.keep) (by rw [gset (by decide)]; exact f4.keep)
  ·have hs := T9f5_4_s3 a0 (k : Nat) b q0 q1 q2 q3 q4 ⟨by omega, by omega⟩ (by omega) hb (by have := f3.len; omega) (by rw [hw', h3])
   rw [hs]
   simp only [Option.bind_some, Sum.elim_inl]
   rw [gset_same (by omega), show IntKind.wrap .i64 ((k : Nat) + 1 : Int) = ((k + 1 : Nat) : Int) by rw [w64 (by omega) (by omega)]; rfl, Int.toNat_natCast]
   exact ih (k + 1) _ _ _ _ _ _ (by omega) (by rw [List.length_set]; exact hb) (by rw [gset (by decide)]; exact f0.keep) (by rw [gset (by decide)]; exact f1.keep) (by rw [gset (by decide)]; exact f2.keep) (by rw [gset_same (by omega)]; exact f3.add hx (by omega) ⟨by omega, by omega⟩) (by rw [gset (by decide)]; exact f4.keep)
  ·have hs := T9f5_4_s4 a0 (k : Nat) b q0 q1 q2 q3 q4 ⟨by omega, by omega⟩ (by omega) hb (by have := f4.len; omega) (by rw [hw', h4])
   rw [hs]
   simp only [Option.bind_some, Sum.elim_inl]
   rw [gset_same (by omega), show IntKind.wrap .i64 ((k : Nat) + 1 : Int) = ((k + 1 : Nat) : Int) by rw [w64 (by omega) (by omega)]; rfl, Int.toNat_natCast]
   exact ih (k + 1) _ _ _ _ _ _ (by omega) (by rw [List.length_set]; exact hb) (by rw [gset (by decide)]; exact f0.keep) (by rw [gset (by decide)]; exact f1.keep) (by rw [gset (by decide)]; exact f2.keep) (by rw [gset (by decide)]; exact f3.keep) (by rw [gset_same (by omega)]; exact f4.add hx (by omega) ⟨by omega, by omega⟩)
theorem F9t5_feeds (a0 : List Int) (ha : U16s a0) : ∃ (b' : List Int) (q0' q1' q2' q3' q4' : List Ev), F9t5 a0 = some (([q0', q1', q2', q3', q4'], ()), (), ()) ∧ FdOK 0 60 q0' (b'.getD 0 0) ∧ FdOK 1 60 q1' (b'.getD 1 0) ∧ FdOK 2 60 q2' (b'.getD 2 0) ∧ FdOK 3 60 q3' (b'.getD 3 0) ∧ FdOK 4 60 q4' (b'.getD 4 0) := by
 obtain ⟨b', q0', q1', q2', q3', q4', h, _, hh⟩ := L9f5_4_run a0 ha (min a0.length 60) 0 (List.replicate 5 0) [] [] [] [] [] (by omega) (by simp) (FdOK.nil _) (FdOK.nil _) (FdOK.nil _) (FdOK.nil _) (FdOK.nil _)
 refine ⟨b', q0', q1', q2', q3', q4', ?_, hh⟩
 unfold F9t5 F9f5
 have h' : L9f5_4 a0 5 0 (List.replicate (5 : Int).toNat 0) [] [] [] [] [] = _ := h
 rw [h']
 rfl
theorem T9f6_4_s0 (a0 : List Int) (k : Int) (b : List Int) (q0 q1 q2 q3 q4 q5 : List Ev) (hk : 0 ≤ k ∧ k < a0.length) (h60 : k < 60) (hb : b.length = 6) (hq : q0.length < 1000000) (hw : (IntKind.wrap .i64 (a0.getD k.toNat 0)).tmod 6 = 0) :
  T9f6_4 a0 6 k b q0 q1 q2 q3 q4 q5 = some (.inl ((a0, 6, (), (), IntKind.wrap .i64 (k + 1), ()), (((), (), (), (), (), (), ()), (b.set 0 (upT (b.getD 0 0) (a0.getD k.toNat 0)), ()), ()), ((q0 ++ [evX 0 q0.length ((b.set 0 (upT (b.getD 0 0) (a0.getD k.toNat 0))).getD 0 0) (a0.getD k.toNat 0) k]), q1, q2, q3, q4, q5, ()))) := by
 have c1 : decide (k < (a0.length : Int)) = true := decide_eq_true hk.2
 have c2 : decide (k < 60) = true := decide_eq_true h60
 have c3 : decide (0 ≤ k ∧ k < (a0.length : Int)) = true := decide_eq_true hk
 have c4 : decide ((6 : Int) ≠ 0) = true := rfl
 have w0 : decide (((((IntKind.wrap .i64 ((a0).getD (k : Int).toNat (0 : Int))) : Int).tmod 6) : Int) = 0) = true := by rw [hw]; rfl
 have c5 : decide (0 ≤ (0 : Int) ∧ (0 : Int) < ((b.length : Nat) : Int)) = true := decide_eq_true (by omega)
 have c6 : decide ((0 : Int).toNat < b.length) = true := decide_eq_true (by rw [hb]; decide)
 have c7 : ∀ v, decide (0 ≤ (0 : Int) ∧ (0 : Int) < (((b.set (0 : Int).toNat v).length : Nat) : Int)) = true := fun v => decide_eq_true (by rw [List.length_set]; omega)
 have c8 : ∀ v, decide ((0 : Int).toNat < (b.set (0 : Int).toNat v).length) = true := fun v => decide_eq_true (by rw [List.length_set, hb]; decide)
 have c9 := qt_some' hk.1 h60
 unfold T9f6_4
 try delta uT9f6_4_31
 try delta uT9f6_4_30
 try delta uT9f6_4_29
 try delta uT9f6_4_28
 try delta uT9f6_4_27
 try delta uT9f6_4_26
 try delta uT9f6_4_25
 try delta uT9f6_4_24
 try delta uT9f6_4_23
 try delta uT9f6_4_22
 try delta uT9f6_4_21
 try delta uT9f6_4_20
 try delta uT9f6_4_19
 try delta uT9f6_4_18
 try delta uT9f6_4_17
 try delta uT9f6_4_16
 try delta uT9f6_4_15
 try delta uT9f6_4_14
 try delta uT9f6_4_13
 try delta uT9f6_4_12
 try delta uT9f6_4_11
 try delta uT9f6_4_10
 try delta uT9f6_4_9
 try delta uT9f6_4_8
 try delta uT9f6_4_7
 try delta uT9f6_4_6
 try delta uT9f6_4_5
 try delta uT9f6_4_4
 try delta uT9f6_4_3
 try delta uT9f6_4_2
 try delta uT9f6_4_1
 try delta uT9f6_4_0
 simp only [c1, c2, c3, c4, w0, c5, c6, c7, c8, c9, cond_true, cond_false]
 unfold evX
 unfold kdX
 generalize hkd : (IntKind.wrap .u8 (1 + (((IntKind.wrap .u8 (IntKind.wrap .u16 ((a0.getD k.toNat 0).tdiv 64))) : Int).tmod 4))) = kd
 cases h1 : kd == 1 <;> cases h2 : kd == 2 <;> cases h3 : kd == 3 <;> exact condT (lim2 hq) rfl
theorem T9f6_4_s1 (a0 : List Int) (k : Int) (b : List Int) (q0 q1 q2 q3 q4 q5 : List Ev) (hk : 0 ≤ k ∧ k < a0.length) (h60 : k < 60) (hb : b.length = 6) (hq : q1.length < 1000000) (hw : (IntKind.wrap .i64 (a0.getD k.toNat 0)).tmod 6 = 1) :
  T9f6_4 a0 6 k b q0 q1 q2 q3 q4 q5 = some (.inl ((a0, 6, (), (), IntKind.wrap .i64 (k + 1), ()), (((), (), (), (), (), (), ()), (b.set 1 (upT (b.getD 1 0) (a0.getD k.toNat 0)), ()), ()), (q0, (q1 ++ [evX 1 q1.length ((b.set 1 (upT (b.getD 1 0) (a0.getD k.toNat 0))).getD 1 0) (a0.getD k.toNat 0) k]), q2, q3, q4, q5, ()))) := by
 have c1 : decide (k < (a0.length : Int)) = true := decide_eq_true hk.2
 have c2 : decide (k < 60) = true := decide_eq_true h60
 have c3 : decide (0 ≤ k ∧ k < (a0.length : Int)) = true := decide_eq_true hk
 have c4 : decide ((6 : Int) ≠ 0) = true := rfl
 have w0 : decide (((((IntKind.wrap .i64 ((a0).getD (k : Int).toNat (0 : Int))) : Int).tmod 6) : Int) = 0) = false := by rw [hw]; rfl
 have w1 : decide (((((IntKind.wrap .i64 ((a0).getD (k : Int).toNat (0 : Int))) : Int).tmod 6) : Int) = 1) = true := by rw [hw]; rfl
 have c5 : decide (0 ≤ (1 : Int) ∧ (1 : Int) < ((b.length : Nat) : Int)) = true := decide_eq_true (by omega)
 have c6 : decide ((1 : Int).toNat < b.length) = true := decide_eq_true (by rw [hb]; decide)
 have c7 : ∀ v, decide (0 ≤ (1 : Int) ∧ (1 : Int) < (((b.set (1 : Int).toNat v).length : Nat) : Int)) = true := fun v => decide_eq_true (by rw [List.length_set]; omega)
 have c8 : ∀ v, decide ((1 : Int).toNat < (b.set (1 : Int).toNat v).length) = true := fun v => decide_eq_true (by rw [List.length_set, hb]; decide)
 have c9 := qt_some' hk.1 h60
 unfold T9f6_4
 try delta uT9f6_4_31
 try delta uT9f6_4_30
 try delta uT9f6_4_29
 try delta uT9f6_4_28
 try delta uT9f6_4_27
 try delta uT9f6_4_26
 try delta uT9f6_4_25
 try delta uT9f6_4_24
 try delta uT9f6_4_23
 try delta uT9f6_4_22
 try delta uT9f6_4_21
 try delta uT9f6_4_20
 try delta uT9f6_4_19
 try delta uT9f6_4_18
 try delta uT9f6_4_17
 try delta uT9f6_4_16
 try delta uT9f6_4_15
 try delta uT9f6_4_14
 try delta uT9f6_4_13
 try delta uT9f6_4_12
 try delta uT9f6_4_11
 try delta uT9f6_4_10
 try delta uT9f6_4_9
 try delta uT9f6_4_8
 try delta uT9f6_4_7
 try delta uT9f6_4_6
 try delta uT9f6_4_5
 try delta uT9f6_4_4
 try delta uT9f6_4_3
 try delta uT9f6_4_2
 try delta uT9f6_4_1
 try delta uT9f6_4_0
 simp only [c1, c2, c3, c4, w0, w1, c5, c6, c7, c8, c9, cond_true, cond_false]
 unfold evX
 unfold kdX
 generalize hkd : (IntKind.wrap .u8 (1 + (((IntKind.wrap .u8 (IntKind.wrap .u16 ((a0.getD k.toNat 0).tdiv 64))) : Int).tmod 4))) = kd
 cases h1 : kd == 1 <;> cases h2 : kd == 2 <;> cases h3 : kd == 3 <;> exact condT (lim2 hq) rfl
theorem T9f6_4_s2 (a0 : List Int) (k : Int) (b : List Int) (q0 q1 q2 q3 q4 q5 : List Ev) (hk : 0 ≤ k ∧ k < a0.length) (h60 : k < 60) (hb : b.length = 6) (hq : q2.length < 1000000) (hw : (IntKind.wrap .i64 (a0.getD k.toNat 0)).tmod 6 = 2) :
  T9f6_4 a0 6 k b q0 q1 q2 q3 q4 q5 = some (.inl ((a0, 6, (), (), IntKind.wrap .i64 (k + 1), ()), (((), (), (), (), (), (), ()), (b.set 2 (upT (b.getD 2 0) (a0.getD k.toNat 0)), ()), ()), (q0, q1, (q2 ++ [evX 2 q2.length ((b.set 2 (upT (b.getD 2 0) (a0.getD k.toNat 0))).getD 2 0) (a0.getD k.toNat 0) k]), q3, q4, q5, ()))) := by
 have c1 : decide (k < (a0.length : Int)) = true := decide_eq_true hk.2
 have c2 : decide (k < 60) = true := decide_eq_true h60
 have c3 : decide (0 ≤ k ∧ k < (a0.length : Int)) = true := decide_eq_true hk
 have c4 : decide ((6 : Int) ≠ 0) = true := rfl
 have w0 : decide (((((IntKind.wrap .i64 ((a0).getD (k : Int).toNat (0 : Int))) : Int).tmod 6) : Int) = 0) = false := by rw [hw]; rfl
 have w1 : decide (((((IntKind.wrap .i64 ((a0).getD (k : Int).toNat (0 : Int))) : Int).tmod 6) : Int) = 1) = false := by rw [hw]; rfl
 have w2 : decide (((((IntKind.wrap .i64 ((a0).getD (k : Int).toNat (0 : Int))) : Int).tmod 6) : Int) = 2) = true := by rw [hw]; rfl
 have c5 : decide (0 ≤ (2 : Int) ∧ (2 : Int) < ((b.length : Nat) : Int)) = true := decide_eq_true (by omega)
 have c6 : decide ((2 : Int).toNat < b.length) = true := decide_eq_true (by rw [hb]; decide)
 have c7 : ∀ v, decide (0 ≤ (2 : Int) ∧ (2 : Int) < (((b.set (2 : Int).toNat v).length : Nat) : Int)) = true := fun v => decide_eq_true (by rw [List.length_set]; omega)
 have c8 : ∀ v, decide ((2 : Int).toNat < (b.set (2 : Int).toNat v).length) = true := fun v => decide_eq_true (by rw [List.length_set, hb]; decide)
 have c9 := qt_some' hk.1 h60
 unfold T9f6_4
 try delta uT9f6_4_31
 try delta uT9f6_4_30
 try delta uT9f6_4_29
 try delta uT9f6_4_28
 try delta uT9f6_4_27
 try delta uT9f6_4_26
 try delta uT9f6_4_25
 try delta uT9f6_4_24
 try delta uT9f6_4_23
 try delta uT9f6_4_22
 try delta uT9f6_4_21
 try delta uT9f6_4_20
 try delta uT9f6_4_19
 try delta uT9f6_4_18
 try delta uT9f6_4_17
 try delta uT9f6_4_16
 try delta uT9f6_4_15
 try delta uT9f6_4_14
 try delta uT9f6_4_13
 try delta uT9f6_4_12
 try delta uT9f6_4_11
 try delta uT9f6_4_10
 try delta uT9f6_4_9
 try delta uT9f6_4_8
 try delta uT9f6_4_7
 try delta uT9f6_4_6
 try delta uT9f6_4_5
 try delta uT9f6_4_4
 try delta uT9f6_4_3
 try delta uT9f6_4_2
 try delta uT9f6_4_1
 try delta uT9f6_4_0
 simp only [c1, c2, c3, c4, w0, w1, w2, c5, c6, c7, c8, c9, cond_true, cond_false]
 unfold evX
 unfold kdX
 generalize hkd : (IntKind.wrap .u8 (1 + (((IntKind.wrap .u8 (IntKind.wrap .u16 ((a0.getD k.toNat 0).tdiv 64))) : Int).tmod 4))) = kd
 cases h1 : kd == 1 <;> cases h2 : kd == 2 <;> cases h3 : kd == 3 <;> exact condT (lim2 hq) rfl
theorem T9f6_4_s3 (a0 : List Int) (k : Int) (b : List Int) (q0 q1 q2 q3 q4 q5 : List Ev) (hk : 0 ≤ k ∧ k < a0.length) (h60 : k < 60) (hb : b.length = 6) (hq : q3.length < 1000000) (hw : (IntKind.wrap .i64 (a0.getD k.toNat 0)).tmod 6 = 3) :
  T9f6_4 a0 6 k b q0 q1 q2 q3 q4 q5 = some (.inl ((a0, 6, (), (), IntKind.wrap .i64 (k + 1), ()), (((), (), (), (), (), (), ()), (b.set 3 (upT (b.getD 3 0) (a0.getD k.toNat 0)), ()), ()), (q0, q1, q2, (q3 ++ [evX 3 q3.length ((b.set 3 (upT (b.getD 3 0) (a0.getD k.toNat 0))).getD 3 0) (a0.getD k.toNat 0) k]), q4, q5, ()))) := by
 have c1 : decide (k < (a0.length : Int)) = true := decide_eq_true hk.2
 have c2 : decide (k < 60) = true := decide_eq_true h60
 have c3 : decide (0 ≤ k ∧ k < (a0.length : Int)) = true := decide_eq_true hk
 have c4 : decide ((6 : Int) ≠ 0) = true := rfl
 have w0 : decide (((((IntKind.wrap .i64 ((a0).getD (k : Int).toNat (0 : Int))) : Int).tmod 6) : Int) = 0) = false := by rw [hw]; rfl
 have w1 : decide (((((IntKind.wrap .i64 ((a0).getD (k : Int).toNat (0 : Int))) : Int).tmod 6) : Int) = 1) = false := by rw [hw]; rfl
 have w2 : decide (((((IntKind.wrap .i64 ((a0).getD (k : Int).toNat (0 : Int))) : Int).tmod 6) : Int) = 2) = false := by rw [hw]; rfl
 have w3 : decide (((((IntKind.wrap .i64 ((a0).getD (k : Int).toNat (0 : Int))) : Int).tmod 6) : Int) = 3) = true := by rw [hw]; rfl
 have c5 : decide (0 ≤ (3 : Int) ∧ (3 : Int) < ((b.length : Nat) : Int)) = true := decide_eq_true (by omega)
 have c6 : decide ((3 : Int).toNat < b.length) = true := decide_eq_true (by rw [hb]; decide)
 have c7 : ∀ v, decide (0 ≤ (3 : Int) ∧ (3 : Int) < (((b.set (3 : Int).toNat v).length : Nat) : Int)) = true := fun v => decide_eq_true (by rw [List.length_set]; omega)
 have c8 : ∀ v, decide ((3 : Int).toNat < (b.set (3 : Int).toNat v).length) = true := fun v => decide_eq_true (by rw [List.length_set, hb]; decide)
 have c9 := qt_some' hk.1 h60
 unfold T9f6_4
 try delta uT9f6_4_31
 try delta uT9f6_4_30
 try delta uT9f6_4_29
 try delta uT9f6_4_28
 try delta uT9f6_4_27
 try delta uT9f6_4_26
 try delta uT9f6_4_25
 try delta uT9f6_4_24
 try delta uT9f6_4_23
 try delta uT9f6_4_22
 try delta uT9f6_4_21
 try delta uT9f6_4_20
 try delta uT9f6_4_19
 try delta uT9f6_4_18
 try delta uT9f6_4_17
 try delta uT9f6_4_16
 try delta uT9f6_4_15
 try delta uT9f6_4_14
 try delta uT9f6_4_13
 try delta uT9f6_4_12
 try delta uT9f6_4_11
 try delta uT9f6_4_10
 try delta uT9f6_4_9
 try delta uT9f6_4_8
 try delta uT9f6_4_7
 try delta uT9f6_4_6
 try delta uT9f6_4_5
 try delta uT9f6_4_4
 try delta uT9f6_4_3
 try delta uT9f6_4_2
 try delta uT9f6_4_1
 try delta uT9f6_4_0
 simp only [c1, c2, c3, c4, w0, w1, w2, w3, c5, c6, c7, c8, c9, cond_true, cond_false]
 unfold evX
 unfold kdX
 generalize hkd : (IntKind.wrap .u8 (1 + (((IntKind.wrap .u8 (IntKind.wrap .u16 ((a0.getD k.toNat 0).tdiv 64))) : Int).tmod 4))) = kd
 cases h1 : kd == 1 <;> cases h2 : kd == 2 <;> cases h3 : kd == 3 <;> exact condT (lim2 hq) rfl
theorem T9f6_4_s4 (a0 : List Int) (k : Int) (b : List Int) (q0 q1 q2 q3 q4 q5 : List Ev) (hk : 0 ≤ k ∧ k < a0.length) (h60 : k < 60) (hb : b.length = 6) (hq : q4.length < 1000000) (hw : (IntKind.wrap .i64 (a0.getD k.toNat 0)).tmod 6 = 4) :
  T9f6_4 a0 6 k b q0 q1 q2 q3 q4 q5 = some (.inl ((a0, 6, (), (), IntKind.wrap .i64 (k + 1), ()), (((), (), (), (), (), (), ()), (b.set 4 (upT (b.getD 4 0) (a0.getD k.toNat 0)), ()), ()), (q0, q1, q2, q3, (q4 ++ [evX 4 q4.length ((b.set 4 (upT (b.getD 4 0) (a0.getD k.toNat 0))).getD 4 0) (a0.getD k.toNat 0) k]), q5, ()))) := by
 have c1 : decide (k < (a0.length : Int)) = true := decide_eq_true hk.2
 have c2 : decide (k < 60) = true := decide_eq_true h60
 have c3 : decide (0 ≤ k ∧ k < (a0.length : Int)) = true := decide_eq_true hk
 have c4 : decide ((6 : Int) ≠ 0) = true := rfl
 have w0 : decide (((((IntKind.wrap .i64 ((a0).getD (k : Int).toNat (0 : Int))) : Int).tmod 6) : Int) = 0) = false := by rw [hw]; rfl
 have w1 : decide (((((IntKind.wrap .i64 ((a0).getD (k : Int).toNat (0 : Int))) : Int).tmod 6) : Int) = 1) = false := by rw [hw]; rfl
 have w2 : decide (((((IntKind.wrap .i64 ((a0).getD (k : Int).toNat (0 : Int))) : Int).tmod 6) : Int) = 2) = false := by rw [hw]; rfl
 have w3 : decide (((((IntKind.wrap .i64 ((a0).getD (k : Int).toNat (0 : Int))) : Int).tmod 6) : Int) = 3) = false := by rw [hw]; rfl
 have w4 : decide (((((IntKind.wrap .i64 ((a0).getD (k : Int).toNat (0 : Int))) : Int).tmod 6) : Int) = 4) = true := by rw [hw]; rfl
 have c5 : decide (0 ≤ (4 : Int) ∧ (4 : Int) < ((b.length : Nat) : Int)) = true := decide_eq_true (by omega)
 have c6 : decide ((4 : Int).toNat < b.length) = true := decide_eq_true (by rw [hb]; decide)
 have c7 : ∀ v, decide (0 ≤ (4 : Int) ∧ (4 : Int) < (((b.set (4 : Int).toNat v).length : Nat) : Int)) = true := fun v => decide_eq_true (by rw [List.length_set]; omega)
 have c8 : ∀ v, decide ((4 : Int).toNat < (b.set (4 : Int).toNat v).length) = true := fun v => decide_eq_true (by rw [List.length_set, hb]; decide)
 have c9 := qt_some' hk.1 h60
 unfold T9f6_4
 try delta uT9f6_4_31
 try delta uT9f6_4_30
 try delta uT9f6_4_29
 try delta uT9f6_4_28
 try delta uT9f6_4_27
 try delta uT9f6_4_26
 try delta uT9f6_4_25
 try delta uT9f6_4_24
 try delta uT9f6_4_23
 try delta uT9f6_4_22
 try delta uT9f6_4_21
 try delta uT9f6_4_20
 try delta uT9f6_4_19
 try delta uT9f6_4_18
 try delta uT9f6_4_17
 try delta uT9f6_4_16
 try delta uT9f6_4_15
 try delta uT9f6_4_14
 try delta uT9f6_4_13
 try delta uT9f6_4_12
 try delta uT9f6_4_11
 try delta uT9f6_4_10
 try delta uT9f6_4_9
 try delta uT9f6_4_8
 try delta uT9f6_4_7
 try delta uT9f6_4_6
 try delta uT9f6_4_5
 try delta uT9f6_4_4
 try delta uT9f6_4_3
 try delta uT9f6_4_2
 try delta uT9f6_4_1
 try delta uT9f6_4_0
 simp only [c1, c2, c3, c4, w0, w1, w2, w3, w4, c5, c6, c7, c8, c9, cond_true, cond_false]
 unfold evX
 unfold kdX
 generalize hkd : (IntKind.wrap .u8 (1 + (((IntKind.wrap .u8 (IntKind.wrap .u16 ((a0.getD k.toNat 0).tdiv 64))) : Int).tmod 4))) = kd
 cases h1 : kd == 1 <;> cases h2 : kd == 2 <;> cases h3 : kd == 3 <;> exact condT (lim2 hq) rfl
theorem T9f6_4_s5 (a0 : List Int) (k : Int) (b : List Int) (q0 q1 q2 q3 q4 q5 : List Ev) (hk : 0 ≤ k ∧ k < a0.length) (h60 : k < 60) (hb : b.length = 6) (hq : q5.length < 1000000) (hw : (IntKind.wrap .i64 (a0.getD k.toNat 0)).tmod 6 = 5) :
  T9f6_4 a0 6 k b q0 q1 q2 q3 q4 q5 = some (.inl ((a0, 6, (), (), IntKind.wrap .i64 (k + 1), ()), (((), (), (), (), (), (), ()), (b.set 5 (upT (b.getD 5 0) (a0.getD k.toNat 0)), ()), ()), (q0, q1, q2, q3, q4, (q5 ++ [evX 5 q5.length ((b.set 5 (upT (b.getD 5 0) (a0.getD k.toNat 0))).getD 5 0) (a0.getD k.toNat 0) k]), ()))) := by
 have c1 : decide (k < (a0.length : Int)) = true := decide_eq_true hk.2
 have c2 : decide (k < 60) = true := decide_eq_true h60
 have c3 : decide (0 ≤ k ∧ k < (a0.length : Int)) = true := decide_eq_true hk
 have c4 : decide ((6 : Int) ≠ 0) = true := rfl
 have w0 : decide (((((IntKind.wrap .i64 ((a0).getD (k : Int).toNat (0 : Int))) : Int).tmod 6) : Int) = 0) = false := by rw [hw]; rfl
 have w1 : decide (((((IntKind.wrap .i64 ((a0).getD (k : Int).toNat (0 : Int))) : Int).tmod 6) : Int) = 1) = false := by rw [hw]; rfl
 have w2 : decide (((((IntKind.wrap .i64 ((a0).getD (k : Int).toNat (0 : Int))) : Int).tmod 6) : Int) = 2) = false := by rw [hw]; rfl
 have w3 : decide (((((IntKind.wrap .i64 ((a0).getD (k : Int).toNat (0 : Int))) : Int).tmod 6) : Int) = 3) = false := by rw [hw]; rfl
 have w4 : decide (((((IntKind.wrap .i64 ((a0).getD (k : Int).toNat (0 : Int))) : Int).tmod 6) : Int) = 4) = false := by rw [hw]; rfl
 have w5 : decide (((((IntKind.wrap .i64 ((a0).getD (k : Int).toNat (0 : Int))) : Int).tmod 6) : Int) = 5) = true := by rw [hw]; rfl
 have c5 : decide (0 ≤ (5 : Int) ∧ (5 : Int) < ((b.length : Nat) : Int)) = true := decide_eq_true (by omega)
 have c6 : decide ((5 : Int).toNat < b.length) = true := decide_eq_true (by rw [hb]; decide)
 have c7 : ∀ v, decide (0 ≤ (5 : Int) ∧ (5 : Int) < (((b.set (5 : Int).toNat v).length : Nat) : Int)) = true := fun v => decide_eq_true (by rw [List.length_set]; omega)
 have c8 : ∀ v, decide ((5 : Int).toNat < (b.set (5 : Int).toNat v).length) = true := fun v => decide_eq_true (by rw [List.length_set, hb]; decide)
 have c9 := qt_some' hk.1 h60
 unfold T9f6_4
 try delta uT9f6_4_31
 try delta uT9f6_4_30
 try delta uT9f6_4_29
 try delta uT9f6_4_28
 try delta uT9f6_4_27
 try delta uT9f6_4_26
 try delta uT9f6_4_25
 try delta uT9f6_4_24
 try delta uT9f6_4_23
 try delta uT9f6_4_22
 try delta uT9f6_4_21
 try delta uT9f6_4_20
 try delta uT9f6_4_19
 try delta uT9f6_4_18
 try delta uT9f6_4_17
 try delta uT9f6_4_16
 try delta uT9f6_4_15
 try delta uT9f6_4_14
 try delta uT9f6_4_13
 try delta uT9f6_4_12
 try delta uT9f6_4_11
 try delta uT9f6_4_10
 try delta uT9f6_4_9
 try delta uT9f6_4_8
 try delta uT9f6_4_7
 try delta uT9f6_4_6
 try delta uT9f6_4_5
 try delta uT9f6_4_4
 try delta uT9f6_4_3
 try delta uT9f6_4_2
 try delta uT9f6_4_1
 try delta uT9f6_4_0
 simp only [c1, c2, c3, c4, w0, w1, w2, w3, w4, w5, c5, c6, c7, c8, c9, cond_true, cond_false]
 unfold evX
 unfold kdX
 generalize hkd : (IntKind.wrap .u8 (1 + (((IntKind.wrap .u8 (IntKind.wrap .u16 ((a0.getD k.toNat 0).tdiv 64))) : Int).tmod 4))) = kd
 cases h1 : kd == 1 <;> cases h2 : kd == 2 <;> cases h3 : kd == 3 <;> exact condT (lim2 hq) rfl
theorem L9f6_4_run (a0 : List Int) (ha : U16s a0) : ∀ (d k : Nat) (b : List Int) (q0 q1 q2 q3 q4 q5 : List Ev), k + d = min a0.length 60 → b.length = 6 → FdOK 0 k q0 (b.getD 0 0) → FdOK 1 k q1 (b.getD 1 0) → FdOK 2 k q2 (b.getD 2 0) → FdOK 3 k q3 (b.getD 3 0) → FdOK 4 k q4 (b.getD 4 0) → FdOK 5 k q5 (b.getD 5 0) →
  ∃ (b' : List Int) (q0' q1' q2' q3' q4' q5' : List Ev), L9f6_4 a0 6 (k : Nat) b q0 q1 q2 q3 q4 q5 = some ((), (((), (), (), (), (), (), ()), (b', ()), ()), (q0', q1', q2', q3', q4', q5', ())) ∧ b'.length = 6 ∧ FdOK 0 60 q0' (b'.getD 0 0) ∧ FdOK 1 60 q1' (b'.getD 1 0) ∧ FdOK 2 60 q2' (b'.getD 2 0) ∧ FdOK 3 60 q3' (b'.getD 3 0) ∧ FdOK 4 60 q4' (b'.getD 4 0) ∧ FdOK 5 60 q5' (b'.getD 5 0) := by
 intro d
 induction d with
 | zero =>
  intro k b q0 q1 q2 q3 q4 q5 hk hb f0 f1 f2 f3 f4 f5
  rw [L9f6_4_eq]
  refine ⟨b, q0, q1, q2, q3, q4, q5, ?_, hb, f0.upto (by omega), f1.upto (by omega), f2.upto (by omega), f3.upto (by omega), f4.upto (by omega), f5.upto (by omega)⟩
  unfold T9f6_4
  by_cases h : (k : Int) < (a0.length : Int)
  ·rw [decide_eq_true h, show decide ((k : Int) < 60) = false from decide_eq_false (by omega)]; rfl
  ·rw [decide_eq_false h]; rfl
 | succ d ih =>
  intro k b q0 q1 q2 q3 q4 q5 hk hb f0 f1 f2 f3 f4 f5
  rw [L9f6_4_eq]
  have hx := ha.get k
  have hw' : (IntKind.wrap .i64 (a0.getD ((k : Nat) : Int).toNat 0)).tmod 6 = a0.getD k 0 % 6 := by
   rw [Int.toNat_natCast, w64 (by omega) (by omega), Int.tmod_eq_emod_of_nonneg hx.1]
  have hor : a0.getD k 0 % 6 = 0 ∨ a0.getD k 0 % 6 = 1 ∨ a0.getD k 0 % 6 = 2 ∨ a0.getD k 0 % 6 = 3 ∨ a0.getD k 0 % 6 = 4 ∨ a0.getD k 0 % 6 = 5 := by omega
  rcases hor with h0 | h1 | h2 | h3 | h4 | h5
  ·have hs := T9f6_4_s0 a0 (k : Nat) b q0 q1 q2 q3 q4 q5 ⟨by omega, by omega⟩ (by omega) hb (by have := f0.len; omega) (by rw [hw', h0])
   rw [hs]
   simp only [Option.bind_some, Sum.elim_inl]
   rw [gset_same (by omega), show IntKind.wrap .i64 ((k : Nat) + 1 : Int) = ((k + 1 : Nat) : Int) by rw [w64 (by omega) (by omega)]; rfl, Int.toNat_natCast]
   exact ih (k + 1) _ _ _ _ _ _ _ (by omega) (by rw [List.length_set]; exact hb) (by rw [gset_same (by omega)]; exact f0.add hx (by omega) ⟨by omega, by omega⟩) (by rw [gset (by decide)]; exact f1.keep) (by rw [gset (by decide)]; exact f2.keep) (by rw [gset (by decide)]; exact f3.keep) (by rw [gset (by decide)]; exact f4.keep) (by rw [gset (by decide)]; exact f5.keep)
  ·have hs := T9f6_4_s1 a0 (k : Nat) b q0 q1 q2 q3 q4 q5 ⟨by omega, by omega⟩ (by omega) hb (by have := f1.len; omega) (by rw [hw', h1])
   rw [hs]
   simp only [Option.bind_some, Sum.elim_inl]
   rw [gset_same (by omega), show IntKind.wrap .i64 ((k : Nat) + 1 : Int) = ((k + 1 : Nat) : Int) by rw [w64 (by omega) (by omega)]; rfl, Int.toNat_natCast]
   exact ih (k + 1) _ _ _ _ _ _ _ (by omega) (by rw [List.length_set]; exact hb) (by rw [gset (by decide)]; exact f0.keep) (by rw [gset_same (by omega)]; exact f1.add hx (by omega) ⟨by omega, by omega⟩) (by rw [gset (by decide)]; exact f2.keep) (by rw [gset (by decide)]; exact f3.keep) (by rw [gset (by decide)]; exact f4.keep) (by rw [gset (by decide)]; exact f5.keep)
  ·have hs := T9f6_4_s2 a0 (k : Nat) b q0 q1 q2 q3 q4 q5 ⟨by omega, by omega⟩ (by omega) hb (by have := f2.len; omega) (by rw [hw', h2])
   rw [hs]
   simp only [Option.bind_some, Sum.elim_inl]
   rw [gset_same (by omega), show IntKind.wrap .i64 ((k : Nat) + 1 : Int) = ((k + 1 : Nat) : Int) by rw [w64 (by omega) (by omega)]; rfl, Int.toNat_natCast]
   exact ih (k + 1) _ _ _ _ _ _ _ (by omega) (by rw [List.length_set]; exact hb) (by rw [gset (by decide)]; exact f0.keep) (by rw [gset (by decide)]; exact f1.keep) (by rw [gset_same (by omega)]; exact f2.add hx (by omega) ⟨by omega, by omega⟩) (by rw [gset (by decide)]; exact f3.keep) (by rw [gset (by decide)]; exact f4.keep) (by rw [gset (by decide)]; exact f5.keep)
  ·have hs := T9f6_4_s3 a0 (k : Nat) b q0 q1 q2 q3 q4 q5 ⟨by omega, by omega⟩ (by omega) hb (by have := f3.len; omega) (by rw [hw', h3])
   rw [hs]
   simp only [Option.bind_some, Sum.elim_inl]
   rw [gset_same (by omega), show IntKind.wrap .i64 ((k : Nat) + 1 : Int) = ((k + 1 : Nat) : Int) by rw [w64 (by omega) (by omega)]; rfl, Int.toNat_natCast]
   exact ih (k + 1) _ _ _ _ _ _ _ (by omega) (by rw [List.length_set]; exact hb) (by rw [gset (by decide)]; exact f0.keep) (by rw [gset (by decide)]; exact f1.keep) (by rw [gset (by decide)]; exact f2.keep) (by rw [gset_same (by omega)]; exact f3.add hx (by omega) ⟨by omega, by omega⟩) (by rw [gset (by decide)]; exact f4.keep) (by rw [gset (by decide)]; exact f5.keep)
  ·have hs := T9f6_4_s4 a0 (k : Nat) b q0 q1 q2 q3 q4 q5 ⟨by omega, by omega⟩ (by omega) hb (by have := f4.len; omega) (by rw [hw', h4])
   rw [hs]
   simp only [Option.bind_some, Sum.elim_inl]
   rw [gset_same (by omega), show IntKind.wrap .i64 ((k : Nat) + 1 : Int) = ((k + 1 : Nat) : Int) by rw [w64 (by omega) (by omega)]; rfl, Int.toNat_natCast]
   exact ih (k + 1) _ _ _ _ _ _ _ (by omega) (by rw [List.length_set]; exact hb) (by rw [gset (by decide)]; exact f0.keep) (by rw [gset (by decide)]; exact f1.keep) (by rw [gset (by decide)]; exact f2.keep) (by rw [gset (by decide)]; exact f3.keep) (by rw [gset_same (by omega)]; exact f4.add hx (by omega) ⟨by omega, by omega⟩) (by rw [gset (by decide)]; exact f5.keep)
  ·have hs := T9f6_4_s5 a0 (k : Nat) b q0 q1 q2 q3 q4 q5 ⟨by omega, by omega⟩ (by omega) hb (by have := f5.len; omega) (by rw [hw', h5])
   rw [hs]
   simp only [Option.bind_some, Sum.elim_inl]
   rw [gset_same (by omega), show IntKind.wrap .i64 ((k : Nat) + 1 : Int) = ((k + 1 : Nat) : Int) by rw [w64 (by omega) (by omega)]; rfl, Int.toNat_natCast]
   exact ih (k + 1) _ _ _ _ _ _ _ (by omega) (by rw [List.length_set]; exact hb) (by rw [gset (by decide)]; exact f0.keep) (by rw [gset (by decide)]; exact f1.keep) (by rw [gset (by decide)]; exact f2.keep) (by rw [gset (by decide)]; exact f3.keep) (by rw [gset (by decide)]; exact f4.keep) (by rw [gset_same (by omega)]; exact f5.add hx (by omega) ⟨by omega, by omega⟩)
theorem F9t6_feeds (a0 : List Int) (ha : U16s a0) : ∃ (b' : List Int) (q0' q1' q2' q3' q4' q5' : List Ev), F9t6 a0 = some (([q0', q1', q2', q3', q4', q5'], ()), (), ()) ∧ FdOK 0 60 q0' (b'.getD 0 0) ∧ FdOK 1 60 q1' (b'.getD 1 0) ∧ FdOK 2 60 q2' (b'.getD 2 0) ∧ FdOK 3 60 q3' (b'.getD 3 0) ∧ FdOK 4 60 q4' (b'.getD 4 0) ∧ FdOK 5 60 q5' (b'.getD 5 0) := by
 obtain ⟨b', q0', q1', q2', q3', q4', q5', h, _, hh⟩ := L9f6_4_run a0 ha (min a0.length 60) 0 (List.replicate 6 0) [] [] [] [] [] [] (by omega) (by simp) (FdOK.nil _) (FdOK.nil _) (FdOK.nil _) (FdOK.nil _) (FdOK.nil _) (FdOK.nil _)
 refine ⟨b', q0', q1', q2', q3', q4', q5', ?_, hh⟩
 unfold F9t6 F9f6
 have h' : L9f6_4 a0 6 0 (List.replicate (6 : Int).toNat 0) [] [] [] [] [] [] = _ := h
 rw [h']
 rfl
end Go.IM.V
namespace Go.IM.V
open Go Go.IM Go.Proofs
abbrev LL : Type := List (List DEv)
abbrev dv0 : DEv := ((0 : Int), ((0 : Int), ((0 : Int), ((0 : Int), (ByteArray.empty, ([], ((0 : Nat), ((0 : Int), ()))))))))
abbrev Pl : Type := Int × (Int × Unit)
def pl (e : DEv) : Pl := (e.2.2.1, (e.1, ()))
def kl (a b : Pl) : Bool := decide (a.1 < b.1) || (a.1 == b.1 && decide (a.2.1 < b.2.1))
theorem kl_iff {a b : Pl} : kl a b = true ↔ a.1 < b.1 ∨ (a.1 = b.1 ∧ a.2.1 < b.2.1) := by simp [kl]
theorem kl_not {a b : Pl} : kl a b = false ↔ b.1 < a.1 ∨ (a.1 = b.1 ∧ b.2.1 ≤ a.2.1) := by
 rw [← Bool.not_eq_true, kl_iff]; omega
def hp (xs : LL) (k : Nat) : Pl := pl ((xs.getD k []).getD 0 dv0)
theorem F25_eq (e : DEv) : F25 e = some ((((pl e).1, ((pl e).2.1, ())), ()), (), ()) := rfl
theorem bneSelf (a : Int) : ((a : Int) != a) = false := by simp
theorem F35_eq (a b : Int) : F35 a b = some (((if a < b then -1 else if a > b then 1 else 0), ()), (), ()) := by
 unfold F35 F42
 simp only [bneSelf, Option.bind_some, cond_false, cif]
 split
 ·rfl
 ·split <;> rfl
theorem F36_eq (a b : Int) : F36 a b = some (((if a < b then -1 else if a > b then 1 else 0), ()), (), ()) := by
 unfold F36 F43
 simp only [bneSelf, Option.bind_some, cond_false, cif]
 split
 ·rfl
 ·split <;> rfl
theorem F34_eq (a b : Int) : F34 [a, b] = some (((if a ≠ 0 then a else b), ()), (), ()) := by
 unfold F34
 rw [L34_3_eq]; unfold T34_3
 rw [show decide ((0 : Int) < ((([a, b] : List Int).length : Nat) : Int)) = true from rfl, show decide (0 ≤ (0 : Int) ∧ (0 : Int) < ((([a, b] : List Int).length : Nat) : Int)) = true from rfl]
 simp only [cond_true, show (([a, b] : List Int).getD (0 : Int).toNat 0) = a from rfl]
 by_cases h : a = 0
 ·subst h
  simp only [show ((0 : Int) != 0) = false from rfl, cond_false, Option.bind_some, Sum.elim_inl, show IntKind.wrap .i64 (0 + 1) = 1 from rfl]
  rw [L34_3_eq]; unfold T34_3
  rw [show decide ((1 : Int) < ((([0, b] : List Int).length : Nat) : Int)) = true from rfl, show decide (0 ≤ (1 : Int) ∧ (1 : Int) < ((([0, b] : List Int).length : Nat) : Int)) = true from rfl]
  simp only [cond_true, show (([0, b] : List Int).getD (1 : Int).toNat 0) = b from rfl]
  by_cases h2 : b = 0
  ·subst h2
   simp only [show ((0 : Int) != 0) = false from rfl, cond_false, Option.bind_some, Sum.elim_inl, show IntKind.wrap .i64 (1 + 1) = 2 from rfl]
   rw [L34_3_eq]; unfold T34_3
   rw [show decide ((2 : Int) < ((([0, 0] : List Int).length : Nat) : Int)) = false from rfl]
   rfl
  ·rw [show (b != 0) = true from bne_iff_ne.2 h2]
   rfl
 ·rw [show (a != 0) = true from bne_iff_ne.2 h]
  simp only [cond_true, Option.bind_some, Sum.elim_inr, Sum.elim_inl]
  rw [if_pos h]
def cmpI (a b : Pl) : Int := if kl a b then -1 else if kl b a then 1 else 0
theorem F24_eq (a b : Pl) : F24 a b = some ((cmpI a b, ()), (), ()) := by
 unfold F24
 rw [F35_eq, F36_eq]
 simp only [Option.bind_some]
 rw [F34_eq]
 simp only [Option.bind_some]
 have : (if (if a.1 < b.1 then (-1 : Int) else if a.1 > b.1 then 1 else 0) ≠ 0 then (if a.1 < b.1 then (-1 : Int) else if a.1 > b.1 then 1 else 0) else (if a.2.1 < b.2.1 then (-1 : Int) else if a.2.1 > b.2.1 then 1 else 0)) = cmpI a b := by
  unfold cmpI
  simp only [kl_iff]
  repeat' split
  all_goals omega
 rw [this]
theorem cmp_lt (a b : Pl) : decide (cmpI a b < 0) = kl a b := by
 unfold cmpI
 cases h : kl a b
 ·simp only [Bool.false_eq_true, if_false]
  split <;> rfl
 ·rfl
theorem kl_asym {a b : Pl} (h : kl a b = true) : kl b a = false := by rw [kl_iff] at h; rw [kl_not]; omega
theorem cmp_le (a b : Pl) : decide (cmpI a b ≤ 0) = !kl b a := by
 unfold cmpI
 cases h : kl a b
 ·simp only [Bool.false_eq_true, if_false]
  cases h2 : kl b a <;> rfl
 ·rw [kl_asym h]; rfl
theorem F63_eq (n : Nat) (i j : Nat) (xs : LL) (hi : i < n) (hj : j < n) (hn : n ≤ xs.length) (hne : ∀ k, k < n → xs.getD k [] ≠ []) :
  F63 (n : Nat) (i : Nat) (j : Nat) xs = some ((kl (hp xs i) (hp xs j), ()), ((xs, ()), ()), ()) := by
 have li := List.length_pos_iff.2 (hne i hi)
 have lj := List.length_pos_iff.2 (hne j hj)
 unfold F63
 have z : ∀ k : Nat, (((0 : Nat) : Int) + (k : Int)).toNat = k := fun k => by omega
 simp only [z, Int.toNat_natCast]
 rw [decide_eq_true (show 0 ≤ (i : Int) ∧ (i : Int) < (n : Int) by omega), decide_eq_true (show i < xs.length by omega), decide_eq_true (show 0 ≤ (0 : Int) ∧ (0 : Int) < (((xs.getD i []).length : Nat) : Int) by omega)]
 rw [decide_eq_true (show 0 ≤ (j : Int) ∧ (j : Int) < (n : Int) by omega), decide_eq_true (show j < xs.length by omega), decide_eq_true (show 0 ≤ (0 : Int) ∧ (0 : Int) < (((xs.getD j []).length : Nat) : Int) by omega)]
 simp only [cond_true, F25_eq, Option.bind_some]
 rw [F24_eq]
 simp only [Option.bind_some]
 rw [cmp_lt]
 rfl
def sw (i j : Nat) (xs : LL) : LL := (xs.set i (xs.getD j [])).set j (xs.getD i [])
theorem F64_eq (n : Nat) (i j : Nat) (xs : LL) (hi : i < n) (hj : j < n) (hn : n ≤ xs.length) :
  F64 (n : Nat) (i : Nat) (j : Nat) xs = some ((), ((sw i j xs, ()), ()), ()) := by
 unfold F64
 have z : ∀ k : Nat, (((0 : Nat) : Int) + (k : Int)).toNat = k := fun k => by omega
 simp only [z, Int.toNat_natCast]
 rw [decide_eq_true (show 0 ≤ (i : Int) ∧ (i : Int) < (n : Int) by omega), decide_eq_true (show i < xs.length by omega)]
 rw [decide_eq_true (show 0 ≤ (j : Int) ∧ (j : Int) < (n : Int) by omega), decide_eq_true (show j < xs.length by omega), decide_eq_true (show j < (xs.set i (xs.getD j [])).length by rw [List.length_set]; omega)]
 rfl
theorem sw_len (i j : Nat) (xs : LL) : (sw i j xs).length = xs.length := by simp [sw]
theorem setD {α : Type} {xs : List α} {n k : Nat} {r d : α} (h : n < xs.length) : (xs.set n r).getD k d = if k = n then r else xs.getD k d := by
 rw [List.getD_eq_getElem?_getD, List.getElem?_set]
 by_cases e : n = k
 ·subst e; simp [h]
 ·rw [if_neg e, if_neg (Ne.symm e), ← List.getD_eq_getElem?_getD]
theorem sw_get {i j : Nat} {xs : LL} (hi : i < xs.length) (hj : j < xs.length) (k : Nat) :
  (sw i j xs).getD k [] = if k = j then xs.getD i [] else if k = i then xs.getD j [] else xs.getD k [] := by
 unfold sw
 rw [setD (by rw [List.length_set]; exact hj), setD hi]
theorem getD_get {α : Type} {xs : List α} {k : Nat} (h : k < xs.length) (d : α) : xs.getD k d = xs[k] := by
 rw [List.getD_eq_getElem?_getD, List.getElem?_eq_getElem h]; rfl
theorem sw_perm {i j : Nat} {xs : LL} (hi : i < xs.length) (hj : j < xs.length) : (sw i j xs).Perm xs := by
 have h := Array.swap_perm (xs := xs.toArray) (i := i) (j := j) hi hj
 rw [Array.perm_iff_toList_perm] at h
 have e : (xs.toArray.swap i j hi hj).toList = sw i j xs := by
  unfold sw
  rw [getD_get hi, getD_get hj]
  simp [Array.swap_def]
 rw [e] at h
 simpa using h
theorem sw_take {n i j : Nat} {xs : LL} (hi : i < n) (hj : j < n) (hn : n ≤ xs.length) : ((sw i j xs).take n).Perm (xs.take n) := by
 have e : (sw i j xs).take n = sw i j (xs.take n) := by
  unfold sw
  rw [List.take_set, List.take_set]
  have g : ∀ k, k < n → (xs.take n).getD k [] = xs.getD k [] := fun k hk => by
   rw [List.getD_eq_getElem?_getD, List.getElem?_take_of_lt hk, ← List.getD_eq_getElem?_getD]
  rw [g i hi, g j hj]
 rw [e]
 exact sw_perm (by rw [List.length_take]; omega) (by rw [List.length_take]; omega)
def Ch (p c : Nat) : Prop := c = 2 * p + 1 ∨ c = 2 * p + 2
def Hf (s n : Nat) (xs : LL) : Prop := ∀ p c, s ≤ p → Ch p c → c < n → kl (hp xs c) (hp xs p) = false
def Sf (s n i : Nat) (xs : LL) : Prop := (∀ p c, s ≤ p → p ≠ i → Ch p c → c < n → kl (hp xs c) (hp xs p) = false) ∧
 ∀ p c, s ≤ p → Ch p i → Ch i c → c < n → kl (hp xs c) (hp xs p) = false
theorem kl_trans {a b c : Pl} (h : kl b a = false) (h2 : kl c b = false) : kl c a = false := by
 rw [kl_not] at *; omega
theorem hp_sw {i j : Nat} {xs : LL} (hi : i < xs.length) (hj : j < xs.length) (k : Nat) :
  hp (sw i j xs) k = if k = j then hp xs i else if k = i then hp xs j else hp xs k := by
 unfold hp
 rw [sw_get hi hj]
 split
 ·rfl
 split <;> rfl
theorem Sf.done {s n i : Nat} {xs : LL} (h : Sf s n i xs) (hc : ∀ c, Ch i c → c < n → kl (hp xs c) (hp xs i) = false) : Hf s n xs := by
 intro p c hp1 hch hcn
 by_cases e : p = i
 ·subst e; exact hc c hch hcn
 ·exact h.1 p c hp1 e hch hcn
theorem Sf.down {s n i j : Nat} {xs : LL} (h : Sf s n i xs) (hn : n ≤ xs.length) (hj : j < n) (hij : Ch i j) (hl : kl (hp xs j) (hp xs i) = true)
  (hm : ∀ c, Ch i c → c < n → kl (hp xs c) (hp xs j) = false) (hs : s ≤ i) : Sf s n j (sw i j xs) := by
 have hi : i < j := by unfold Ch at hij; omega
 have g := hp_sw (i := i) (j := j) (xs := xs) (by omega) (by omega)
 refine ⟨fun p c h1 h2 h3 h4 => ?_, fun p c h1 h2 h3 h4 => ?_⟩
 ·have hpc : p < c := by unfold Ch at h3; omega
  rw [g c, g p, if_neg h2]
  by_cases e : p = i
  ·subst e
   rw [if_pos rfl]
   by_cases e2 : c = j
   ·rw [if_pos e2]; exact kl_asym hl
   ·rw [if_neg e2, if_neg (by omega)]; exact hm c h3 h4
  ·rw [if_neg e]
   by_cases e2 : c = j
   ·exfalso; subst e2; unfold Ch at h3 hij; omega
   ·rw [if_neg e2]
    by_cases e3 : c = i
    ·subst e3; rw [if_pos rfl]; exact h.2 p j h1 h3 hij hj
    ·rw [if_neg e3]; exact h.1 p c h1 e h3 h4
 ·have e : p = i := by unfold Ch at h2 hij; omega
  subst e
  have hpc : j < c := by unfold Ch at h3; omega
  rw [g c, g p, if_neg (by omega), if_neg (by omega), if_neg (by omega), if_pos rfl]
  exact h.1 j c (by omega) (by omega) h3 h4
theorem wz {n : Int} (h0 : -4611686018427387904 ≤ n) (h1 : n ≤ 4611686018427387904) : IntKind.wrap .i64 n = n := w64 (by omega) (by omega)
structure Sifted (s n' n i : Nat) (xs : LL) (i' : Nat) (xs' : LL) : Prop where
 le : i ≤ i'
 len : xs'.length = xs.length
 same : ∀ k, n' ≤ k → xs'.getD k [] = xs.getD k []
 perm : ∀ m, n' ≤ m → m ≤ n → (xs'.take m).Perm (xs.take m)
 ne : ∀ k, k < n → xs'.getD k [] ≠ []
 heap : s ≤ i → Sf s n' i xs → Hf s n' xs'
theorem L33_run (i0 : Int) (n' n : Nat) (hnn : n' ≤ n) (hb : n ≤ 1000000) : ∀ (d i : Nat) (xs : LL), n' ≤ i + d → i ≤ n → n ≤ xs.length → (∀ k, k < n → xs.getD k [] ≠ []) →
  ∃ (i' : Nat) (xs' : LL), L33_2 i0 (n' : Nat) (i : Nat) (n : Nat) xs = some ((((i' : Nat) : Int), ()), ((((n : Nat) : Int), ()), (xs', ()), ()), ()) ∧ ∀ s, Sifted s n' n i xs i' xs' := by
 intro d
 induction d with
 | zero =>
  intro i xs hd hin hlen hne
  refine ⟨i, xs, ?_, fun s => ⟨Nat.le_refl _, rfl, fun _ _ => rfl, fun _ _ _ => .refl _, hne, fun _ h => h.done fun c hc hcn => by unfold Ch at hc; omega⟩⟩
  rw [L33_2_eq]; unfold T33_2
  rw [wz (n := 2 * (i : Int)) (by omega) (by omega), wz (n := 2 * (i : Int) + 1) (by omega) (by omega), decide_eq_true (show 2 * (i : Int) + 1 ≥ (n' : Int) by omega)]
  simp only [cond_true, Option.bind_some, Sum.elim_inr, Int.toNat_natCast]
 | succ d ih =>
  intro i xs hd hin hlen hne
  rw [L33_2_eq]; unfold T33_2
  rw [wz (n := 2 * (i : Int)) (by omega) (by omega), wz (n := 2 * (i : Int) + 1) (by omega) (by omega), wz (n := 2 * (i : Int) + 1 + 1) (by omega) (by omega)]
  by_cases h1 : n' ≤ 2 * i + 1
  ·rw [decide_eq_true (show 2 * (i : Int) + 1 ≥ (n' : Int) by omega)]
   refine ⟨i, xs, ?_, fun s => ⟨Nat.le_refl _, rfl, fun _ _ => rfl, fun _ _ _ => .refl _, hne, fun _ h => h.done fun c hc hcn => by unfold Ch at hc; omega⟩⟩
   simp only [cond_true, Option.bind_some, Sum.elim_inr, Int.toNat_natCast]
  ·rw [decide_eq_false (show ¬ 2 * (i : Int) + 1 ≥ (n' : Int) by omega), decide_eq_false (show ¬ 2 * (i : Int) + 1 < 0 by omega)]
   simp only [cond_false, Int.toNat_natCast]
   rw [show (2 * (i : Int) + 1 + 1) = ((2 * i + 2 : Nat) : Int) by omega, show (2 * (i : Int) + 1) = ((2 * i + 1 : Nat) : Int) by omega]
   have stop : ∀ j, Ch i j → (∀ c, Ch i c → c < n' → kl (hp xs c) (hp xs j) = false) → kl (hp xs j) (hp xs i) = false →
     ∀ s, Sifted s n' n i xs i xs := fun j hj hm hk s =>
    ⟨Nat.le_refl _, rfl, fun _ _ => rfl, fun _ _ _ => .refl _, hne, fun _ h => h.done fun c hc hcn => kl_trans hk (hm c hc hcn)⟩
   have go : ∀ j, j < n' → Ch i j → (∀ c, Ch i c → c < n' → kl (hp xs c) (hp xs j) = false) → kl (hp xs j) (hp xs i) = true →
     ∃ (i' : Nat) (xs' : LL), L33_2 i0 (n' : Nat) (j : Nat) (n : Nat) (sw i j xs) = some ((((i' : Nat) : Int), ()), ((((n : Nat) : Int), ()), (xs', ()), ()), ()) ∧ ∀ s, Sifted s n' n i xs i' xs' := by
    intro j hj hch hm hk
    have hij : i < j := by unfold Ch at hch; omega
    have hne' : ∀ k, k < n → (sw i j xs).getD k [] ≠ [] := by
     intro k hk
     rw [sw_get (by omega) (by omega)]
     split
     ·exact hne i (by omega)
     split
     ·exact hne j (by omega)
     ·exact hne k hk
    obtain ⟨i', xs', e, hs⟩ := ih j (sw i j xs) (by omega) (by omega) (by rw [sw_len]; exact hlen) hne'
    refine ⟨i', xs', e, fun s => ?_⟩
    have q := hs s
    refine ⟨by have := q.le; omega, by rw [q.len, sw_len], fun k hk' => ?_, fun m hm1 hm2 => (q.perm m hm1 hm2).trans (sw_take (by omega) (by omega) (by omega)), q.ne, fun hsi h => q.heap (by omega) (h.down (by omega) hj hch hk hm hsi)⟩
    rw [q.same k hk', sw_get (by omega) (by omega), if_neg (by omega), if_neg (by omega)]
   have irr : ∀ a : Pl, kl a a = false := fun a => by rw [kl_not]; omega
   have h2i : 2 * i + 1 < n' := by omega
   by_cases h2 : 2 * i + 2 < n'
   ·rw [decide_eq_true (show ((2 * i + 2 : Nat) : Int) < (n' : Int) by omega)]
    simp only [cond_true]
    rw [F63_eq n (2 * i + 2) (2 * i + 1) xs (by omega) (by omega) hlen hne]
    simp only [Option.bind_some]
    cases hc : kl (hp xs (2 * i + 2)) (hp xs (2 * i + 1)) with
    | true =>
     simp only [cond_true]
     have hm : ∀ c, Ch i c → c < n' → kl (hp xs c) (hp xs (2 * i + 2)) = false := by
      intro c hch _
      rcases hch with rfl | rfl
      ·exact kl_asym hc
      ·exact irr _
     rw [F63_eq n (2 * i + 2) i xs (by omega) (by omega) hlen hne]
     simp only [Option.bind_some]
     cases hk : kl (hp xs (2 * i + 2)) (hp xs i) with
     | false =>
      simp only [Bool.not_false, cond_true, Option.bind_some, Sum.elim_inr]
      exact ⟨i, xs, rfl, stop _ (.inr rfl) hm hk⟩
     | true =>
      simp only [Bool.not_true, cond_false]
      rw [F64_eq n i (2 * i + 2) xs (by omega) (by omega) hlen]
      simp only [Option.bind_some, Sum.elim_inl]
      exact go _ h2 (.inr rfl) hm hk
    | false =>
     simp only [cond_false]
     have hm : ∀ c, Ch i c → c < n' → kl (hp xs c) (hp xs (2 * i + 1)) = false := by
      intro c hch _
      rcases hch with rfl | rfl
      ·exact irr _
      ·exact hc
     rw [F63_eq n (2 * i + 1) i xs (by omega) (by omega) hlen hne]
     simp only [Option.bind_some]
     cases hk : kl (hp xs (2 * i + 1)) (hp xs i) with
     | false =>
      simp only [Bool.not_false, cond_true, Option.bind_some, Sum.elim_inr]
      exact ⟨i, xs, rfl, stop _ (.inl rfl) hm hk⟩
     | true =>
      simp only [Bool.not_true, cond_false]
      rw [F64_eq n i (2 * i + 1) xs (by omega) (by omega) hlen]
      simp only [Option.bind_some, Sum.elim_inl]
      exact go _ h2i (.inl rfl) hm hk
   ·rw [decide_eq_false (show ¬ ((2 * i + 2 : Nat) : Int) < (n' : Int) by omega)]
    simp only [cond_false]
    have hm : ∀ c, Ch i c → c < n' → kl (hp xs c) (hp xs (2 * i + 1)) = false := by
     intro c hch hcn
     rcases hch with rfl | rfl
     ·exact irr _
     ·omega
    rw [F63_eq n (2 * i + 1) i xs (by omega) (by omega) hlen hne]
    simp only [Option.bind_some]
    cases hk : kl (hp xs (2 * i + 1)) (hp xs i) with
    | false =>
     simp only [Bool.not_false, cond_true, Option.bind_some, Sum.elim_inr]
     exact ⟨i, xs, rfl, stop _ (.inl rfl) hm hk⟩
    | true =>
     simp only [Bool.not_true, cond_false]
     rw [F64_eq n i (2 * i + 1) xs (by omega) (by omega) hlen]
     simp only [Option.bind_some, Sum.elim_inl]
     exact go _ h2i (.inl rfl) hm hk
end Go.IM.V
namespace Go.IM.V
open Go Go.IM Go.Proofs
def Er (a b : DEv) : Prop := kl (pl a) (pl b) = true
structure Cur (n : Nat) (xs : LL) (ys : List DEv) : Prop where
 nb : n ≤ 1000000
 len : n ≤ xs.length
 ne : ∀ k, k < n → xs.getD k [] ≠ []
 heap : Hf 0 n xs
 srt : ∀ q, q ∈ xs.take n → q.Pairwise Er
 ysrt : ys.Pairwise Er
 perm : ((xs.take n).flatten).Perm ys
theorem Hf.root {n : Nat} {xs : LL} (h : Hf 0 n xs) : ∀ k, k < n → kl (hp xs k) (hp xs 0) = false := by
 intro k
 induction k using Nat.strongRecOn with
 | ind k ih =>
  intro hk
  by_cases e : k = 0
  ·subst e; rw [kl_not]; omega
  ·have h1 := ih ((k - 1) / 2) (by omega) (by omega)
   have h2 := h ((k - 1) / 2) k (Nat.zero_le _) (by unfold Ch; omega) hk
   exact kl_trans h1 h2
theorem F62_eq (n : Nat) (xs : LL) : F62 (n : Nat) xs = some ((((n : Nat) : Int), ()), ((xs, ()), ()), ()) := rfl
theorem F33_eq (n' n i : Nat) (xs : LL) (hnn : n' ≤ n) (hb : n ≤ 1000000) (hi : i ≤ n) (hl : n ≤ xs.length) (hne : ∀ k, k < n → xs.getD k [] ≠ []) :
  ∃ (i' : Nat) (xs' : LL), F33 (i : Nat) (n' : Nat) (n : Nat) xs = some ((decide ((i' : Int) > (i : Int)), ()), ((((n : Nat) : Int), ()), (xs', ()), ()), ()) ∧ ∀ s, Sifted s n' n i xs i' xs' := by
 obtain ⟨i', xs', h, hs⟩ := L33_run (i : Nat) n' n hnn hb n' i xs (by omega) hi hl hne
 refine ⟨i', xs', ?_, hs⟩
 unfold F33
 rw [Int.toNat_natCast, h]
 simp only [Option.bind_some, Int.toNat_natCast]
theorem F37_0 (n : Nat) (xs : LL) : F37 0 (n : Nat) xs = some ((), ((((n : Nat) : Int), ()), (xs, ()), ()), ()) := by
 unfold F37
 rw [Int.toNat_natCast, L37_0_eq]; unfold T37_0
 rw [show (IntKind.wrap .i64 (((IntKind.wrap .i64 ((0 : Int) - 1)) : Int).tdiv 2) == 0) = true from rfl]
 simp only [cond_true, Option.bind_some, Sum.elim_inr, Int.toNat_natCast]
theorem F26_eq (n : Nat) (xs : LL) (hb : n ≤ 1000000) (hl : n ≤ xs.length) (hne : ∀ k, k < n → xs.getD k [] ≠ []) :
  ∃ (i' : Nat) (xs' : LL), F26 0 (n : Nat) xs = some ((), ((((n : Nat) : Int), ()), (xs', ()), ()), ()) ∧ Sifted 0 n n 0 xs i' xs' := by
 obtain ⟨i', xs', h, hs⟩ := F33_eq n n 0 xs (Nat.le_refl _) hb (Nat.zero_le _) hl hne
 refine ⟨i', xs', ?_, hs 0⟩
 unfold F26
 rw [Int.toNat_natCast, F62_eq]
 simp only [Option.bind_some]
 rw [show F33 0 (n : Nat) (n : Nat) xs = _ from h]
 simp only [Option.bind_some, Int.toNat_natCast]
 rw [F37_0]
 simp only [Option.bind_some, Int.toNat_natCast]
 cases decide ((i' : Int) > ((0 : Nat) : Int)) <;> rfl
theorem F27_eq (n : Nat) (xs : LL) (h0 : 0 < n) (hb : n ≤ 1000000) (hl : n ≤ xs.length) (hne : ∀ k, k < n → xs.getD k [] ≠ []) :
  ∃ (i' : Nat) (xs' : LL), F27 (n : Nat) xs = some (((), ()), ((((n - 1 : Nat) : Int), ()), (xs', ()), ()), ()) ∧ Sifted 0 (n - 1) n 0 (sw 0 (n - 1) xs) i' xs' := by
 have hne' : ∀ k, k < n → (sw 0 (n - 1) xs).getD k [] ≠ [] := by
  intro k hk
  rw [sw_get (by omega) (by omega)]
  split
  ·exact hne 0 (by omega)
  split
  ·exact hne (n - 1) (by omega)
  ·exact hne k hk
 obtain ⟨i', xs', h, hs⟩ := F33_eq (n - 1) n 0 (sw 0 (n - 1) xs) (by omega) hb (Nat.zero_le _) (by rw [sw_len]; exact hl) hne'
 refine ⟨i', xs', ?_, hs 0⟩
 have q := hs 0
 unfold F27
 rw [Int.toNat_natCast, F62_eq]
 simp only [Option.bind_some]
 rw [wz (n := (n : Int) - 1) (by omega) (by omega), show ((n : Int) - 1) = ((n - 1 : Nat) : Int) by omega]
 rw [show F64 (n : Nat) 0 ((n - 1 : Nat) : Int) xs = _ from F64_eq n 0 (n - 1) xs h0 (by omega) hl]
 simp only [Option.bind_some]
 rw [show F33 0 ((n - 1 : Nat) : Int) (n : Nat) (sw 0 (n - 1) xs) = _ from h]
 simp only [Option.bind_some, Int.toNat_natCast]
 have e : F65 (n : Nat) xs' = some (((), ()), ((((n - 1 : Nat) : Int), ()), (xs', ()), ()), ()) := by
  unfold F65
  have hw : IntKind.wrap .i64 ((n : Int) - 1) = ((n - 1 : Nat) : Int) := by rw [wz (by omega) (by omega)]; omega
  rw [Int.toNat_natCast, hw]
  rw [decide_eq_true (show 0 ≤ ((n - 1 : Nat) : Int) ∧ ((n - 1 : Nat) : Int) < (n : Int) by omega)]
  rw [decide_eq_true (show (((0 : Nat) : Int) + ((n - 1 : Nat) : Int)).toNat < xs'.length by rw [q.len, sw_len]; omega)]
  rw [decide_eq_true (show 0 ≤ ((n - 1 : Nat) : Int) ∧ ((n - 1 : Nat) : Int) ≤ (n : Int) by omega)]
  simp only [cond_true, Int.toNat_natCast, Nat.sub_zero]
 rw [e]
 simp only [Option.bind_some, Int.toNat_natCast]
theorem L23_run (n : Nat) (hb : n ≤ 1000000) : ∀ (m : Nat) (xs : LL), 2 * m ≤ n → n ≤ xs.length → (∀ k, k < n → xs.getD k [] ≠ []) → Hf m n xs →
  ∃ xs' : LL, L23_2 (n : Nat) ((m : Int) - 1) (n : Nat) xs = some ((), ((((n : Nat) : Int), ()), (xs', ()), ()), ()) ∧ xs'.length = xs.length ∧ (xs'.take n).Perm (xs.take n) ∧ (∀ k, k < n → xs'.getD k [] ≠ []) ∧ Hf 0 n xs' := by
 intro m
 induction m with
 | zero =>
  intro xs _ hl hne h
  refine ⟨xs, ?_, rfl, .refl _, hne, h⟩
  rw [L23_2_eq]; unfold T23_2
  rw [decide_eq_false (by omega)]
  simp only [cond_false, Option.bind_some, Sum.elim_inr, Int.toNat_natCast]
 | succ m ih =>
  intro xs hm hl hne h
  rw [L23_2_eq]; unfold T23_2
  rw [decide_eq_true (by omega), Int.toNat_natCast, show (((m + 1 : Nat) : Int) - 1) = (m : Int) by omega]
  simp only [cond_true]
  obtain ⟨i', xs', e, hs⟩ := F33_eq n n m xs (Nat.le_refl _) hb (by omega) hl hne
  have q := hs m
  rw [e]
  simp only [Option.bind_some, Sum.elim_inl, Int.toNat_natCast]
  rw [wz (n := (m : Int) - 1) (by omega) (by omega)]
  have hf := q.heap (Nat.le_refl _) ⟨fun p c h1 h2 h3 h4 => h p c (by omega) h3 h4, fun p c h1 h2 h3 h4 => by unfold Ch at h2; omega⟩
  obtain ⟨xs2, e2, l2, p2, n2, h2⟩ := ih xs' (by omega) (by rw [q.len]; exact hl) q.ne hf
  exact ⟨xs2, e2, by rw [l2, q.len], p2.trans (q.perm n (Nat.le_refl _) (Nat.le_refl _)), n2, h2⟩
theorem F23_eq (n : Nat) (xs : LL) (hb : n ≤ 1000000) (hl : n ≤ xs.length) (hne : ∀ k, k < n → xs.getD k [] ≠ []) :
  ∃ xs' : LL, F23 (n : Nat) xs = some ((), ((((n : Nat) : Int), ()), (xs', ()), ()), ()) ∧ xs'.length = xs.length ∧ (xs'.take n).Perm (xs.take n) ∧ (∀ k, k < n → xs'.getD k [] ≠ []) ∧ Hf 0 n xs' := by
 obtain ⟨xs', e, r⟩ := L23_run n hb (n / 2) xs (by omega) hl hne (fun p c h1 h2 h3 => by unfold Ch at h2; omega)
 refine ⟨xs', ?_, r⟩
 unfold F23
 rw [Int.toNat_natCast, F62_eq]
 simp only [Option.bind_some]
 rw [Int.tdiv_eq_ediv_of_nonneg (by omega), wz (n := (n : Int) / 2) (by omega) (by omega), wz (n := (n : Int) / 2 - 1) (by omega) (by omega), show ((n : Int) / 2 - 1) = (((n / 2 : Nat) : Int) - 1) by omega, e]
 simp only [Option.bind_some, Int.toNat_natCast]
theorem L11_run (qs : LL) (hq : qs.length ≤ 1000) : ∀ (d k : Nat) (q : LL), k + d = qs.length → q.length ≤ k →
  L11_3 qs (qs.length : Nat) (k : Nat) q = some ((), (((), ()), ((), ()), (q ++ (qs.drop k).filter (fun l => !l.isEmpty), ()), ()), ()) := by
 intro d
 induction d with
 | zero =>
  intro k q hk hqk
  rw [L11_3_eq]; unfold T11_3
  rw [decide_eq_false (by omega), List.drop_eq_nil_of_le (by omega)]
  simp only [cond_false, Option.bind_some, Sum.elim_inr, List.filter_nil, List.append_nil]
 | succ d ih =>
  intro k q hk hqk
  rw [L11_3_eq]; unfold T11_3
  have hkl : k < qs.length := by omega
  rw [decide_eq_true (show (k : Int) < (qs.length : Int) by omega), decide_eq_true (show 0 ≤ (k : Int) ∧ (k : Int) < (qs.length : Int) by omega), Int.toNat_natCast, getD_get hkl, List.drop_eq_getElem_cons hkl]
  simp only [cond_true]
  rw [show IntKind.wrap .i64 ((k : Int) + 1) = ((k + 1 : Nat) : Int) by rw [wz (by omega) (by omega)]; rfl]
  cases hx : qs[k] with
  | nil =>
   rw [show decide (((([] : List DEv).length : Nat) : Int) > 0) = false from rfl]
   simp only [cond_false, Option.bind_some, Sum.elim_inl]
   rw [ih (k + 1) q (by omega) (by omega)]
   rfl
  | cons e t =>
   rw [decide_eq_true (show ((((e :: t) : List DEv).length : Nat) : Int) > 0 by simp only [List.length_cons]; omega), decide_eq_true (show q.length + ([e :: t] : LL).length < lim by have : lim = 1099511627776 := rfl; simp only [List.length_cons, List.length_nil]; omega)]
   simp only [cond_true, Option.bind_some, Sum.elim_inl]
   rw [ih (k + 1) (q ++ [e :: t]) (by omega) (by simp; omega)]
   simp [List.filter_cons]
theorem F11_eq (qs : LL) (ys : List DEv) (hq : qs.length ≤ 1000) (hs : ∀ q ∈ qs, q.Pairwise Er) (hy : ys.Pairwise Er) (hp : qs.flatten.Perm ys) :
  ∃ (n : Nat) (xs : LL), F11 qs = some (((), ()), ((((n : Nat) : Int), ()), (xs, ()), ()), ()) ∧ Cur n xs ys := by
 have hl := L11_run qs hq qs.length 0 [] (by omega) (by simp)
 simp only [List.drop_zero, List.nil_append] at hl
 generalize hf : qs.filter (fun l => !l.isEmpty) = zs at hl
 have hzl : zs.length ≤ 1000 := by rw [← hf]; exact Nat.le_trans (List.length_filter_le _ _) hq
 have hzn : ∀ k, k < zs.length → zs.getD k [] ≠ [] := by
  intro k hk
  rw [getD_get hk]
  have : zs[k] ∈ qs.filter (fun l => !l.isEmpty) := by rw [hf]; exact List.getElem_mem hk
  have := (List.mem_filter.1 this).2
  simpa using this
 obtain ⟨xs, e, l1, p1, n1, h1⟩ := F23_eq zs.length zs (by omega) (Nat.le_refl _) hzn
 refine ⟨zs.length, xs, ?_, ⟨by omega, by omega, n1, h1, ?_, hy, ?_⟩⟩
 ·unfold F11
  rw [show L11_3 qs (qs.length : Nat) 0 ([] : LL) = _ from hl]
  simp only [Option.bind_some]
  rw [e]
  simp only [Option.bind_some, Int.toNat_natCast]
 ·intro q hq
  have := p1.mem_iff.1 hq
  rw [List.take_length, ← hf] at this
  exact hs q (List.mem_filter.1 this).1
 ·refine p1.flatten.trans ?_
  rw [List.take_length, ← hf, List.flatten_filter_not_isEmpty]
  exact hp
theorem head_get {xs : LL} {n : Nat} {y : DEv} {t : List DEv} (h : 0 < n) (hl : n ≤ xs.length) (e : xs.getD 0 [] = y :: t) : xs.take n = (y :: t) :: (xs.drop 1).take (n - 1) := by
 cases xs with
 | nil => simp at hl; omega
 | cons x xs =>
  obtain ⟨m, rfl⟩ : ∃ m, n = m + 1 := ⟨n - 1, by omega⟩
  simp only [List.getD_cons_zero] at e
  subst e
  simp
theorem Cur.root {n : Nat} {xs : LL} {y : DEv} {ys : List DEv} (h : Cur n xs (y :: ys)) : 0 < n ∧ ∃ t, xs.getD 0 [] = y :: t := by
 have hy : y ∈ (xs.take n).flatten := h.perm.mem_iff.2 (List.mem_cons_self ..)
 have hn : 0 < n := by
  rcases Nat.eq_zero_or_pos n with h0 | h0
  ·rw [h0] at hy; simp at hy
  ·exact h0
 refine ⟨hn, ?_⟩
 have h0 := h.ne 0 hn
 cases hx : xs.getD 0 [] with
 | nil => exact absurd hx h0
 | cons z t =>
  refine ⟨t, ?_⟩
  have hz : hp xs 0 = pl z := by unfold hp; rw [hx]; rfl
  have hmin : ∀ e ∈ (xs.take n).flatten, kl (pl e) (pl z) = false := by
   intro e he
   obtain ⟨q, hq, he⟩ := List.mem_flatten.1 he
   obtain ⟨k, hk, rfl⟩ := List.getElem_of_mem hq
   have hkn : k < n := by rw [List.length_take] at hk; omega
   have hr := h.heap.root k hkn
   rw [hz] at hr
   have hkx : (xs.take n)[k] = xs.getD k [] := by rw [getD_get (by have := h.len; omega), List.getElem_take]
   have hs := h.srt _ (List.getElem_mem hk)
   rw [hkx] at he hs
   unfold hp at hr
   cases hq : xs.getD k [] with
   | nil => rw [hq] at he; cases he
   | cons a l =>
    rw [hq] at he hs hr
    rcases List.mem_cons.1 he with rfl | he
    ·exact hr
    ·have := List.rel_of_pairwise_cons hs he
     exact kl_trans hr (kl_asym this)
  have hzm : z ∈ y :: ys := h.perm.mem_iff.1 (by rw [head_get hn h.len hx]; simp)
  rcases List.mem_cons.1 hzm with rfl | hzy
  ·rfl
  ·have := List.rel_of_pairwise_cons h.ysrt hzy
   have h2 := hmin y hy
   unfold Er at this
   rw [h2] at this; cases this
theorem Cur.nil {n : Nat} {xs : LL} (h : Cur n xs []) : n = 0 := by
 rcases Nat.eq_zero_or_pos n with h0 | h0
 ·exact h0
 ·exfalso
  have hn := h.ne 0 h0
  have hp := h.perm.eq_nil
  cases hx : xs.getD 0 [] with
  | nil => exact hn hx
  | cons z t => rw [head_get h0 h.len hx] at hp; simp at hp
theorem F15_nil {n : Nat} {xs : LL} (h : Cur n xs []) : F15 (n : Nat) xs = some ((dv0, false, ()), ((((n : Nat) : Int), ()), (xs, ()), ()), ()) := by
 rw [h.nil]; rfl
theorem F15_cons {n : Nat} {xs : LL} {y : DEv} {ys : List DEv} (h : Cur n xs (y :: ys)) :
  ∃ (n' : Nat) (xs' : LL), F15 (n : Nat) xs = some ((y, true, ()), ((((n' : Nat) : Int), ()), (xs', ()), ()), ()) ∧ Cur n' xs' ys := by
 obtain ⟨hn, t, ht⟩ := h.root
 have hnb := h.nb
 have hl := h.len
 have hyy := (List.pairwise_cons.1 h.ysrt).2
 unfold F15
 rw [Int.toNat_natCast]
 rw [show (((n : Nat) : Int) == 0) = false from beq_eq_false_iff_ne.2 (by omega)]
 have hz : (((0 : Nat) : Int) + 0).toNat = 0 := rfl
 have hz0 : (0 : Int).toNat = 0 := rfl
 have hz1 : (1 : Int).toNat = 1 := rfl
 simp only [hz, hz0, hz1, ht, cond_false]
 rw [decide_eq_true (show 0 ≤ (0 : Int) ∧ (0 : Int) < (n : Int) by omega), decide_eq_true (show 0 < xs.length by omega), decide_eq_true (show 0 ≤ (0 : Int) ∧ (0 : Int) < (((y :: t).length : Nat) : Int) by simp only [List.length_cons]; omega), decide_eq_true (show 0 ≤ (1 : Int) ∧ (1 : Int) ≤ (((y :: t).length : Nat) : Int) by simp only [List.length_cons]; omega)]
 simp only [cond_true, List.drop_succ_cons, List.drop_zero]
 have hsq := h.srt _ (by rw [head_get hn hl ht]; exact List.mem_cons_self ..)
 have hst := (List.pairwise_cons.1 hsq).2
 by_cases htn : t = []
 ·subst htn
  rw [show decide (((([] : List DEv).length : Nat) : Int) > 0) = false from rfl]
  simp only [cond_false]
  obtain ⟨i', xs', e, q⟩ := F27_eq n xs hn hnb hl h.ne
  rw [e]
  simp only [Option.bind_some, Int.toNat_natCast]
  refine ⟨n - 1, xs', rfl, by omega, by rw [q.len, sw_len]; omega, fun k hk => q.ne k (by omega), q.heap (Nat.le_refl _) ?_, ?_, hyy, ?_⟩
  ·refine ⟨fun p c h1 h2 h3 h4 => ?_, fun p c h1 h2 h3 h4 => by unfold Ch at h2; omega⟩
   have hpc : p < c := by unfold Ch at h3; omega
   rw [hp_sw (by omega) (by omega), hp_sw (by omega) (by omega), if_neg (by omega), if_neg (by omega), if_neg (by omega), if_neg (by omega)]
   exact h.heap p c h1 h3 (by omega)
  ·intro r hr
   have h1 := (q.perm (n - 1) (Nat.le_refl _) (by omega)).mem_iff.1 hr
   have h2 : r ∈ (sw 0 (n - 1) xs).take n := (List.take_subset_take_left _ (by omega)) h1
   exact h.srt r ((sw_take (by omega) (by omega) hl).mem_iff.1 h2)
  ·have h1 := (q.perm (n - 1) (Nat.le_refl _) (by omega)).flatten
   refine h1.trans ?_
   have h2 := (sw_take (i := 0) (j := n - 1) hn (by omega) hl).flatten
   have h3 : (sw 0 (n - 1) xs).take n = (sw 0 (n - 1) xs).take (n - 1) ++ [[y]] := by
    have hlt : n - 1 < (sw 0 (n - 1) xs).length := by rw [sw_len]; omega
    have := List.take_append_getElem hlt
    rw [show n - 1 + 1 = n by omega] at this
    rw [← this, ← getD_get hlt [], sw_get (by omega) (by omega), if_pos rfl, ht]
   rw [h3, List.flatten_append] at h2
   have h4 := h2.trans h.perm
   simp only [List.flatten_cons, List.flatten_nil, List.append_nil] at h4
   have h5 : (y :: ((sw 0 (n - 1) xs).take (n - 1)).flatten).Perm (y :: ys) := (List.perm_append_comm (l₁ := [y])).trans h4
   exact h5.cons_inv
 ·have htl := List.length_pos_iff.2 htn
  rw [decide_eq_true (show ((t.length : Nat) : Int) > 0 by omega)]
  simp only [cond_true]
  have g : ∀ k, (xs.set 0 t).getD k [] = if k = 0 then t else xs.getD k [] := fun k => setD (by omega)
  obtain ⟨i', xs', e, q⟩ := F26_eq n (xs.set 0 t) hnb (by rw [List.length_set]; exact hl) (fun k hk => by rw [g]; split; exact htn; exact h.ne k hk)
  rw [e]
  simp only [Option.bind_some, Int.toNat_natCast]
  have hset : (xs.set 0 t).take n = t :: (xs.drop 1).take (n - 1) := by
   have := head_get hn hl ht
   rw [List.take_set, this]; rfl
  have hgp : ∀ k, k ≠ 0 → hp (xs.set 0 t) k = hp xs k := fun k hk => by unfold hp; rw [g, if_neg hk]
  refine ⟨n, xs', rfl, hnb, by rw [q.len, List.length_set]; exact hl, q.ne, q.heap (Nat.le_refl _) ?_, ?_, hyy, ?_⟩
  ·refine ⟨fun p c h1 h2 h3 h4 => ?_, fun p c h1 h2 h3 h4 => by unfold Ch at h2; omega⟩
   have hpc : p < c := by unfold Ch at h3; omega
   rw [hgp c (by omega), hgp p h2]
   exact h.heap p c h1 h3 h4
  ·intro r hr
   have h1 := (q.perm n (Nat.le_refl _) (Nat.le_refl _)).mem_iff.1 hr
   rw [hset] at h1
   rcases List.mem_cons.1 h1 with rfl | h1
   ·exact hst
   ·exact h.srt r (by rw [head_get hn hl ht]; exact List.mem_cons_of_mem _ h1)
  ·have h1 := (q.perm n (Nat.le_refl _) (Nat.le_refl _)).flatten
   rw [hset] at h1
   refine h1.trans ?_
   have h2 := h.perm
   rw [head_get hn hl ht] at h2
   simp only [List.flatten_cons, List.cons_append] at h2 ⊢
   exact h2.cons_inv
theorem L14_run (s : Pl) : ∀ (ys : List DEv) (n : Nat) (xs : LL) (c : Nat), Cur n xs ys → c + ys.length ≤ 1000000 →
  ∃ (n' : Nat) (xs' : LL), L14_2 (c : Nat) (n : Nat) s.1 s.2.1 xs = some ((((c + (ys.takeWhile fun e => !kl s (pl e)).length : Nat) : Int), ()), ((((n' : Nat) : Int), ()), (s.1, s.2.1, ()), (xs', ()), ()), ()) ∧ Cur n' xs' (ys.dropWhile fun e => !kl s (pl e)) := by
 intro ys
 induction ys with
 | nil =>
  intro n xs c h hc
  refine ⟨n, xs, ?_, h⟩
  have h0 := h.nil
  subst h0
  rw [L14_2_eq]; unfold T14_2
  rfl
 | cons y ys ih =>
  intro n xs c h hc
  obtain ⟨hn, t, ht⟩ := h.root
  have hl := h.len
  rw [L14_2_eq]; unfold T14_2
  have hz : (((0 : Nat) : Int) + 0).toNat = 0 := rfl
  have hz0 : (0 : Int).toNat = 0 := rfl
  simp only [hz, hz0, ht, Int.toNat_natCast]
  rw [decide_eq_true (show ((n : Nat) : Int) > 0 by omega), decide_eq_true (show 0 ≤ (0 : Int) ∧ (0 : Int) < (n : Int) by omega), decide_eq_true (show 0 < xs.length by omega), decide_eq_true (show 0 ≤ (0 : Int) ∧ (0 : Int) < (((y :: t).length : Nat) : Int) by simp only [List.length_cons]; omega)]
  simp only [cond_true, F25_eq, Option.bind_some, F24_eq]
  rw [cmp_le]
  have hk : kl (s.1, (s.2.1, ())) ((pl y).1, ((pl y).2.1, ())) = kl s (pl y) := rfl
  have hk2 : kl (s.1, (s.2.1, ())) ((pl (y.1, (y.2.1, (y.2.2.1, (y.2.2.2.1, (y.2.2.2.2.1, (y.2.2.2.2.2.1, (y.2.2.2.2.2.2.1, (y.2.2.2.2.2.2.2.1, ()))))))))).1, ((pl (y.1, (y.2.1, (y.2.2.1, (y.2.2.2.1, (y.2.2.2.2.1, (y.2.2.2.2.2.1, (y.2.2.2.2.2.2.1, (y.2.2.2.2.2.2.2.1, ()))))))))).2.1, ())) = kl s (pl y) := rfl
  simp only [List.getD_cons_zero]
  rw [hk2]
  cases hq : kl s (pl y) with
  | true =>
   simp only [Bool.not_true, cond_false, Option.bind_some, Sum.elim_inr]
   refine ⟨n, xs, ?_, ?_⟩
   ·simp [List.takeWhile_cons, hq]
   ·simp [List.dropWhile_cons, hq]; exact h
  | false =>
   simp only [Bool.not_false, cond_true]
   obtain ⟨n', xs', e, h'⟩ := F15_cons h
   rw [e]
   simp only [Option.bind_some, Sum.elim_inl, Int.toNat_natCast]
   simp only [List.length_cons] at hc
   rw [show IntKind.wrap .i64 ((c : Int) + 1) = ((c + 1 : Nat) : Int) by rw [wz (by omega) (by omega)]; rfl]
   obtain ⟨n2, xs2, e2, h2⟩ := ih n' xs' (c + 1) h' (by omega)
   rw [e2]
   refine ⟨n2, xs2, ?_, ?_⟩
   ·simp [List.takeWhile_cons, hq]; omega
   ·simp [List.dropWhile_cons, hq]; exact h2
theorem F14_eq {ys : List DEv} {n : Nat} {xs : LL} (s : Pl) (h : Cur n xs ys) (hy : ys.length ≤ 1000000) :
  ∃ (n' : Nat) (xs' : LL), F14 s (n : Nat) xs = some (((((ys.takeWhile fun e => !kl s (pl e)).length : Nat) : Int), ()), ((((n' : Nat) : Int), ()), (xs', ()), ()), ()) ∧ Cur n' xs' (ys.dropWhile fun e => !kl s (pl e)) := by
 obtain ⟨n', xs', e, h'⟩ := L14_run s ys n xs 0 h (by omega)
 refine ⟨n', xs', ?_, h'⟩
 unfold F14
 rw [Int.toNat_natCast, show L14_2 0 (n : Nat) s.1 s.2.1 xs = _ from e]
 simp only [Option.bind_some, Int.toNat_natCast, Nat.zero_add]
end Go.IM.V
namespace Go.IM.V
open Go Go.IM Go.Proofs
theorem dev_eta (x : DEv) : (x.1, (x.2.1, (x.2.2.1, (x.2.2.2.1, (x.2.2.2.2.1, (x.2.2.2.2.2.1, (x.2.2.2.2.2.2.1, (x.2.2.2.2.2.2.2.1, ())))))))) = x := rfl
theorem pl_eta (x : Pl) : (x.1, (x.2.1, ())) = x := rfl
def Df (a b : DEv) : Prop := Er a b ∨ Er b a
theorem limE : lim = 1099511627776 := rfl
theorem L18_run (m : Int) : ∀ (ys : List DEv) (n : Nat) (xs : LL) (q : List DEv), Cur n xs ys → q.length + ys.length ≤ 1000000 →
  ∃ (n' : Nat) (xs' : LL), L18_4 m (n : Nat) xs q = some (((), ()), ((((n' : Nat) : Int), ()), (xs', ()), ()), (q ++ ys.take (m.toNat - q.length), ())) := by
 intro ys
 induction ys with
 | nil =>
  intro n xs q h hl
  refine ⟨n, xs, ?_⟩
  rw [L18_4_eq]; unfold T18_4
  rw [Int.toNat_natCast, F15_nil h]
  simp only [List.take_nil, List.append_nil, Option.bind_some]
  cases decide ((((q.length : Nat) : Int)) < m)
  ·simp only [cond_false, Option.bind_some, Sum.elim_inr]
  ·simp only [cond_true, Bool.not_false, Option.bind_some, Sum.elim_inr, Int.toNat_natCast]
 | cons y ys ih =>
  intro n xs q h hl
  rw [L18_4_eq]; unfold T18_4
  rw [Int.toNat_natCast]
  simp only [List.length_cons] at hl
  by_cases hm : ((q.length : Nat) : Int) < m
  ·rw [decide_eq_true hm]
   obtain ⟨n', xs', e, h'⟩ := F15_cons h
   rw [e]
   simp only [cond_true, Bool.not_true, cond_false, Option.bind_some, dev_eta, Int.toNat_natCast]
   rw [decide_eq_true (show q.length + [y].length < lim by rw [limE]; simp only [List.length_cons, List.length_nil]; omega)]
   simp only [cond_true, Option.bind_some, Sum.elim_inl]
   obtain ⟨n2, xs2, e2⟩ := ih n' xs' (q ++ [y]) h' (by simp; omega)
   refine ⟨n2, xs2, ?_⟩
   rw [e2]
   have : (y :: ys).take (m.toNat - q.length) = y :: ys.take (m.toNat - (q ++ [y]).length) := by
    rw [show m.toNat - q.length = (m.toNat - (q ++ [y]).length) + 1 by simp; omega]
    rfl
   rw [this]
   simp
  ·rw [decide_eq_false hm]
   refine ⟨n, xs, ?_⟩
   rw [show m.toNat - q.length = 0 by omega]
   simp only [cond_false, Option.bind_some, Sum.elim_inr, List.take_zero, List.append_nil, Int.toNat_natCast]
theorem F18_eq (qs : LL) (ys : List DEv) (s : Pl) (m : Int) (hq : qs.length ≤ 1000) (hs : ∀ q ∈ qs, q.Pairwise Er) (hy : ys.Pairwise Er) (hp : qs.flatten.Perm ys) (hl : ys.length ≤ 100000) :
  F18 qs s m = some (((ys.dropWhile fun e => !kl s (pl e)).take m.toNat, ()), (), ()) := by
 obtain ⟨n, xs, e1, h1⟩ := F11_eq qs ys hq hs hy hp
 obtain ⟨n2, xs2, e2, h2⟩ := F14_eq s h1 (by omega)
 have hdl : (ys.dropWhile fun e => !kl s (pl e)).length ≤ ys.length := (List.dropWhile_sublist _).length_le
 obtain ⟨n3, xs3, e3⟩ := L18_run m _ n2 xs2 [] h2 (by simp; omega)
 unfold F18
 rw [e1]
 simp only [Option.bind_some, Int.toNat_natCast, pl_eta]
 rw [e2]
 simp only [Option.bind_some, Int.toNat_natCast]
 rw [e3]
 simp
theorem F20_eq (qs : LL) (ys : List DEv) (hq : qs.length ≤ 1000) (hs : ∀ q ∈ qs, q.Pairwise Er) (hy : ys.Pairwise Er) (hp : qs.flatten.Perm ys) (hl : ys.length ≤ 100000) (h0 : ∀ e ∈ ys, 0 ≤ e.1 ∧ 0 ≤ e.2.2.1) :
  F20 qs = some ((ys, ()), (), ()) := by
 unfold F20
 rw [F18_eq qs ys _ _ hq hs hy hp hl]
 have hdw : (ys.dropWhile fun e => !kl (0, ((-1), ())) (pl e)) = ys := by
  cases ys with
  | nil => rfl
  | cons y ys =>
   have := h0 y (List.mem_cons_self ..)
   have hk : kl (0, ((-1), ())) (pl y) = true := by rw [kl_iff]; unfold pl; dsimp only; omega
   rw [List.dropWhile_cons_of_neg (by rw [hk]; simp)]
 rw [hdw, List.take_of_length_le (by omega)]
 rfl
theorem F8_eq : F8 = some ((true, ()), (), ()) := by
 unfold F8
 have er : ∀ a b : DEv, kl (pl a) (pl b) = true → Er a b := fun _ _ h => h
 rw [F20_eq _ [(0, (1, (1, (0, (ByteArray.empty, (([] : List Int), (0, (0, ())))))))), (1, (1, (2, (0, (ByteArray.empty, (([] : List Int), (0, (0, ())))))))), (0, (2, (3, (0, (ByteArray.empty, (([] : List Int), (0, (0, ()))))))))] (by simp) ?_ ?_ ?_ (by simp) ?_]
 ·rfl
 ·intro q hq
  simp only [List.mem_cons, List.not_mem_nil, or_false] at hq
  rcases hq with rfl | rfl
  ·refine List.pairwise_cons.2 ⟨fun x hx => ?_, by simp⟩
   simp only [List.mem_cons, List.not_mem_nil, or_false] at hx
   subst hx; exact er _ _ rfl
  ·simp
 ·refine List.pairwise_cons.2 ⟨fun x hx => ?_, List.pairwise_cons.2 ⟨fun x hx => ?_, by simp⟩⟩
  ·simp only [List.mem_cons, List.not_mem_nil, or_false] at hx
   rcases hx with rfl | rfl <;> exact er _ _ rfl
  ·simp only [List.mem_cons, List.not_mem_nil, or_false] at hx
   subst hx; exact er _ _ rfl
 ·simp only [List.flatten_cons, List.flatten_nil, List.append_nil]
  exact (List.Perm.swap _ _ _).cons _
 ·intro e he
  simp only [List.mem_cons, List.not_mem_nil, or_false] at he
  rcases he with rfl | rfl | rfl <;> decide
end Go.IM.V
namespace Go.IM.V
open Go Go.IM Go.Proofs
structure EvG (e : Ev) : Prop where
 w0 : 0 ≤ e.1
 w1 : e.1 < 100
 s0 : 0 ≤ e.2.1
 s1 : e.2.1 < 1000
 t0 : 0 ≤ e.2.2.1
 t1 : e.2.2.1 < 1000
 f : EvF e
theorem FdOK.srt {w : Int} {q : List Ev} {t : Int} (h : FdOK w 60 q t) : q.Pairwise Er := by
 refine List.pairwise_iff_getElem.2 fun i j hi hj hij => ?_
 have := h.rise i j _ _ (List.getElem?_eq_getElem hi) (List.getElem?_eq_getElem hj) hij
 unfold Er; rw [kl_iff]; exact .inl this
theorem FdOK.rises {w : Int} {q : List Ev} {t : Int} (h : FdOK w 60 q t) : q.Pairwise (fun a b => a.2.2.1 < b.2.2.1) :=
 List.pairwise_iff_getElem.2 fun i j hi hj hij => h.rise i j _ _ (List.getElem?_eq_getElem hi) (List.getElem?_eq_getElem hj) hij
theorem FdOK.mem {w : Int} {q : List Ev} {t : Int} (h : FdOK w 60 q t) (hw : 0 ≤ w ∧ w < 100) : ∀ e ∈ q, e.1 = w ∧ EvG e := by
 intro e he
 obtain ⟨i, hi, rfl⟩ := List.getElem_of_mem he
 obtain ⟨h1, h2, h3, h4, h5⟩ := h.who i _ (List.getElem?_eq_getElem hi)
 have ht := h.t1
 have hl := h.len
 exact ⟨h1, ⟨by omega, by omega, by omega, by omega, by omega, by omega, h5⟩⟩
def FdL : Nat → LL → Prop
 | _, [] => True
 | w, q :: qs => (∃ t, FdOK (w : Nat) 60 q t) ∧ FdL (w + 1) qs
theorem df_of {a b : DEv} (h : a.1 ≠ b.1) : Df a b := by
 unfold Df Er
 simp only [kl_iff, pl]
 omega
structure Fds (qs : LL) : Prop where
 len : qs.length ≤ 6
 srt : ∀ q ∈ qs, q.Pairwise Er
 ris : ∀ q ∈ qs, q.Pairwise (fun a b => a.2.2.1 < b.2.2.1)
 l60 : ∀ q ∈ qs, q.length ≤ 60
 df : qs.flatten.Pairwise Df
 ev : ∀ e ∈ qs.flatten, EvG e
 fl : qs.flatten.length ≤ 1000
theorem FdL.ok : ∀ (qs : LL) (w : Nat), FdL w qs → w + qs.length ≤ 100 → (∀ q ∈ qs, q.Pairwise Er) ∧ (∀ q ∈ qs, q.Pairwise (fun a b => a.2.2.1 < b.2.2.1)) ∧ (∀ q ∈ qs, q.length ≤ 60) ∧ qs.flatten.Pairwise Df ∧ (∀ e ∈ qs.flatten, EvG e ∧ (w : Int) ≤ e.1) ∧ qs.flatten.length ≤ 60 * qs.length := by
 intro qs
 induction qs with
 | nil =>
  intro w _ _
  exact ⟨fun q h => (by cases h), fun q h => (by cases h), fun q h => (by cases h), List.Pairwise.nil, fun q h => (by cases h), by simp⟩
 | cons q qs ih =>
  intro w ⟨⟨t, h⟩, hr⟩ hl
  simp only [List.length_cons] at hl
  obtain ⟨i1, i2, i3, i4, i5, i6⟩ := ih (w + 1) hr (by omega)
  have hm := h.mem (by omega)
  refine ⟨fun x hx => ?_, fun x hx => ?_, fun x hx => ?_, ?_, fun e he => ?_, ?_⟩
  ·rcases List.mem_cons.1 hx with rfl | hx
   ·exact h.srt
   ·exact i1 x hx
  ·rcases List.mem_cons.1 hx with rfl | hx
   ·exact h.rises
   ·exact i2 x hx
  ·rcases List.mem_cons.1 hx with rfl | hx
   ·exact h.len
   ·exact i3 x hx
  ·rw [List.flatten_cons, List.pairwise_append]
   refine ⟨h.srt.imp fun hh => .inl hh, i4, fun a ha b hb => df_of ?_⟩
   have := (hm a ha).1
   have := (i5 b hb).2
   omega
  ·rw [List.flatten_cons, List.mem_append] at he
   rcases he with he | he
   ·exact ⟨(hm e he).2, by have := (hm e he).1; omega⟩
   ·exact ⟨(i5 e he).1, by have := (i5 e he).2; omega⟩
  ·rw [List.flatten_cons, List.length_append, List.length_cons]
   have := h.len
   omega
theorem FdL.fds {qs : LL} (h : FdL 0 qs) (hl : qs.length ≤ 6) : Fds qs := by
 obtain ⟨i1, i2, i3, i4, i5, i6⟩ := h.ok qs 0 (by omega)
 exact ⟨hl, i1, i2, i3, i4, fun e he => (i5 e he).1, by omega⟩
theorem F9_ok (a0 : List Int) (ha : U16s a0) (w : Int) (h0 : 0 ≤ w) (h1 : w < 256) : ∃ qs, F9 a0 (IntKind.wrap .i64 (1 + (((IntKind.wrap .i64 w) : Int).tmod 6))) = some ((qs, ()), (), ()) ∧ Fds qs := by
 rw [w64 (n := w) (by omega) (by omega), Int.tmod_eq_emod_of_nonneg h0]
 have h2 := Int.emod_nonneg w (show (6 : Int) ≠ 0 by omega)
 have h3 := Int.emod_lt_of_pos w (show (0 : Int) < 6 by omega)
 rw [w64 (n := 1 + w % 6) (by omega) (by omega)]
 generalize hv : 1 + w % 6 = v at *
 have hk : v = 1 ∨ v = 2 ∨ v = 3 ∨ v = 4 ∨ v = 5 ∨ v = 6 := by omega
 unfold F9
 rcases hk with rfl | rfl | rfl | rfl | rfl | rfl
 ·obtain ⟨b, q0, e, f0⟩ := F9t1_feeds a0 ha
  exact ⟨_, e, FdL.fds ⟨⟨_, f0⟩, trivial⟩ (by simp)⟩
 ·obtain ⟨b, q0, q1, e, f0, f1⟩ := F9t2_feeds a0 ha
  exact ⟨_, e, FdL.fds ⟨⟨_, f0⟩, ⟨_, f1⟩, trivial⟩ (by simp)⟩
 ·obtain ⟨b, q0, q1, q2, e, f0, f1, f2⟩ := F9t3_feeds a0 ha
  exact ⟨_, e, FdL.fds ⟨⟨_, f0⟩, ⟨_, f1⟩, ⟨_, f2⟩, trivial⟩ (by simp)⟩
 ·obtain ⟨b, q0, q1, q2, q3, e, f0, f1, f2, f3⟩ := F9t4_feeds a0 ha
  exact ⟨_, e, FdL.fds ⟨⟨_, f0⟩, ⟨_, f1⟩, ⟨_, f2⟩, ⟨_, f3⟩, trivial⟩ (by simp)⟩
 ·obtain ⟨b, q0, q1, q2, q3, q4, e, f0, f1, f2, f3, f4⟩ := F9t5_feeds a0 ha
  exact ⟨_, e, FdL.fds ⟨⟨_, f0⟩, ⟨_, f1⟩, ⟨_, f2⟩, ⟨_, f3⟩, ⟨_, f4⟩, trivial⟩ (by simp)⟩
 ·obtain ⟨b, q0, q1, q2, q3, q4, q5, e, f0, f1, f2, f3, f4, f5⟩ := F9t6_feeds a0 ha
  exact ⟨_, e, FdL.fds ⟨⟨_, f0⟩, ⟨_, f1⟩, ⟨_, f2⟩, ⟨_, f3⟩, ⟨_, f4⟩, ⟨_, f5⟩, trivial⟩ (by simp)⟩
end Go.IM.V
namespace Go.IM.V
open Go Go.IM Go.Proofs
def bk (l : List DEv) (j : Nat) : Bool := kl (pl (l.getD j dv0)) (pl (l.getD (j - 1) dv0))
def cnt (t : Int) (l : List DEv) : Nat := (l.filter fun e => decide (e.2.2.1 ≤ t)).length
theorem cnt_iff {t : Int} : ∀ {l : List DEv}, l.Pairwise (fun a b => a.2.2.1 < b.2.2.1) → ∀ i, i < l.length → ((l.getD i dv0).2.2.1 ≤ t ↔ i < cnt t l) := by
 intro l
 induction l with
 | nil => intro _ i hi; simp at hi
 | cons e l ih =>
  intro h i hi
  obtain ⟨h1, h2⟩ := List.pairwise_cons.1 h
  by_cases he : e.2.2.1 ≤ t
  ·have hc : cnt t (e :: l) = cnt t l + 1 := by unfold cnt; rw [List.filter_cons_of_pos (by simpa using he)]; rfl
   cases i with
   | zero => rw [hc]; simp only [List.getD_cons_zero]; exact ⟨fun _ => by omega, fun _ => he⟩
   | succ i =>
    rw [hc, List.getD_cons_succ, ih h2 i (by simpa using hi)]
    omega
  ·have hall : ∀ x ∈ l, ¬ x.2.2.1 ≤ t := fun x hx => by have := h1 x hx; omega
   have hc : cnt t (e :: l) = 0 := by
    unfold cnt
    rw [List.filter_cons_of_neg (by simpa using he), List.length_eq_zero_iff, List.filter_eq_nil_iff]
    intro x hx
    simpa using hall x hx
   rw [hc]
   refine ⟨fun h => ?_, fun h => by omega⟩
   cases i with
   | zero => exact absurd h he
   | succ i =>
    simp only [List.getD_cons_succ, List.length_cons] at h hi
    rw [getD_get (by omega)] at h
    exact absurd h (hall _ (List.getElem_mem _))
theorem cnt_le (t : Int) (l : List DEv) : cnt t l ≤ l.length := List.length_filter_le _ _
theorem shr1 {n : Int} (h : 0 ≤ n) : iShr .u64 n 1 = n / 2 := by
 unfold iShr
 show n.fdiv (2 ^ 1) = _
 rw [Int.fdiv_eq_ediv_of_nonneg _ (by omega)]
 rfl
theorem F32_eq (e : DEv) (t : Int) : F32 e t = some (((if e.2.2.1 ≤ t then -1 else 1), ()), (), ()) := by
 unfold F32
 rw [cif]
 split <;> rfl
theorem L31_run (l : List DEv) (t : Int) (hl : l.length ≤ 1000000) (hs : l.Pairwise (fun a b => a.2.2.1 < b.2.2.1)) : ∀ (d i j : Nat), j ≤ i + d → i ≤ cnt t l → cnt t l ≤ j → j ≤ l.length →
  L31_3 l t (l.length : Nat) (i : Nat) (j : Nat) = some ((((cnt t l : Nat) : Int), ()), (), ()) := by
 intro d
 induction d with
 | zero =>
  intro i j h1 h2 h3 h4
  rw [L31_3_eq]; unfold T31_3
  rw [decide_eq_false (by omega)]
  simp only [cond_false, Option.bind_some, Sum.elim_inr]
  rw [show i = cnt t l by omega]
 | succ d ih =>
  intro i j h1 h2 h3 h4
  rw [L31_3_eq]; unfold T31_3
  by_cases hij : i < j
  ·have hm : IntKind.wrap .i64 (iShr .u64 (IntKind.wrap .u64 (IntKind.wrap .i64 ((i : Int) + (j : Int)))) 1) = (((i + j) / 2 : Nat) : Int) := by
    rw [wz (n := (i : Int) + j) (by omega) (by omega), wu64 (by omega) (by omega), shr1 (by omega), wz (by omega) (by omega)]
    omega
   rw [hm]
   rw [decide_eq_true (show (i : Int) < (j : Int) by omega), decide_eq_true (show 0 ≤ (((i + j) / 2 : Nat) : Int) ∧ (((i + j) / 2 : Nat) : Int) < (l.length : Int) by omega)]
   simp only [cond_true, dev_eta, F32_eq, Option.bind_some, Int.toNat_natCast]
   have hc := cnt_iff (t := t) hs ((i + j) / 2) (by omega)
   by_cases hq : (l.getD ((i + j) / 2) dv0).2.2.1 ≤ t
   ·rw [if_pos hq, show decide ((-1 : Int) < 0) = true from rfl]
    simp only [cond_true, Option.bind_some, Sum.elim_inl]
    rw [show IntKind.wrap .i64 ((((i + j) / 2 : Nat) : Int) + 1) = (((i + j) / 2 + 1 : Nat) : Int) by rw [wz (by omega) (by omega)]; rfl]
    have := hc.1 hq
    exact ih _ _ (by omega) (by omega) h3 h4
   ·rw [if_neg hq, show decide ((1 : Int) < 0) = false from rfl]
    simp only [cond_false, Option.bind_some, Sum.elim_inl]
    have : ¬ (i + j) / 2 < cnt t l := fun h => hq (hc.2 h)
    exact ih _ _ (by omega) h2 (by omega) (by omega)
  ·rw [decide_eq_false (by omega)]
   simp only [cond_false, Option.bind_some, Sum.elim_inr]
   rw [show i = cnt t l by omega]
theorem F31_eq (l : List DEv) (t : Int) (hl : l.length ≤ 1000000) (hs : l.Pairwise (fun a b => a.2.2.1 < b.2.2.1)) : ∃ b, F31 l t = some ((((cnt t l : Nat) : Int), b, ()), (), ()) := by
 unfold F31
 have hc := cnt_le t l
 rw [show L31_3 l t (l.length : Nat) 0 (l.length : Nat) = _ from L31_run l t hl hs l.length 0 l.length (by omega) (Nat.zero_le _) hc (Nat.le_refl _)]
 simp only [Option.bind_some]
 rw [cif]
 by_cases h : ((cnt t l : Nat) : Int) < (l.length : Int)
 ·rw [if_pos h, decide_eq_true (show 0 ≤ ((cnt t l : Nat) : Int) ∧ ((cnt t l : Nat) : Int) < (l.length : Int) by omega)]
  simp only [cond_true, dev_eta, F32_eq, Option.bind_some]
  exact ⟨_, rfl⟩
 ·rw [if_neg h]
  exact ⟨_, rfl⟩
theorem L21_run (qs : LL) (t : Int) (hq : qs.length ≤ 1000) (hl : ∀ q ∈ qs, q.length ≤ 60) (hs : ∀ q ∈ qs, q.Pairwise (fun a b => a.2.2.1 < b.2.2.1)) : ∀ (d k : Nat) (q : List Int), k + d = qs.length → q.length = k →
  L21_3 t qs (qs.length : Nat) (k : Nat) q = some (((), ()), (), (q ++ (qs.drop k).map (fun l => ((cnt t l : Nat) : Int)), ())) := by
 intro d
 induction d with
 | zero =>
  intro k q hk hqk
  rw [L21_3_eq]; unfold T21_3
  rw [decide_eq_false (by omega), List.drop_eq_nil_of_le (by omega)]
  simp
 | succ d ih =>
  intro k q hk hqk
  have hkl : k < qs.length := by omega
  rw [L21_3_eq]; unfold T21_3
  rw [decide_eq_true (show (k : Int) < (qs.length : Int) by omega), decide_eq_true (show 0 ≤ (k : Int) ∧ (k : Int) < (qs.length : Int) by omega), Int.toNat_natCast, getD_get hkl]
  obtain ⟨b, e⟩ := F31_eq qs[k] t (by have := hl _ (List.getElem_mem hkl); omega) (hs _ (List.getElem_mem hkl))
  rw [e]
  simp only [cond_true, Option.bind_some]
  rw [decide_eq_true (by rw [limE]; simp only [List.length_cons, List.length_nil]; omega)]
  simp only [cond_true, Option.bind_some, Sum.elim_inl]
  rw [show IntKind.wrap .i64 ((k : Int) + 1) = ((k + 1 : Nat) : Int) by rw [wz (by omega) (by omega)]; rfl]
  rw [ih (k + 1) _ (by omega) (by simp; omega), List.drop_eq_getElem_cons hkl, List.map_cons, List.append_assoc]
  rfl
theorem F21_eq (qs : LL) (t : Int) (hq : qs.length ≤ 1000) (hl : ∀ q ∈ qs, q.length ≤ 60) (hs : ∀ q ∈ qs, q.Pairwise (fun a b => a.2.2.1 < b.2.2.1)) : F21 qs t = some ((qs.map (fun l => ((cnt t l : Nat) : Int)), ()), (), ()) := by
 unfold F21
 have h := L21_run qs t hq hl hs qs.length 0 [] (by omega) rfl
 simp only [List.drop_zero, List.nil_append] at h
 rw [show L21_3 t qs (qs.length : Nat) 0 ([] : List Int) = _ from h]
 rfl
theorem L7_14_run (qs : LL) (g : List Int) (t : Int) (i : Nat) (hi : i < qs.length) (hil : qs.length ≤ 1000) (hl : (qs.getD i []).length ≤ 1000) : ∀ (d k n : Nat), k + d = (qs.getD i []).length → n ≤ k →
  L7_14 t qs g (i : Nat) (n : Nat) (k : Nat) = some ((((n + cnt t ((qs.getD i []).drop k) : Nat) : Int), ()), (), ()) := by
 intro d
 induction d with
 | zero =>
  intro k n hk hn
  rw [L7_14_eq]; unfold T7_14
  rw [decide_eq_true (show 0 ≤ (i : Int) ∧ (i : Int) < (qs.length : Int) by omega), Int.toNat_natCast, decide_eq_false (by omega), List.drop_eq_nil_of_le (by omega)]
  rfl
 | succ d ih =>
  intro k n hk hn
  have hkl : k < (qs.getD i []).length := by omega
  rw [L7_14_eq]; unfold T7_14
  rw [decide_eq_true (show 0 ≤ (i : Int) ∧ (i : Int) < (qs.length : Int) by omega), Int.toNat_natCast, decide_eq_true (show (k : Int) < (((qs.getD i []).length : Nat) : Int) by omega), decide_eq_true (show 0 ≤ (k : Int) ∧ (k : Int) < (((qs.getD i []).length : Nat) : Int) by omega)]
  simp only [cond_true, Int.toNat_natCast]
  rw [show IntKind.wrap .i64 ((k : Int) + 1) = ((k + 1 : Nat) : Int) by rw [wz (by omega) (by omega)]; rfl, show IntKind.wrap .i64 ((n : Int) + 1) = ((n + 1 : Nat) : Int) by rw [wz (by omega) (by omega)]; rfl]
  rw [List.drop_eq_getElem_cons hkl, ← getD_get hkl dv0]
  unfold cnt
  by_cases hq : ((qs.getD i []).getD k dv0).2.2.1 ≤ t
  ·rw [List.filter_cons_of_pos (by simpa using hq), decide_eq_true hq]
   simp only [cond_true, Option.bind_some, Sum.elim_inl]
   rw [ih (k + 1) (n + 1) (by omega) (by omega)]
   unfold cnt
   rw [show n + 1 + (((qs.getD i []).drop (k + 1)).filter fun e => decide (e.2.2.1 ≤ t)).length = n + ((qs.getD i []).getD k dv0 :: ((qs.getD i []).drop (k + 1)).filter fun e => decide (e.2.2.1 ≤ t)).length by simp only [List.length_cons]; omega]
  ·rw [List.filter_cons_of_neg (by simpa using hq), decide_eq_false hq]
   simp only [cond_false, Option.bind_some, Sum.elim_inl]
   rw [ih (k + 1) n (by omega) (by omega)]
   rfl
theorem L7_10_run (qs : LL) (t : Int) (hq : qs.length ≤ 1000) (hl : ∀ q ∈ qs, q.length ≤ 60) : ∀ (d k : Nat), k + d = qs.length →
  L7_10 t qs (qs.map (fun l => ((cnt t l : Nat) : Int))) (k : Nat) = some (.inr ((), (), ())) := by
 intro d
 induction d with
 | zero =>
  intro k hk
  rw [L7_10_eq]; unfold T7_10
  rw [decide_eq_false (by omega)]
  rfl
 | succ d ih =>
  intro k hk
  have hkl : k < qs.length := by omega
  have hkq : (qs.getD k []) = qs[k] := getD_get hkl _
  rw [L7_10_eq]; unfold T7_10
  rw [decide_eq_true (show (k : Int) < (qs.length : Int) by omega)]
  rw [show L7_14 t qs (qs.map (fun l => ((cnt t l : Nat) : Int))) (k : Nat) 0 0 = _ from L7_14_run qs _ t k hkl hq (by rw [hkq]; have := hl _ (List.getElem_mem hkl); omega) (qs.getD k []).length 0 0 (by omega) (by omega)]
  simp only [cond_true, Option.bind_some, Int.toNat_natCast, Nat.zero_add, List.drop_zero]
  rw [decide_eq_true (show 0 ≤ (k : Int) ∧ (k : Int) < (((qs.map (fun l => ((cnt t l : Nat) : Int))).length : Nat) : Int) by rw [List.length_map]; omega)]
  rw [show (qs.map (fun l => ((cnt t l : Nat) : Int))).getD k 0 = ((cnt t (qs.getD k []) : Nat) : Int) by rw [getD_get (by rw [List.length_map]; exact hkl), List.getElem_map, hkq]]
  rw [bneSelf]
  simp only [cond_true, cond_false, Option.bind_some, Sum.elim_inl]
  rw [show IntKind.wrap .i64 ((k : Int) + 1) = ((k + 1 : Nat) : Int) by rw [wz (by omega) (by omega)]; rfl]
  exact ih (k + 1) (by omega)
theorem orderCounts_pure (a0 : List Int) (ha : U16s a0) (w : Int) (h0 : 0 ≤ w) (h1 : w < 256) (t : Int) (b : Bool) : F7 a0 w t b = some (r1 true) := by
 obtain ⟨qs, e, h⟩ := F9_ok a0 ha w h0 h1
 have hq : qs.length ≤ 1000 := by have := h.len; omega
 unfold F7
 rw [F8_eq]
 simp only [Option.bind_some, Bool.not_true, cond_false]
 rw [e]
 simp only [Option.bind_some]
 rw [F21_eq qs _ hq h.l60 h.ris, F21_eq qs _ hq h.l60 h.ris]
 simp only [Option.bind_some, List.length_map, bneSelf, cond_false]
 rw [show ∀ t, L7_10 t qs (qs.map (fun l => ((cnt t l : Nat) : Int))) 0 = _ from fun t => L7_10_run qs t hq h.l60 qs.length 0 (by omega), show ∀ t, L7_10 t qs (qs.map (fun l => ((cnt t l : Nat) : Int))) 0 = _ from fun t => L7_10_run qs t hq h.l60 qs.length 0 (by omega)]
 simp only [Option.bind_some, Sum.elim_inr]
 cases decide (((a0.length : Nat) : Int) > 60) <;> cases b <;> rfl
end Go.IM.V