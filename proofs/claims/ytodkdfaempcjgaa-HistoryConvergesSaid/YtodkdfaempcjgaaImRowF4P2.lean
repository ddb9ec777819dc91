/- What the code of a law comes to, and what that tells: part 2. Lemmas alone; no conditions. -/
import Derived.Test.YtodkdfaempcjgaaImRowF4P1
set_option linter.unusedVariables false
set_option linter.constructorNameAsVariable false
namespace Go.IM.V
open Go Go.IM Go.Proofs
noncomputable def F25 (b0_1:(List Bool)) (b0_2:(List Bool)) (b0_3:(List Int)) (b0_4:Int) (b0_5:Int) (b0_6:Int) (b1_0:(List (ByteArray × DCe))):Option ((Unit × Unit) × (ZFt × (ZKt × (ZFt × (ZKt × Unit)))) × Unit):=
 ((F65 b1_0).bind fun y0=>(some (((),()),(((),b0_1,b0_2,b0_3,b0_4,b0_5,b0_6,()),y0.2.1.1,((),(cpN 64 false (b0_1)),(cpN 64 false (b0_2)),b0_3,b0_4,b0_5,b0_6,()),y0.2.1.2.1,()),())))
noncomputable def c25:Con:=⟨{ sl := [(0,.p 0 0)],bx := [[.mv 1,.sg 64 .b,.sg 64 .b,.v (.l (.i .u64)),.v (.i .u64),.v (.i .i64),.v (.i .u64)], [.ms tDCe]] },(.ret { sl := [(0,.p 2 0)],bx := [[.mv 1,.sg 64 .b,.sg 64 .b,.v (.l (.i .u64)),.v (.i .u64),.v (.i .i64),.v (.i .u64)], [.ms tDCe], [.mv 3,.sg 64 .b,.sg 64 .b,.v (.l (.i .u64)),.v (.i .u64),.v (.i .i64),.v (.i .u64)], [.ms tDCe]] }),fun x=>F25 x.2.1.1.2.1 x.2.1.1.2.2.1 x.2.1.1.2.2.2.1 x.2.1.1.2.2.2.2.1 x.2.1.1.2.2.2.2.2.1 x.2.1.1.2.2.2.2.2.2.1 x.2.1.2.1.1⟩
theorem c25_ok:Con.OK Try.prog 25 c25:=fnX [(65,c65),(900003,cHot)] ⟨c65_ok,cHot_ok,trivial⟩ Try.func25
noncomputable def T45_3 (a0:(List DEv)) (a1:Int) (a6:Int) (b0_1:(List Bool)) (b0_2:(List Bool)) (b0_3:(List Int)) (b0_4:Int) (b0_5:Int) (b0_6:Int) (b1_0:(List (ByteArray × DCe))):Option ((((List DEv) × (Int × (Unit × (Int × Unit)))) × (ZFt × (ZKt × Unit)) × Unit) ⊕ (Unit × (ZFt × (ZKt × Unit)) × Unit)):=
 (bif (decide ((a6:Int)<a1)) then (bif (decide (0≤(a6:Int)∧(a6:Int)<(((a0).length:Nat):Int))) then ((F23 ((a0).getD (a6:Int).toNat zE) b0_1 b0_2 b0_3 b0_4 b0_5 b0_6 b1_0).bind fun y0=>(some (.inl ((a0,a1,(),(IntKind.wrap .i64 (a6+1)),()),y0.2.1,())))) else none) else (some (.inr ((),(((),b0_1,b0_2,b0_3,b0_4,b0_5,b0_6,()),(b1_0,()),()),()))))
noncomputable def L45_3 (a0:(List DEv)) (a1:Int) (a6:Int) (b0_1:(List Bool)) (b0_2:(List Bool)) (b0_3:(List Int)) (b0_4:Int) (b0_5:Int) (b0_6:Int) (b1_0:(List (ByteArray × DCe))):Option (Unit × (ZFt × (ZKt × Unit)) × Unit):=loopF (fun x:(((List DEv) × (Int × (Unit × (Int × Unit)))) × (ZFt × (ZKt × Unit)) × Unit)=>T45_3 x.1.1 x.1.2.1 x.1.2.2.2.1 x.2.1.1.2.1 x.2.1.1.2.2.1 x.2.1.1.2.2.2.1 x.2.1.1.2.2.2.2.1 x.2.1.1.2.2.2.2.2.1 x.2.1.1.2.2.2.2.2.2.1 x.2.1.2.1.1) ((a0,a1,(),a6,()),(((),b0_1,b0_2,b0_3,b0_4,b0_5,b0_6,()),(b1_0,()),()),())
theorem L45_3_eq (a0:(List DEv)) (a1:Int) (a6:Int) (b0_1:(List Bool)) (b0_2:(List Bool)) (b0_3:(List Int)) (b0_4:Int) (b0_5:Int) (b0_6:Int) (b1_0:(List (ByteArray × DCe))):L45_3 a0 a1 a6 b0_1 b0_2 b0_3 b0_4 b0_5 b0_6 b1_0=(T45_3 a0 a1 a6 b0_1 b0_2 b0_3 b0_4 b0_5 b0_6 b1_0).bind (Sum.elim (fun x=>L45_3 x.1.1 x.1.2.1 x.1.2.2.2.1 x.2.1.1.2.1 x.2.1.1.2.2.1 x.2.1.1.2.2.2.1 x.2.1.1.2.2.2.2.1 x.2.1.1.2.2.2.2.2.1 x.2.1.1.2.2.2.2.2.2.1 x.2.1.2.1.1) some):=loopF_eq _ _
noncomputable def k45_3:Con:=⟨{ sl := [(0,.v (.l tDEv)),(1,.v (.i .i64)),(5,.p 0 0),(6,.v (.i .i64))],bx := [[.mv 1,.sg 64 .b,.sg 64 .b,.v (.l (.i .u64)),.v (.i .u64),.v (.i .i64),.v (.i .u64)], [.ms tDCe]] },(.exit 0 { sl := [],bx := [[.mv 1,.sg 64 .b,.sg 64 .b,.v (.l (.i .u64)),.v (.i .u64),.v (.i .i64),.v (.i .u64)], [.ms tDCe]] }),fun x=>L45_3 x.1.1 x.1.2.1 x.1.2.2.2.1 x.2.1.1.2.1 x.2.1.1.2.2.1 x.2.1.1.2.2.2.1 x.2.1.1.2.2.2.2.1 x.2.1.1.2.2.2.2.2.1 x.2.1.1.2.2.2.2.2.2.1 x.2.1.2.1.1⟩
theorem k45_3_ok:Con.LOK Try.prog Try.f45.ntmps (lpOf Try.f45 3) k45_3:=lpX [(23,c23)] [] [] (fun x=>T45_3 x.1.1 x.1.2.1 x.1.2.2.2.1 x.2.1.1.2.1 x.2.1.1.2.2.1 x.2.1.1.2.2.2.1 x.2.1.1.2.2.2.2.1 x.2.1.1.2.2.2.2.2.1 x.2.1.1.2.2.2.2.2.2.1 x.2.1.2.1.1) ⟨c23_ok,trivial⟩ trivial
noncomputable def F45 (a0:(List DEv)) (a1:Int):Option ((Unit × Unit) × (ZFt × (ZKt × Unit)) × Unit):=
 ((F20).bind fun y0=>((L45_3 a0 a1 0 y0.2.1.1.2.1 y0.2.1.1.2.2.1 y0.2.1.1.2.2.2.1 y0.2.1.1.2.2.2.2.1 y0.2.1.1.2.2.2.2.2.1 y0.2.1.1.2.2.2.2.2.2.1 y0.2.1.2.1.1).bind fun y1=>(some (((),()),y1.2.1,()))))
noncomputable def c45:Con:=⟨{ sl := [(0,.v (.l tDEv)),(1,.v (.i .i64))] },(.ret { sl := [(0,.p 0 0)],bx := [[.mv 1,.sg 64 .b,.sg 64 .b,.v (.l (.i .u64)),.v (.i .u64),.v (.i .i64),.v (.i .u64)], [.ms tDCe]] }),fun x=>F45 x.1.1 x.1.2.1⟩
theorem c45_ok:Con.OK Try.prog 45 c45:=fnL [(20,c20),(23,c23)] [(3,k45_3)] [3] ⟨c20_ok,c23_ok,trivial⟩ ⟨k45_3_ok,trivial⟩ Try.func45
noncomputable def T44_5 (a22:(List DEv)) (a23:Int) (a24:Int) (b0_1:(List DEv)) (b1_1:(List Bool)) (b1_2:(List Bool)) (b1_3:(List Int)) (b1_4:Int) (b1_5:Int) (b1_6:Int) (b2_1:(List Bool)) (b2_2:(List Bool)) (b2_3:(List Int)) (b2_4:Int) (b2_5:Int) (b2_6:Int) (b3_0:(List (ByteArray × DCe))) (b4_0:(List (ByteArray × DCe))):Option (((Unit × ((List DEv) × (Int × (Int × Unit)))) × ((Unit × ((List DEv) × (Unit × Unit))) × (ZFt × (ZFt × (ZKt × (ZKt × Unit))))) × Unit) ⊕ (((Unit × (Int × Unit)) × ((Unit × ((List DEv) × (Unit × Unit))) × (ZFt × (ZFt × (ZKt × (ZKt × Unit))))) × Unit) ⊕ (Unit × ((Unit × ((List DEv) × (Unit × Unit))) × (ZFt × (ZFt × (ZKt × (ZKt × Unit))))) × Unit))):=
 (bif (decide ((a24:Int)<a23)) then (bif (decide (0≤(a24:Int)∧(a24:Int)<(((a22).length:Nat):Int))) then ((F23 ((a22).getD (a24:Int).toNat zE) b2_1 b2_2 b2_3 b2_4 b2_5 b2_6 b4_0).bind fun y0=>(bif ((y0.1.1:Int) != 0) then (some (.inr (.inl (((),y0.1.1,()),(((),b0_1,(),()),((),b1_1,b1_2,b1_3,b1_4,b1_5,b1_6,()),y0.2.1.1,(b3_0,()),y0.2.1.2.1,()),())))) else (some (.inl (((),a22,a23,(IntKind.wrap .i64 (a24+1)),()),(((),b0_1,(),()),((),b1_1,b1_2,b1_3,b1_4,b1_5,b1_6,()),y0.2.1.1,(b3_0,()),y0.2.1.2.1,()),()))))) else none) else (some (.inr (.inr ((),(((),b0_1,(),()),((),b1_1,b1_2,b1_3,b1_4,b1_5,b1_6,()),((),b2_1,b2_2,b2_3,b2_4,b2_5,b2_6,()),(b3_0,()),(b4_0,()),()),())))))
noncomputable def L44_5 (a22:(List DEv)) (a23:Int) (a24:Int) (b0_1:(List DEv)) (b1_1:(List Bool)) (b1_2:(List Bool)) (b1_3:(List Int)) (b1_4:Int) (b1_5:Int) (b1_6:Int) (b2_1:(List Bool)) (b2_2:(List Bool)) (b2_3:(List Int)) (b2_4:Int) (b2_5:Int) (b2_6:Int) (b3_0:(List (ByteArray × DCe))) (b4_0:(List (ByteArray × DCe))):Option (((Unit × (Int × Unit)) × ((Unit × ((List DEv) × (Unit × Unit))) × (ZFt × (ZFt × (ZKt × (ZKt × Unit))))) × Unit) ⊕ (Unit × ((Unit × ((List DEv) × (Unit × Unit))) × (ZFt × (ZFt × (ZKt × (ZKt × Unit))))) × Unit)):=loopF (fun x:((Unit × ((List DEv) × (Int × (Int × Unit)))) × ((Unit × ((List DEv) × (Unit × Unit))) × (ZFt × (ZFt × (ZKt × (ZKt × Unit))))) × Unit)=>T44_5 x.1.2.1 x.1.2.2.1 x.1.2.2.2.1 x.2.1.1.2.1 x.2.1.2.1.2.1 x.2.1.2.1.2.2.1 x.2.1.2.1.2.2.2.1 x.2.1.2.1.2.2.2.2.1 x.2.1.2.1.2.2.2.2.2.1 x.2.1.2.1.2.2.2.2.2.2.1 x.2.1.2.2.1.2.1 x.2.1.2.2.1.2.2.1 x.2.1.2.2.1.2.2.2.1 x.2.1.2.2.1.2.2.2.2.1 x.2.1.2.2.1.2.2.2.2.2.1 x.2.1.2.2.1.2.2.2.2.2.2.1 x.2.1.2.2.2.1.1 x.2.1.2.2.2.2.1.1) (((),a22,a23,a24,()),(((),b0_1,(),()),((),b1_1,b1_2,b1_3,b1_4,b1_5,b1_6,()),((),b2_1,b2_2,b2_3,b2_4,b2_5,b2_6,()),(b3_0,()),(b4_0,()),()),())
theorem L44_5_eq (a22:(List DEv)) (a23:Int) (a24:Int) (b0_1:(List DEv)) (b1_1:(List Bool)) (b1_2:(List Bool)) (b1_3:(List Int)) (b1_4:Int) (b1_5:Int) (b1_6:Int) (b2_1:(List Bool)) (b2_2:(List Bool)) (b2_3:(List Int)) (b2_4:Int) (b2_5:Int) (b2_6:Int) (b3_0:(List (ByteArray × DCe))) (b4_0:(List (ByteArray × DCe))):L44_5 a22 a23 a24 b0_1 b1_1 b1_2 b1_3 b1_4 b1_5 b1_6 b2_1 b2_2 b2_3 b2_4 b2_5 b2_6 b3_0 b4_0=(T44_5 a22 a23 a24 b0_1 b1_1 b1_2 b1_3 b1_4 b1_5 b1_6 b2_1 b2_2 b2_3 b2_4 b2_5 b2_6 b3_0 b4_0).bind (Sum.elim (fun x=>L44_5 x.1.2.1 x.1.2.2.1 x.1.2.2.2.1 x.2.1.1.2.1 x.2.1.2.1.2.1 x.2.1.2.1.2.2.1 x.2.1.2.1.2.2.2.1 x.2.1.2.1.2.2.2.2.1 x.2.1.2.1.2.2.2.2.2.1 x.2.1.2.1.2.2.2.2.2.2.1 x.2.1.2.2.1.2.1 x.2.1.2.2.1.2.2.1 x.2.1.2.2.1.2.2.2.1 x.2.1.2.2.1.2.2.2.2.1 x.2.1.2.2.1.2.2.2.2.2.1 x.2.1.2.2.1.2.2.2.2.2.2.1 x.2.1.2.2.2.1.1 x.2.1.2.2.2.2.1.1) some):=loopF_eq _ _
noncomputable def k44_5:Con:=⟨{ sl := [(6,.p 0 0),(22,.v (.l tDEv)),(23,.v (.i .i64)),(24,.v (.i .i64))],bx := [[.p 1 0,.v (.l tDEv),.p 2 0], [.mv 3,.sg 64 .b,.sg 64 .b,.v (.l (.i .u64)),.v (.i .u64),.v (.i .i64),.v (.i .u64)], [.mv 4,.sg 64 .b,.sg 64 .b,.v (.l (.i .u64)),.v (.i .u64),.v (.i .i64),.v (.i .u64)], [.ms tDCe], [.ms tDCe]] },(.two (.ret { sl := [(4,.nl),(5,.v (.i .i64))],bx := [[.p 1 0,.v (.l tDEv),.p 2 0], [.mv 3,.sg 64 .b,.sg 64 .b,.v (.l (.i .u64)),.v (.i .u64),.v (.i .i64),.v (.i .u64)], [.mv 4,.sg 64 .b,.sg 64 .b,.v (.l (.i .u64)),.v (.i .u64),.v (.i .i64),.v (.i .u64)], [.ms tDCe], [.ms tDCe]] }) (.exit 0 { sl := [],bx := [[.p 1 0,.v (.l tDEv),.p 2 0], [.mv 3,.sg 64 .b,.sg 64 .b,.v (.l (.i .u64)),.v (.i .u64),.v (.i .i64),.v (.i .u64)], [.mv 4,.sg 64 .b,.sg 64 .b,.v (.l (.i .u64)),.v (.i .u64),.v (.i .i64),.v (.i .u64)], [.ms tDCe], [.ms tDCe]] })),fun x=>L44_5 x.1.2.1 x.1.2.2.1 x.1.2.2.2.1 x.2.1.1.2.1 x.2.1.2.1.2.1 x.2.1.2.1.2.2.1 x.2.1.2.1.2.2.2.1 x.2.1.2.1.2.2.2.2.1 x.2.1.2.1.2.2.2.2.2.1 x.2.1.2.1.2.2.2.2.2.2.1 x.2.1.2.2.1.2.1 x.2.1.2.2.1.2.2.1 x.2.1.2.2.1.2.2.2.1 x.2.1.2.2.1.2.2.2.2.1 x.2.1.2.2.1.2.2.2.2.2.1 x.2.1.2.2.1.2.2.2.2.2.2.1 x.2.1.2.2.2.1.1 x.2.1.2.2.2.2.1.1⟩
theorem k44_5_ok:Con.LOK Try.prog Try.f44.ntmps (lpOf Try.f44 5) k44_5:=lpX [(23,c23)] [] [] (fun x=>T44_5 x.1.2.1 x.1.2.2.1 x.1.2.2.2.1 x.2.1.1.2.1 x.2.1.2.1.2.1 x.2.1.2.1.2.2.1 x.2.1.2.1.2.2.2.1 x.2.1.2.1.2.2.2.2.1 x.2.1.2.1.2.2.2.2.2.1 x.2.1.2.1.2.2.2.2.2.2.1 x.2.1.2.2.1.2.1 x.2.1.2.2.1.2.2.1 x.2.1.2.2.1.2.2.2.1 x.2.1.2.2.1.2.2.2.2.1 x.2.1.2.2.1.2.2.2.2.2.1 x.2.1.2.2.1.2.2.2.2.2.2.1 x.2.1.2.2.2.1.1 x.2.1.2.2.2.2.1.1) ⟨c23_ok,trivial⟩ trivial
noncomputable def F44 (a1:(List (List DEv))) (b0_1:(List Bool)) (b0_2:(List Bool)) (b0_3:(List Int)) (b0_4:Int) (b0_5:Int) (b0_6:Int) (b1_0:(List (ByteArray × DCe))):Option ((Unit × (Int × Unit)) × (ZFt × (ZKt × ((Unit × ((List DEv) × (Unit × Unit))) × (ZFt × (ZKt × Unit))))) × Unit):=
 ((F85 a1).bind fun y0=>((F25 b0_1 b0_2 b0_3 b0_4 b0_5 b0_6 b1_0).bind fun y1=>((L44_5 y0.1.1 (((y0.1.1).length:Nat):Int) 0 y0.1.1 y1.2.1.1.2.1 y1.2.1.1.2.2.1 y1.2.1.1.2.2.2.1 y1.2.1.1.2.2.2.2.1 y1.2.1.1.2.2.2.2.2.1 y1.2.1.1.2.2.2.2.2.2.1 y1.2.1.2.2.1.2.1 y1.2.1.2.2.1.2.2.1 y1.2.1.2.2.1.2.2.2.1 y1.2.1.2.2.1.2.2.2.2.1 y1.2.1.2.2.1.2.2.2.2.2.1 y1.2.1.2.2.1.2.2.2.2.2.2.1 y1.2.1.2.1.1 y1.2.1.2.2.2.1.1).bind fun y2=>(Sum.elim (fun y3=>none) (fun y3=>(some (((),0,()),(y3.2.1.2.1,y3.2.1.2.2.2.1,((),y3.2.1.1.2.1,(),()),y3.2.1.2.2.1,y3.2.1.2.2.2.2.1,()),()))) y2))))
noncomputable def c44:Con:=⟨{ sl := [(0,.p 0 0),(1,.v (.l (.l tDEv)))],bx := [[.mv 1,.sg 64 .b,.sg 64 .b,.v (.l (.i .u64)),.v (.i .u64),.v (.i .i64),.v (.i .u64)], [.ms tDCe]] },(.ret { sl := [(0,.p 2 0),(1,.v (.i .i64))],bx := [[.mv 1,.sg 64 .b,.sg 64 .b,.v (.l (.i .u64)),.v (.i .u64),.v (.i .i64),.v (.i .u64)], [.ms tDCe], [.p 0 0,.v (.l tDEv),.p 3 0], [.mv 4,.sg 64 .b,.sg 64 .b,.v (.l (.i .u64)),.v (.i .u64),.v (.i .i64),.v (.i .u64)], [.ms tDCe]] }),fun x=>F44 x.1.2.1 x.2.1.1.2.1 x.2.1.1.2.2.1 x.2.1.1.2.2.2.1 x.2.1.1.2.2.2.2.1 x.2.1.1.2.2.2.2.2.1 x.2.1.1.2.2.2.2.2.2.1 x.2.1.2.1.1⟩
theorem c44_ok:Con.OK Try.prog 44 c44:=fnL [(23,c23),(25,c25),(85,c85)] [(5,k44_5)] [5] ⟨c23_ok,c25_ok,c85_ok,trivial⟩ ⟨k44_5_ok,trivial⟩ Try.func44
noncomputable def F82 (b0_1:(List DEv)) (b1_1:(List Bool)) (b1_2:(List Bool)) (b1_3:(List Int)) (b1_4:Int) (b1_5:Int) (b1_6:Int) (b2_0:(List (ByteArray × DCe))):Option ((Int × Unit) × ((Unit × ((List DEv) × (Unit × Unit))) × (ZFt × (ZKt × Unit))) × Unit):=
 (some (((((b0_1).length:Nat):Int),()),(((),b0_1,(),()),((),b1_1,b1_2,b1_3,b1_4,b1_5,b1_6,()),(b2_0,()),()),()))
noncomputable def c82:Con:=⟨{ sl := [(0,.p 0 0)],bx := [[.p 1 0,.v (.l tDEv),.x], [.mv 2,.sg 64 .b,.sg 64 .b,.v (.l (.i .u64)),.v (.i .u64),.v (.i .i64),.v (.i .u64)], [.ms tDCe]] },(.ret { sl := [(0,.v (.i .i64))],bx := [[.p 1 0,.v (.l tDEv),.x], [.mv 2,.sg 64 .b,.sg 64 .b,.v (.l (.i .u64)),.v (.i .u64),.v (.i .i64),.v (.i .u64)], [.ms tDCe]] }),fun x=>F82 x.2.1.1.2.1 x.2.1.2.1.2.1 x.2.1.2.1.2.2.1 x.2.1.2.1.2.2.2.1 x.2.1.2.1.2.2.2.2.1 x.2.1.2.1.2.2.2.2.2.1 x.2.1.2.1.2.2.2.2.2.2.1 x.2.1.2.2.1.1⟩
theorem c82_ok:Con.OK Try.prog 82 c82:=fnX [] trivial Try.func82
noncomputable def F83 (a1:Int) (b0_1:(List DEv)) (b1_1:(List Bool)) (b1_2:(List Bool)) (b1_3:(List Int)) (b1_4:Int) (b1_5:Int) (b1_6:Int) (b2_0:(List (ByteArray × DCe))):Option ((DEv × (Bool × Unit)) × ((Unit × ((List DEv) × (Unit × Unit))) × (ZFt × (ZKt × Unit))) × Unit):=
 (bif (decide ((a1:Int)<0)) then (some (((0,(0,(0,(0,(ByteArray.empty,(([]:List Int),(0,(0,())))))))),false,()),(((),b0_1,(),()),((),b1_1,b1_2,b1_3,b1_4,b1_5,b1_6,()),(b2_0,()),()),())) else ((F82 b0_1 b1_1 b1_2 b1_3 b1_4 b1_5 b1_6 b2_0).bind fun y0=>(bif (decide ((a1:Int)≥y0.1.1)) then (some (((0,(0,(0,(0,(ByteArray.empty,(([]:List Int),(0,(0,())))))))),false,()),(((),y0.2.1.1.2.1,(),()),y0.2.1.2.1,y0.2.1.2.2.1,()),())) else (bif (decide (0≤(a1:Int)∧(a1:Int)<(((y0.2.1.1.2.1).length:Nat):Int))) then (some ((((y0.2.1.1.2.1).getD (a1:Int).toNat zE),true,()),(((),y0.2.1.1.2.1,(),()),y0.2.1.2.1,y0.2.1.2.2.1,()),())) else none))))
noncomputable def c83:Con:=⟨{ sl := [(0,.p 0 0),(1,.v (.i .i64))],bx := [[.p 1 0,.v (.l tDEv),.x], [.mv 2,.sg 64 .b,.sg 64 .b,.v (.l (.i .u64)),.v (.i .u64),.v (.i .i64),.v (.i .u64)], [.ms tDCe]] },(.ret { sl := [(0,.v tDEv),(1,.v .b)],bx := [[.p 1 0,.v (.l tDEv),.x], [.mv 2,.sg 64 .b,.sg 64 .b,.v (.l (.i .u64)),.v (.i .u64),.v (.i .i64),.v (.i .u64)], [.ms tDCe]] }),fun x=>F83 x.1.2.1 x.2.1.1.2.1 x.2.1.2.1.2.1 x.2.1.2.1.2.2.1 x.2.1.2.1.2.2.2.1 x.2.1.2.1.2.2.2.2.1 x.2.1.2.1.2.2.2.2.2.1 x.2.1.2.1.2.2.2.2.2.2.1 x.2.1.2.2.1.1⟩
theorem c83_ok:Con.OK Try.prog 83 c83:=fnX [(82,c82)] ⟨c82_ok,trivial⟩ Try.func83
noncomputable def F84 (b0_1:(List DEv)) (b1_1:(List Bool)) (b1_2:(List Bool)) (b1_3:(List Int)) (b1_4:Int) (b1_5:Int) (b1_6:Int) (b2_0:(List (ByteArray × DCe))):Option ((Unit × Unit) × ((Unit × ((List DEv) × (Unit × Unit))) × (ZFt × (ZKt × (ZFt × (ZKt × Unit))))) × Unit):=
 ((F25 b1_1 b1_2 b1_3 b1_4 b1_5 b1_6 b2_0).bind fun y0=>(some (((),()),(((),b0_1,(),()),y0.2.1.1,y0.2.1.2.1,y0.2.1.2.2.1,y0.2.1.2.2.2.1,()),())))
noncomputable def c84:Con:=⟨{ sl := [(0,.p 0 0)],bx := [[.p 1 0,.v (.l tDEv),.x], [.mv 2,.sg 64 .b,.sg 64 .b,.v (.l (.i .u64)),.v (.i .u64),.v (.i .i64),.v (.i .u64)], [.ms tDCe]] },(.ret { sl := [(0,.p 3 0)],bx := [[.p 1 0,.v (.l tDEv),.x], [.mv 2,.sg 64 .b,.sg 64 .b,.v (.l (.i .u64)),.v (.i .u64),.v (.i .i64),.v (.i .u64)], [.ms tDCe], [.mv 4,.sg 64 .b,.sg 64 .b,.v (.l (.i .u64)),.v (.i .u64),.v (.i .i64),.v (.i .u64)], [.ms tDCe]] }),fun x=>F84 x.2.1.1.2.1 x.2.1.2.1.2.1 x.2.1.2.1.2.2.1 x.2.1.2.1.2.2.2.1 x.2.1.2.1.2.2.2.2.1 x.2.1.2.1.2.2.2.2.2.1 x.2.1.2.1.2.2.2.2.2.2.1 x.2.1.2.2.1.1⟩
theorem c84_ok:Con.OK Try.prog 84 c84:=fnX [(25,c25)] ⟨c25_ok,trivial⟩ Try.func84
noncomputable def T42_5 (a18:Int) (a19:Int) (b0_1:(List DEv)) (b2_1:(List Bool)) (b2_2:(List Bool)) (b2_3:(List Int)) (b2_4:Int) (b2_5:Int) (b2_6:Int) (b4_0:(List (ByteArray × DCe))) (q0:(List DEv)) (q1:(List DVn)) (q2:(List DVn)) (q3:(List DVn)) (q4:(List DVn)):Option (((Unit × (Unit × (Int × (Int × Unit)))) × ((Unit × ((List DEv) × (Unit × Unit))) × (ZUt × (ZFt × (ZMt × (ZKt × Unit))))) × ((List DEv) × ZVt)) ⊕ (Unit × ((Unit × ((List DEv) × (Unit × Unit))) × (ZUt × (ZFt × (ZMt × (ZKt × Unit))))) × ((List DEv) × ZVt))):=
 (bif (decide ((a19:Int)<a18)) then ((F83 a19 b0_1 b2_1 b2_2 b2_3 b2_4 b2_5 b2_6 b4_0).bind fun y0=>(bif (decide ((q0).length+([y0.1.1]).length<lim)) then (some (.inl (((),(),a18,(IntKind.wrap .i64 (a19+1)),()),(((),y0.2.1.1.2.1,(),()),((),(),(),()),y0.2.1.2.1,((),(),(),(),(),()),y0.2.1.2.2.1,()),((q0 ++ [y0.1.1]),q1,q2,q3,q4,())))) else none)) else (some (.inr ((),(((),b0_1,(),()),((),(),(),()),((),b2_1,b2_2,b2_3,b2_4,b2_5,b2_6,()),((),(),(),(),(),()),(b4_0,()),()),(q0,q1,q2,q3,q4,())))))
noncomputable def L42_5 (a18:Int) (a19:Int) (b0_1:(List DEv)) (b2_1:(List Bool)) (b2_2:(List Bool)) (b2_3:(List Int)) (b2_4:Int) (b2_5:Int) (b2_6:Int) (b4_0:(List (ByteArray × DCe))) (q0:(List DEv)) (q1:(List DVn)) (q2:(List DVn)) (q3:(List DVn)) (q4:(List DVn)):Option (Unit × ((Unit × ((List DEv) × (Unit × Unit))) × (ZUt × (ZFt × (ZMt × (ZKt × Unit))))) × ((List DEv) × ZVt)):=loopF (fun x:((Unit × (Unit × (Int × (Int × Unit)))) × ((Unit × ((List DEv) × (Unit × Unit))) × (ZUt × (ZFt × (ZMt × (ZKt × Unit))))) × ((List DEv) × ZVt))=>T42_5 x.1.2.2.1 x.1.2.2.2.1 x.2.1.1.2.1 x.2.1.2.2.1.2.1 x.2.1.2.2.1.2.2.1 x.2.1.2.2.1.2.2.2.1 x.2.1.2.2.1.2.2.2.2.1 x.2.1.2.2.1.2.2.2.2.2.1 x.2.1.2.2.1.2.2.2.2.2.2.1 x.2.1.2.2.2.2.1.1 x.2.2.1 x.2.2.2.1 x.2.2.2.2.1 x.2.2.2.2.2.1 x.2.2.2.2.2.2.1) (((),(),a18,a19,()),(((),b0_1,(),()),((),(),(),()),((),b2_1,b2_2,b2_3,b2_4,b2_5,b2_6,()),((),(),(),(),(),()),(b4_0,()),()),(q0,q1,q2,q3,q4,()))
theorem L42_5_eq (a18:Int) (a19:Int) (b0_1:(List DEv)) (b2_1:(List Bool)) (b2_2:(List Bool)) (b2_3:(List Int)) (b2_4:Int) (b2_5:Int) (b2_6:Int) (b4_0:(List (ByteArray × DCe))) (q0:(List DEv)) (q1:(List DVn)) (q2:(List DVn)) (q3:(List DVn)) (q4:(List DVn)):L42_5 a18 a19 b0_1 b2_1 b2_2 b2_3 b2_4 b2_5 b2_6 b4_0 q0 q1 q2 q3 q4=(T42_5 a18 a19 b0_1 b2_1 b2_2 b2_3 b2_4 b2_5 b2_6 b4_0 q0 q1 q2 q3 q4).bind (Sum.elim (fun x=>L42_5 x.1.2.2.1 x.1.2.2.2.1 x.2.1.1.2.1 x.2.1.2.2.1.2.1 x.2.1.2.2.1.2.2.1 x.2.1.2.2.1.2.2.2.1 x.2.1.2.2.1.2.2.2.2.1 x.2.1.2.2.1.2.2.2.2.2.1 x.2.1.2.2.1.2.2.2.2.2.2.1 x.2.1.2.2.2.2.1.1 x.2.2.1 x.2.2.2.1 x.2.2.2.2.1 x.2.2.2.2.2.1 x.2.2.2.2.2.2.1) some):=loopF_eq _ _
noncomputable def k42_5:Con:=⟨{ sl := [(0,.p 0 0),(3,.p 1 0),(18,.v (.i .i64)),(19,.v (.i .i64))],bx := [[.p 2 0,.v (.l tDEv),.x], [.nl,.o 0,.mv 3], [.mv 4,.sg 64 .b,.sg 64 .b,.v (.l (.i .u64)),.v (.i .u64),.v (.i .i64),.v (.i .u64)], [.mt [(⟨#[97]⟩:ByteArray),(⟨#[98]⟩:ByteArray),(⟨#[99]⟩:ByteArray),(⟨#[100]⟩:ByteArray)],.o 1,.o 2,.o 3,.o 4], [.ms tDCe]],bf := [tDEv,tDVn,tDVn,tDVn,tDVn] },(.exit 0 { sl := [],bx := [[.p 2 0,.v (.l tDEv),.x], [.nl,.o 0,.mv 3], [.mv 4,.sg 64 .b,.sg 64 .b,.v (.l (.i .u64)),.v (.i .u64),.v (.i .i64),.v (.i .u64)], [.mt [(⟨#[97]⟩:ByteArray),(⟨#[98]⟩:ByteArray),(⟨#[99]⟩:ByteArray),(⟨#[100]⟩:ByteArray)],.o 1,.o 2,.o 3,.o 4], [.ms tDCe]],bf := [tDEv,tDVn,tDVn,tDVn,tDVn] }),fun x=>L42_5 x.1.2.2.1 x.1.2.2.2.1 x.2.1.1.2.1 x.2.1.2.2.1.2.1 x.2.1.2.2.1.2.2.1 x.2.1.2.2.1.2.2.2.1 x.2.1.2.2.1.2.2.2.2.1 x.2.1.2.2.1.2.2.2.2.2.1 x.2.1.2.2.1.2.2.2.2.2.2.1 x.2.1.2.2.2.2.1.1 x.2.2.1 x.2.2.2.1 x.2.2.2.2.1 x.2.2.2.2.2.1 x.2.2.2.2.2.2.1⟩
theorem k42_5_ok:Con.LOK Try.prog Try.f42.ntmps (lpOf Try.f42 5) k42_5:=lpX [(83,c83),(900088,cHot),(900014,cMt [(⟨#[97]⟩:ByteArray),(⟨#[98]⟩:ByteArray),(⟨#[99]⟩:ByteArray),(⟨#[100]⟩:ByteArray)]),(400081,cMt [(⟨#[97]⟩:ByteArray),(⟨#[98]⟩:ByteArray),(⟨#[99]⟩:ByteArray),(⟨#[100]⟩:ByteArray)]),(400087,cMt [(⟨#[97]⟩:ByteArray),(⟨#[98]⟩:ByteArray),(⟨#[99]⟩:ByteArray),(⟨#[100]⟩:ByteArray)])] [] [] (fun x=>T42_5 x.1.2.2.1 x.1.2.2.2.1 x.2.1.1.2.1 x.2.1.2.2.1.2.1 x.2.1.2.2.1.2.2.1 x.2.1.2.2.1.2.2.2.1 x.2.1.2.2.1.2.2.2.2.1 x.2.1.2.2.1.2.2.2.2.2.1 x.2.1.2.2.1.2.2.2.2.2.2.1 x.2.1.2.2.2.2.1.1 x.2.2.1 x.2.2.2.1 x.2.2.2.2.1 x.2.2.2.2.2.1 x.2.2.2.2.2.2.1) ⟨c83_ok,cHot_ok,cMt_ok,cMt_ok,cMt_ok,trivial⟩ trivial
noncomputable def T42_13 (a52:(List DEv)) (a53:Int) (a54:Int) (b0_1:(List DEv)) (b1_1:(List Bool)) (b1_2:(List Bool)) (b1_3:(List Int)) (b1_4:Int) (b1_5:Int) (b1_6:Int) (b2_1:(List Bool)) (b2_2:(List Bool)) (b2_3:(List Int)) (b2_4:Int) (b2_5:Int) (b2_6:Int) (b4_0:(List (ByteArray × DCe))) (b5_0:(List (ByteArray × DCe))) (q0:(List DVn)) (q1:(List DVn)) (q2:(List DVn)) (q3:(List DVn)):Option (((Unit × (Unit × ((List DEv) × (Int × (Int × Unit))))) × ((Unit × ((List DEv) × (Unit × Unit))) × (ZFt × (ZFt × (ZMt × (ZKt × (ZKt × Unit)))))) × ZVt) ⊕ (Unit × ((Unit × ((List DEv) × (Unit × Unit))) × (ZFt × (ZFt × (ZMt × (ZKt × (ZKt × Unit)))))) × ZVt)):=
 (bif (decide ((a54:Int)<a53)) then (bif (decide (0≤(a54:Int)∧(a54:Int)<(((a52).length:Nat):Int))) then ((F23 ((a52).getD (a54:Int).toNat zE) b1_1 b1_2 b1_3 b1_4 b1_5 b1_6 b4_0).bind fun y0=>(bif (decide ((((a52).getD (a54:Int).toNat zE).2.2.2.1:Int)<1)) then (some (.inl (((),(),a52,a53,(IntKind.wrap .i64 (a54+1)),()),(((),b0_1,(),()),y0.2.1.1,((),b2_1,b2_2,b2_3,b2_4,b2_5,b2_6,()),((),(),(),(),(),()),y0.2.1.2.1,(b5_0,()),()),(q0,q1,q2,q3,())))) else (bif (decide ((((a52).getD (a54:Int).toNat zE).2.2.2.1:Int) > 4)) then (some (.inl (((),(),a52,a53,(IntKind.wrap .i64 (a54+1)),()),(((),b0_1,(),()),y0.2.1.1,((),b2_1,b2_2,b2_3,b2_4,b2_5,b2_6,()),((),(),(),(),(),()),y0.2.1.2.1,(b5_0,()),()),(q0,q1,q2,q3,())))) else ((F27 (((a52).getD (a54:Int).toNat zE).2.2.2.2.1) y0.2.1.1.2.1 y0.2.1.1.2.2.1 y0.2.1.1.2.2.2.1 y0.2.1.1.2.2.2.2.1 y0.2.1.1.2.2.2.2.2.1 y0.2.1.1.2.2.2.2.2.2.1 y0.2.1.2.1.1).bind fun y1=>(bif (((a52).getD (a54:Int).toNat zE).2.2.2.2.1 == (⟨#[97]⟩:ByteArray)) then (bif (((a52).getD (a54:Int).toNat zE).2.2.2.2.1 == (⟨#[97]⟩:ByteArray)) then ((F52 ((a52).getD (a54:Int).toNat zE)).bind fun y2=>(bif (decide ((q0).length+([(y2.1.1,(y1.1.1,((!y1.1.2.1),())))]).length<lim)) then (bif (!(List.isEmpty (q0 ++ [(y2.1.1,(y1.1.1,((!y1.1.2.1),())))]))) then (some (.inl (((),(),a52,a53,(IntKind.wrap .i64 (a54+1)),()),(((),b0_1,(),()),y1.2.1.1,((),b2_1,b2_2,b2_3,b2_4,b2_5,b2_6,()),((),(),(),(),(),()),y1.2.1.2.1,(b5_0,()),()),((q0 ++ [(y2.1.1,(y1.1.1,((!y1.1.2.1),())))]),q1,q2,q3,())))) else none) else none)) else (bif (((a52).getD (a54:Int).toNat zE).2.2.2.2.1 == (⟨#[98]⟩:ByteArray)) then ((F52 ((a52).getD (a54:Int).toNat zE)).bind fun y3=>(bif (decide ((q1).length+([(y3.1.1,(y1.1.1,((!y1.1.2.1),())))]).length<lim)) then (bif (!(List.isEmpty (q1 ++ [(y3.1.1,(y1.1.1,((!y1.1.2.1),())))]))) then none else none) else none)) else (bif (((a52).getD (a54:Int).toNat zE).2.2.2.2.1 == (⟨#[99]⟩:ByteArray)) then ((F52 ((a52).getD (a54:Int).toNat zE)).bind fun y4=>(bif (decide ((q2).length+([(y4.1.1,(y1.1.1,((!y1.1.2.1),())))]).length<lim)) then (bif (!(List.isEmpty (q2 ++ [(y4.1.1,(y1.1.1,((!y1.1.2.1),())))]))) then none else none) else none)) else (bif (((a52).getD (a54:Int).toNat zE).2.2.2.2.1 == (⟨#[100]⟩:ByteArray)) then ((F52 ((a52).getD (a54:Int).toNat zE)).bind fun y5=>(bif (decide ((q3).length+([(y5.1.1,(y1.1.1,((!y1.1.2.1),())))]).length<lim)) then (bif (!(List.isEmpty (q3 ++ [(y5.1.1,(y1.1.1,((!y1.1.2.1),())))]))) then none else none) else none)) else none)))) else (bif (((a52).getD (a54:Int).toNat zE).2.2.2.2.1 == (⟨#[98]⟩:ByteArray)) then (bif (((a52).getD (a54:Int).toNat zE).2.2.2.2.1 == (⟨#[97]⟩:ByteArray)) then ((F52 ((a52).getD (a54:Int).toNat zE)).bind fun y6=>(bif (decide ((q0).length+([(y6.1.1,(y1.1.1,((!y1.1.2.1),())))]).length<lim)) then (bif (!(List.isEmpty (q0 ++ [(y6.1.1,(y1.1.1,((!y1.1.2.1),())))]))) then none else none) else none)) else (bif (((a52).getD (a54:Int).toNat zE).2.2.2.2.1 == (⟨#[98]⟩:ByteArray)) then ((F52 ((a52).getD (a54:Int).toNat zE)).bind fun y7=>(bif (decide ((q1).length+([(y7.1.1,(y1.1.1,((!y1.1.2.1),())))]).length<lim)) then (bif (!(List.isEmpty (q1 ++ [(y7.1.1,(y1.1.1,((!y1.1.2.1),())))]))) then (some (.inl (((),(),a52,a53,(IntKind.wrap .i64 (a54+1)),()),(((),b0_1,(),()),y1.2.1.1,((),b2_1,b2_2,b2_3,b2_4,b2_5,b2_6,()),((),(),(),(),(),()),y1.2.1.2.1,(b5_0,()),()),(q0,(q1 ++ [(y7.1.1,(y1.1.1,((!y1.1.2.1),())))]),q2,q3,())))) else none) else none)) else (bif (((a52).getD (a54:Int).toNat zE).2.2.2.2.1 == (⟨#[99]⟩:ByteArray)) then ((F52 ((a52).getD (a54:Int).toNat zE)).bind fun y8=>(bif (decide ((q2).length+([(y8.1.1,(y1.1.1,((!y1.1.2.1),())))]).length<lim)) then (bif (!(List.isEmpty (q2 ++ [(y8.1.1,(y1.1.1,((!y1.1.2.1),())))]))) then none else none) else none)) else (bif (((a52).getD (a54:Int).toNat zE).2.2.2.2.1 == (⟨#[100]⟩:ByteArray)) then ((F52 ((a52).getD (a54:Int).toNat zE)).bind fun y9=>(bif (decide ((q3).length+([(y9.1.1,(y1.1.1,((!y1.1.2.1),())))]).length<lim)) then (bif (!(List.isEmpty (q3 ++ [(y9.1.1,(y1.1.1,((!y1.1.2.1),())))]))) then none else none) else none)) else none)))) else (bif (((a52).getD (a54:Int).toNat zE).2.2.2.2.1 == (⟨#[99]⟩:ByteArray)) then (bif (((a52).getD (a54:Int).toNat zE).2.2.2.2.1 == (⟨#[97]⟩:ByteArray)) then ((F52 ((a52).getD (a54:Int).toNat zE)).bind fun y10=>(bif (decide ((q0).length+([(y10.1.1,(y1.1.1,((!y1.1.2.1),())))]).length<lim)) then (bif (!(List.isEmpty (q0 ++ [(y10.1.1,(y1.1.1,((!y1.1.2.1),())))]))) then none else none) else none)) else (bif (((a52).getD (a54:Int).toNat zE).2.2.2.2.1 == (⟨#[98]⟩:ByteArray)) then ((F52 ((a52).getD (a54:Int).toNat zE)).bind fun y11=>(bif (decide ((q1).length+([(y11.1.1,(y1.1.1,((!y1.1.2.1),())))]).length<lim)) then (bif (!(List.isEmpty (q1 ++ [(y11.1.1,(y1.1.1,((!y1.1.2.1),())))]))) then none else none) else none)) else (bif (((a52).getD (a54:Int).toNat zE).2.2.2.2.1 == (⟨#[99]⟩:ByteArray)) then ((F52 ((a52).getD (a54:Int).toNat zE)).bind fun y12=>(bif (decide ((q2).length+([(y12.1.1,(y1.1.1,((!y1.1.2.1),())))]).length<lim)) then (bif (!(List.isEmpty (q2 ++ [(y12.1.1,(y1.1.1,((!y1.1.2.1),())))]))) then (some (.inl (((),(),a52,a53,(IntKind.wrap .i64 (a54+1)),()),(((),b0_1,(),()),y1.2.1.1,((),b2_1,b2_2,b2_3,b2_4,b2_5,b2_6,()),((),(),(),(),(),()),y1.2.1.2.1,(b5_0,()),()),(q0,q1,(q2 ++ [(y12.1.1,(y1.1.1,((!y1.1.2.1),())))]),q3,())))) else none) else none)) else (bif (((a52).getD (a54:Int).toNat zE).2.2.2.2.1 == (⟨#[100]⟩:ByteArray)) then ((F52 ((a52).getD (a54:Int).toNat zE)).bind fun y13=>(bif (decide ((q3).length+([(y13.1.1,(y1.1.1,((!y1.1.2.1),())))]).length<lim)) then (bif (!(List.isEmpty (q3 ++ [(y13.1.1,(y1.1.1,((!y1.1.2.1),())))]))) then none else none) else none)) else none)))) else (bif (((a52).getD (a54:Int).toNat zE).2.2.2.2.1 == (⟨#[100]⟩:ByteArray)) then (bif (((a52).getD (a54:Int).toNat zE).2.2.2.2.1 == (⟨#[97]⟩:ByteArray)) then ((F52 ((a52).getD (a54:Int).toNat zE)).bind fun y14=>(bif (decide ((q0).length+([(y14.1.1,(y1.1.1,((!y1.1.2.1),())))]).length<lim)) then (bif (!(List.isEmpty (q0 ++ [(y14.1.1,(y1.1.1,((!y1.1.2.1),())))]))) then none else none) else none)) else (bif (((a52).getD (a54:Int).toNat zE).2.2.2.2.1 == (⟨#[98]⟩:ByteArray)) then ((F52 ((a52).getD (a54:Int).toNat zE)).bind fun y15=>(bif (decide ((q1).length+([(y15.1.1,(y1.1.1,((!y1.1.2.1),())))]).length<lim)) then (bif (!(List.isEmpty (q1 ++ [(y15.1.1,(y1.1.1,((!y1.1.2.1),())))]))) then none else none) else none)) else (bif (((a52).getD (a54:Int).toNat zE).2.2.2.2.1 == (⟨#[99]⟩:ByteArray)) then ((F52 ((a52).getD (a54:Int).toNat zE)).bind fun y16=>(bif (decide ((q2).length+([(y16.1.1,(y1.1.1,((!y1.1.2.1),())))]).length<lim)) then (bif (!(List.isEmpty (q2 ++ [(y16.1.1,(y1.1.1,((!y1.1.2.1),())))]))) then none else none) else none)) else (bif (((a52).getD (a54:Int).toNat zE).2.2.2.2.1 == (⟨#[100]⟩:ByteArray)) then ((F52 ((a52).getD (a54:Int).toNat zE)).bind fun y17=>(bif (decide ((q3).length+([(y17.1.1,(y1.1.1,((!y1.1.2.1),())))]).length<lim)) then (bif (!(List.isEmpty (q3 ++ [(y17.1.1,(y1.1.1,((!y1.1.2.1),())))]))) then (some (.inl (((),(),a52,a53,(IntKind.wrap .i64 (a54+1)),()),(((),b0_1,(),()),y1.2.1.1,((),b2_1,b2_2,b2_3,b2_4,b2_5,b2_6,()),((),(),(),(),(),()),y1.2.1.2.1,(b5_0,()),()),(q0,q1,q2,(q3 ++ [(y17.1.1,(y1.1.1,((!y1.1.2.1),())))]),())))) else none) else none)) else none)))) else none)))))))) else none) else (some (.inr ((),(((),b0_1,(),()),((),b1_1,b1_2,b1_3,b1_4,b1_5,b1_6,()),((),b2_1,b2_2,b2_3,b2_4,b2_5,b2_6,()),((),(),(),(),(),()),(b4_0,()),(b5_0,()),()),(q0,q1,q2,q3,())))))
noncomputable def L42_13 (a52:(List DEv)) (a53:Int) (a54:Int) (b0_1:(List DEv)) (b1_1:(List Bool)) (b1_2:(List Bool)) (b1_3:(List Int)) (b1_4:Int) (b1_5:Int) (b1_6:Int) (b2_1:(List Bool)) (b2_2:(List Bool)) (b2_3:(List Int)) (b2_4:Int) (b2_5:Int) (b2_6:Int) (b4_0:(List (ByteArray × DCe))) (b5_0:(List (ByteArray × DCe))) (q0:(List DVn)) (q1:(List DVn)) (q2:(List DVn)) (q3:(List DVn)):Option (Unit × ((Unit × ((List DEv) × (Unit × Unit))) × (ZFt × (ZFt × (ZMt × (ZKt × (ZKt × Unit)))))) × ZVt):=loopF (fun x:((Unit × (Unit × ((List DEv) × (Int × (Int × Unit))))) × ((Unit × ((List DEv) × (Unit × Unit))) × (ZFt × (ZFt × (ZMt × (ZKt × (ZKt × Unit)))))) × ZVt)=>T42_13 x.1.2.2.1 x.1.2.2.2.1 x.1.2.2.2.2.1 x.2.1.1.2.1 x.2.1.2.1.2.1 x.2.1.2.1.2.2.1 x.2.1.2.1.2.2.2.1 x.2.1.2.1.2.2.2.2.1 x.2.1.2.1.2.2.2.2.2.1 x.2.1.2.1.2.2.2.2.2.2.1 x.2.1.2.2.1.2.1 x.2.1.2.2.1.2.2.1 x.2.1.2.2.1.2.2.2.1 x.2.1.2.2.1.2.2.2.2.1 x.2.1.2.2.1.2.2.2.2.2.1 x.2.1.2.2.1.2.2.2.2.2.2.1 x.2.1.2.2.2.2.1.1 x.2.1.2.2.2.2.2.1.1 x.2.2.1 x.2.2.2.1 x.2.2.2.2.1 x.2.2.2.2.2.1) (((),(),a52,a53,a54,()),(((),b0_1,(),()),((),b1_1,b1_2,b1_3,b1_4,b1_5,b1_6,()),((),b2_1,b2_2,b2_3,b2_4,b2_5,b2_6,()),((),(),(),(),(),()),(b4_0,()),(b5_0,()),()),(q0,q1,q2,q3,()))
theorem L42_13_eq (a52:(List DEv)) (a53:Int) (a54:Int) (b0_1:(List DEv)) (b1_1:(List Bool)) (b1_2:(List Bool)) (b1_3:(List Int)) (b1_4:Int) (b1_5:Int) (b1_6:Int) (b2_1:(List Bool)) (b2_2:(List Bool)) (b2_3:(List Int)) (b2_4:Int) (b2_5:Int) (b2_6:Int) (b4_0:(List (ByteArray × DCe))) (b5_0:(List (ByteArray × DCe))) (q0:(List DVn)) (q1:(List DVn)) (q2:(List DVn)) (q3:(List DVn)):L42_13 a52 a53 a54 b0_1 b1_1 b1_2 b1_3 b1_4 b1_5 b1_6 b2_1 b2_2 b2_3 b2_4 b2_5 b2_6 b4_0 b5_0 q0 q1 q2 q3=(T42_13 a52 a53 a54 b0_1 b1_1 b1_2 b1_3 b1_4 b1_5 b1_6 b2_1 b2_2 b2_3 b2_4 b2_5 b2_6 b4_0 b5_0 q0 q1 q2 q3).bind (Sum.elim (fun x=>L42_13 x.1.2.2.1 x.1.2.2.2.1 x.1.2.2.2.2.1 x.2.1.1.2.1 x.2.1.2.1.2.1 x.2.1.2.1.2.2.1 x.2.1.2.1.2.2.2.1 x.2.1.2.1.2.2.2.2.1 x.2.1.2.1.2.2.2.2.2.1 x.2.1.2.1.2.2.2.2.2.2.1 x.2.1.2.2.1.2.1 x.2.1.2.2.1.2.2.1 x.2.1.2.2.1.2.2.2.1 x.2.1.2.2.1.2.2.2.2.1 x.2.1.2.2.1.2.2.2.2.2.1 x.2.1.2.2.1.2.2.2.2.2.2.1 x.2.1.2.2.2.2.1.1 x.2.1.2.2.2.2.2.1.1 x.2.2.1 x.2.2.2.1 x.2.2.2.2.1 x.2.2.2.2.2.1) some):=loopF_eq _ _
noncomputable def k42_13:Con:=⟨{ sl := [(3,.p 0 0),(7,.p 1 0),(52,.v (.l tDEv)),(53,.v (.i .i64)),(54,.v (.i .i64))],bx := [[.p 2 0,.v (.l tDEv),.mv 3], [.mv 4,.sg 64 .b,.sg 64 .b,.v (.l (.i .u64)),.v (.i .u64),.v (.i .i64),.v (.i .u64)], [.mv 5,.sg 64 .b,.sg 64 .b,.v (.l (.i .u64)),.v (.i .u64),.v (.i .i64),.v (.i .u64)], [.mt [(⟨#[97]⟩:ByteArray),(⟨#[98]⟩:ByteArray),(⟨#[99]⟩:ByteArray),(⟨#[100]⟩:ByteArray)],.o 0,.o 1,.o 2,.o 3], [.ms tDCe], [.ms tDCe]],bf := [tDVn,tDVn,tDVn,tDVn] },(.exit 2 { sl := [],bx := [[.p 2 0,.v (.l tDEv),.mv 3], [.mv 4,.sg 64 .b,.sg 64 .b,.v (.l (.i .u64)),.v (.i .u64),.v (.i .i64),.v (.i .u64)], [.mv 5,.sg 64 .b,.sg 64 .b,.v (.l (.i .u64)),.v (.i .u64),.v (.i .i64),.v (.i .u64)], [.mt [(⟨#[97]⟩:ByteArray),(⟨#[98]⟩:ByteArray),(⟨#[99]⟩:ByteArray),(⟨#[100]⟩:ByteArray)],.o 0,.o 1,.o 2,.o 3], [.ms tDCe], [.ms tDCe]],bf := [tDVn,tDVn,tDVn,tDVn] }),fun x=>L42_13 x.1.2.2.1 x.1.2.2.2.1 x.1.2.2.2.2.1 x.2.1.1.2.1 x.2.1.2.1.2.1 x.2.1.2.1.2.2.1 x.2.1.2.1.2.2.2.1 x.2.1.2.1.2.2.2.2.1 x.2.1.2.1.2.2.2.2.2.1 x.2.1.2.1.2.2.2.2.2.2.1 x.2.1.2.2.1.2.1 x.2.1.2.2.1.2.2.1 x.2.1.2.2.1.2.2.2.1 x.2.1.2.2.1.2.2.2.2.1 x.2.1.2.2.1.2.2.2.2.2.1 x.2.1.2.2.1.2.2.2.2.2.2.1 x.2.1.2.2.2.2.1.1 x.2.1.2.2.2.2.2.1.1 x.2.2.1 x.2.2.2.1 x.2.2.2.2.1 x.2.2.2.2.2.1⟩
theorem k42_13_ok:Con.LOK Try.prog Try.f42.ntmps (lpOf Try.f42 13) k42_13:=lpX [(23,c23),(27,c27),(52,c52),(900088,cHot),(900014,cMt [(⟨#[97]⟩:ByteArray),(⟨#[98]⟩:ByteArray),(⟨#[99]⟩:ByteArray),(⟨#[100]⟩:ByteArray)]),(400081,cMt [(⟨#[97]⟩:ByteArray),(⟨#[98]⟩:ByteArray),(⟨#[99]⟩:ByteArray),(⟨#[100]⟩:ByteArray)]),(400087,cMt [(⟨#[97]⟩:ByteArray),(⟨#[98]⟩:ByteArray),(⟨#[99]⟩:ByteArray),(⟨#[100]⟩:ByteArray)])] [] [] (fun x=>T42_13 x.1.2.2.1 x.1.2.2.2.1 x.1.2.2.2.2.1 x.2.1.1.2.1 x.2.1.2.1.2.1 x.2.1.2.1.2.2.1 x.2.1.2.1.2.2.2.1 x.2.1.2.1.2.2.2.2.1 x.2.1.2.1.2.2.2.2.2.1 x.2.1.2.1.2.2.2.2.2.2.1 x.2.1.2.2.1.2.1 x.2.1.2.2.1.2.2.1 x.2.1.2.2.1.2.2.2.1 x.2.1.2.2.1.2.2.2.2.1 x.2.1.2.2.1.2.2.2.2.2.1 x.2.1.2.2.1.2.2.2.2.2.2.1 x.2.1.2.2.2.2.1.1 x.2.1.2.2.2.2.2.1.1 x.2.2.1 x.2.2.2.1 x.2.2.2.2.1 x.2.2.2.2.2.1) ⟨c23_ok,c27_ok,c52_ok,cHot_ok,cMt_ok,cMt_ok,cMt_ok,trivial⟩ trivial
noncomputable def F42 (b0_1:(List DEv)) (b1_1:(List Bool)) (b1_2:(List Bool)) (b1_3:(List Int)) (b1_4:Int) (b1_5:Int) (b1_6:Int) (b2_0:(List (ByteArray × DCe))):Option ((Unit × Unit) × ((Unit × ((List DEv) × (Unit × Unit))) × (ZFt × (ZKt × (ZUt × (ZFt × (ZMt × (ZKt × Unit))))))) × ZVt):=
 ((F82 b0_1 b1_1 b1_2 b1_3 b1_4 b1_5 b1_6 b2_0).bind fun y0=>((L42_5 y0.1.1 0 y0.2.1.1.2.1 y0.2.1.2.1.2.1 y0.2.1.2.1.2.2.1 y0.2.1.2.1.2.2.2.1 y0.2.1.2.1.2.2.2.2.1 y0.2.1.2.1.2.2.2.2.2.1 y0.2.1.2.1.2.2.2.2.2.2.1 y0.2.1.2.2.1.1 ([]:List DEv) ([]:List DVn) ([]:List DVn) ([]:List DVn) ([]:List DVn)).bind fun y1=>((F84 y1.2.1.1.2.1 y1.2.1.2.2.1.2.1 y1.2.1.2.2.1.2.2.1 y1.2.1.2.2.1.2.2.2.1 y1.2.1.2.2.1.2.2.2.2.1 y1.2.1.2.2.1.2.2.2.2.2.1 y1.2.1.2.2.1.2.2.2.2.2.2.1 y1.2.1.2.2.2.2.1.1).bind fun y2=>((F25 y2.2.1.2.2.2.1.2.1 y2.2.1.2.2.2.1.2.2.1 y2.2.1.2.2.2.1.2.2.2.1 y2.2.1.2.2.2.1.2.2.2.2.1 y2.2.1.2.2.2.1.2.2.2.2.2.1 y2.2.1.2.2.2.1.2.2.2.2.2.2.1 y2.2.1.2.2.2.2.1.1).bind fun y3=>((L42_13 y1.2.2.1 (((y1.2.2.1).length:Nat):Int) 0 y1.2.2.1 y3.2.1.2.2.1.2.1 y3.2.1.2.2.1.2.2.1 y3.2.1.2.2.1.2.2.2.1 y3.2.1.2.2.1.2.2.2.2.1 y3.2.1.2.2.1.2.2.2.2.2.1 y3.2.1.2.2.1.2.2.2.2.2.2.1 y3.2.1.1.2.1 y3.2.1.1.2.2.1 y3.2.1.1.2.2.2.1 y3.2.1.1.2.2.2.2.1 y3.2.1.1.2.2.2.2.2.1 y3.2.1.1.2.2.2.2.2.2.1 y3.2.1.2.2.2.1.1 y3.2.1.2.1.1 y1.2.2.2.1 y1.2.2.2.2.1 y1.2.2.2.2.2.1 y1.2.2.2.2.2.2.1).bind fun y4=>(some (((),()),(((),y2.2.1.1.2.1,(),()),y2.2.1.2.1,y2.2.1.2.2.1,((),(),(),()),y4.2.1.2.2.1,((),(),(),(),(),()),y4.2.1.2.2.2.2.2.1,()),y4.2.2)))))))
noncomputable def c42:Con:=⟨{ sl := [(0,.p 0 0)],bx := [[.p 1 0,.v (.l tDEv),.x], [.mv 2,.sg 64 .b,.sg 64 .b,.v (.l (.i .u64)),.v (.i .u64),.v (.i .i64),.v (.i .u64)], [.ms tDCe]] },(.ret { sl := [(0,.p 3 0)],bx := [[.p 1 0,.v (.l tDEv),.x], [.mv 2,.sg 64 .b,.sg 64 .b,.v (.l (.i .u64)),.v (.i .u64),.v (.i .i64),.v (.i .u64)], [.ms tDCe], [.p 4 0,.x,.mv 5], [.mv 6,.sg 64 .b,.sg 64 .b,.v (.l (.i .u64)),.v (.i .u64),.v (.i .i64),.v (.i .u64)], [.mt [(⟨#[97]⟩:ByteArray),(⟨#[98]⟩:ByteArray),(⟨#[99]⟩:ByteArray),(⟨#[100]⟩:ByteArray)],.o 0,.o 1,.o 2,.o 3], [.ms tDCe]],bf := [tDVn,tDVn,tDVn,tDVn] }),fun x=>F42 x.2.1.1.2.1 x.2.1.2.1.2.1 x.2.1.2.1.2.2.1 x.2.1.2.1.2.2.2.1 x.2.1.2.1.2.2.2.2.1 x.2.1.2.1.2.2.2.2.2.1 x.2.1.2.1.2.2.2.2.2.2.1 x.2.1.2.2.1.1⟩
theorem c42_ok:Con.OK Try.prog 42 c42:=fnL [(23,c23),(25,c25),(27,c27),(52,c52),(82,c82),(83,c83),(84,c84),(900088,cHot),(900014,cMt [(⟨#[97]⟩:ByteArray),(⟨#[98]⟩:ByteArray),(⟨#[99]⟩:ByteArray),(⟨#[100]⟩:ByteArray)]),(400081,cMt [(⟨#[97]⟩:ByteArray),(⟨#[98]⟩:ByteArray),(⟨#[99]⟩:ByteArray),(⟨#[100]⟩:ByteArray)]),(400087,cMt [(⟨#[97]⟩:ByteArray),(⟨#[98]⟩:ByteArray),(⟨#[99]⟩:ByteArray),(⟨#[100]⟩:ByteArray)])] [(5,k42_5),(13,k42_13)] [5,13] ⟨c23_ok,c25_ok,c27_ok,c52_ok,c82_ok,c83_ok,c84_ok,cHot_ok,cMt_ok,cMt_ok,cMt_ok,trivial⟩ ⟨k42_5_ok,k42_13_ok,trivial⟩ Try.func42
noncomputable def F11 (a0:(List DEv)) (a1:Int):Option ((Unit × Unit) × (ZUt × (ZFt × (ZMt × (ZKt × Unit)))) × ZVt):=
 ((F45 a0 a1).bind fun y0=>(bif (decide (0≤(a1:Int)∧(a1:Int)≤(((a0).length:Nat):Int))) then ((F44 [((a0).drop (a1:Int).toNat)] y0.2.1.1.2.1 y0.2.1.1.2.2.1 y0.2.1.1.2.2.2.1 y0.2.1.1.2.2.2.2.1 y0.2.1.1.2.2.2.2.2.1 y0.2.1.1.2.2.2.2.2.2.1 y0.2.1.2.1.1).bind fun y1=>(bif ((y1.1.2.1:Int) != 0) then none else ((F42 y1.2.1.2.2.1.2.1 y1.2.1.1.2.1 y1.2.1.1.2.2.1 y1.2.1.1.2.2.2.1 y1.2.1.1.2.2.2.2.1 y1.2.1.1.2.2.2.2.2.1 y1.2.1.1.2.2.2.2.2.2.1 y1.2.1.2.1.1).bind fun y2=>(some (((),()),(((),(),(),()),y2.2.1.2.2.2.2.1,((),(),(),(),(),()),y2.2.1.2.2.2.2.2.2.1,()),y2.2.2))))) else none))
noncomputable def c11:Con:=⟨{ sl := [(0,.v (.l tDEv)),(1,.v (.i .i64))] },(.ret { sl := [(0,.p 0 0)],bx := [[.p 1 0,.x,.mv 2], [.mv 3,.sg 64 .b,.sg 64 .b,.v (.l (.i .u64)),.v (.i .u64),.v (.i .i64),.v (.i .u64)], [.mt [(⟨#[97]⟩:ByteArray),(⟨#[98]⟩:ByteArray),(⟨#[99]⟩:ByteArray),(⟨#[100]⟩:ByteArray)],.o 0,.o 1,.o 2,.o 3], [.ms tDCe]],bf := [tDVn,tDVn,tDVn,tDVn] }),fun x=>F11 x.1.1 x.1.2.1⟩
theorem c11_ok:Con.OK Try.prog 11 c11:=fnX [(42,c42),(44,c44),(45,c45)] ⟨c42_ok,c44_ok,c45_ok,trivial⟩ Try.func11
noncomputable def F48 (a0:DVn) (a1:(Int × (Int × Unit))):Option ((Int × Unit) × Unit × Unit):=
 ((F46 a0.1 a1).bind fun y0=>(bif (decide ((y0.1.1:Int)≤0)) then (some (((-1),()),(),())) else (some ((1,()),(),()))))
noncomputable def c48:Con:=⟨{ sl := [(0,.v tDVn),(1,.v (.p (.i .u64) (.p (.i .i64) .u)))] },(.ret { sl := [(0,.v (.i .i64))] }),fun x=>F48 x.1.1 x.1.2.1⟩
theorem c48_ok:Con.OK Try.prog 48 c48:=fnX [(46,c46)] ⟨c46_ok,trivial⟩ Try.func48
noncomputable def T47_3 (a0:(List DVn)) (a8:Int) (a9:Int) (a10:Int) (b0_0:Int) (b0_1:Int):Option ((((List DVn) × (Unit × (Unit × (Int × (Int × (Int × Unit)))))) × ((Int × (Int × Unit)) × Unit) × Unit) ⊕ ((Int × Unit) × ((Int × (Int × Unit)) × Unit) × Unit)):=
 (bif (decide ((a9:Int)<a10)) then (bif (decide (0≤((IntKind.wrap .i64 (iShr .u64 (IntKind.wrap .u64 (IntKind.wrap .i64 (a9+a10))) 1)):Int)∧((IntKind.wrap .i64 (iShr .u64 (IntKind.wrap .u64 (IntKind.wrap .i64 (a9+a10))) 1)):Int)<(((a0).length:Nat):Int))) then ((F48 ((a0).getD ((IntKind.wrap .i64 (iShr .u64 (IntKind.wrap .u64 (IntKind.wrap .i64 (a9+a10))) 1)):Int).toNat zV) (b0_0,(b0_1,()))).bind fun y0=>(bif (decide ((y0.1.1:Int)<0)) then (some (.inl ((a0,(),(),a8,(IntKind.wrap .i64 ((IntKind.wrap .i64 (iShr .u64 (IntKind.wrap .u64 (IntKind.wrap .i64 (a9+a10))) 1))+1)),a10,()),((b0_0,b0_1,()),()),()))) else (some (.inl ((a0,(),(),a8,a9,(IntKind.wrap .i64 (iShr .u64 (IntKind.wrap .u64 (IntKind.wrap .i64 (a9+a10))) 1)),()),((b0_0,b0_1,()),()),()))))) else none) else (some (.inr ((a9,()),((b0_0,b0_1,()),()),()))))
noncomputable def L47_3 (a0:(List DVn)) (a8:Int) (a9:Int) (a10:Int) (b0_0:Int) (b0_1:Int):Option ((Int × Unit) × ((Int × (Int × Unit)) × Unit) × Unit):=loopF (fun x:(((List DVn) × (Unit × (Unit × (Int × (Int × (Int × Unit)))))) × ((Int × (Int × Unit)) × Unit) × Unit)=>T47_3 x.1.1 x.1.2.2.2.1 x.1.2.2.2.2.1 x.1.2.2.2.2.2.1 x.2.1.1.1 x.2.1.1.2.1) ((a0,(),(),a8,a9,a10,()),((b0_0,b0_1,()),()),())
theorem L47_3_eq (a0:(List DVn)) (a8:Int) (a9:Int) (a10:Int) (b0_0:Int) (b0_1:Int):L47_3 a0 a8 a9 a10 b0_0 b0_1=(T47_3 a0 a8 a9 a10 b0_0 b0_1).bind (Sum.elim (fun x=>L47_3 x.1.1 x.1.2.2.2.1 x.1.2.2.2.2.1 x.1.2.2.2.2.2.1 x.2.1.1.1 x.2.1.1.2.1) some):=loopF_eq _ _
noncomputable def k47_3:Con:=⟨{ sl := [(0,.v (.l tDVn)),(2,.fn 48),(4,.p 0 0),(8,.v (.i .i64)),(9,.v (.i .i64)),(10,.v (.i .i64))],bx := [[.v (.i .u64),.v (.i .i64)]] },(.exit 0 { sl := [(9,.v (.i .i64))],bx := [[.v (.i .u64),.v (.i .i64)]] }),fun x=>L47_3 x.1.1 x.1.2.2.2.1 x.1.2.2.2.2.1 x.1.2.2.2.2.2.1 x.2.1.1.1 x.2.1.1.2.1⟩
theorem k47_3_ok:Con.LOK Try.prog Try.f47.ntmps (lpOf Try.f47 3) k47_3:=lpX [(48,c48)] [] [] (fun x=>T47_3 x.1.1 x.1.2.2.2.1 x.1.2.2.2.2.1 x.1.2.2.2.2.2.1 x.2.1.1.1 x.2.1.1.2.1) ⟨c48_ok,trivial⟩ trivial
noncomputable def F47 (a0:(List DVn)) (a1:(Int × (Int × Unit))):Option ((Int × (Bool × Unit)) × Unit × Unit):=
 ((L47_3 a0 (((a0).length:Nat):Int) 0 (((a0).length:Nat):Int) a1.1 a1.2.1).bind fun y0=>(bif (decide ((y0.1.1:Int)<(((a0).length:Nat):Int))) then (bif (decide (0≤(y0.1.1:Int)∧(y0.1.1:Int)<(((a0).length:Nat):Int))) then ((F48 ((a0).getD (y0.1.1:Int).toNat zV) y0.2.1.1).bind fun y1=>(some ((y0.1.1,((y1.1.1:Int) == 0),()),(),()))) else none) else (some ((y0.1.1,false,()),(),()))))
noncomputable def c47:Con:=⟨{ sl := [(0,.v (.l tDVn)),(1,.v (.p (.i .u64) (.p (.i .i64) .u))),(2,.fn 48)] },(.ret { sl := [(0,.v (.i .i64)),(1,.v .b)] }),fun x=>F47 x.1.1 x.1.2.1⟩
theorem c47_ok:Con.OK Try.prog 47 c47:=fnL [(48,c48)] [(3,k47_3)] [3] ⟨c48_ok,trivial⟩ ⟨k47_3_ok,trivial⟩ Try.func47
noncomputable def F16 (a1:ByteArray) (a2:(Int × (Int × Unit))) (b1_1:(List Bool)) (b1_2:(List Bool)) (b1_3:(List Int)) (b1_4:Int) (b1_5:Int) (b1_6:Int) (b3_0:(List (ByteArray × DCe))) (q0:(List DVn)) (q1:(List DVn)) (q2:(List DVn)) (q3:(List DVn)):Option ((DCe × (Bool × (Int × Unit))) × (ZUt × (ZFt × (ZMt × (ZKt × Unit)))) × ZVt):=
 ((F35 b1_1 b1_2 b1_3 b1_4 b1_5 b1_6 b3_0).bind fun y0=>((F46 a2 y0.1.1).bind fun y1=>(bif (decide ((y1.1.1:Int)<0)) then (some (((0,(([]:List Int),(0,()))),false,13,()),(((),(),(),()),y0.2.1.1,((),(),(),(),(),()),y0.2.1.2.1,()),(q0,q1,q2,q3,()))) else ((F47 (bif a1 == (⟨#[97]⟩:ByteArray) then q0 else (bif a1 == (⟨#[98]⟩:ByteArray) then q1 else (bif a1 == (⟨#[99]⟩:ByteArray) then q2 else (bif a1 == (⟨#[100]⟩:ByteArray) then q3 else [])))) a2).bind fun y2=>(bif ((y2.1.1:Int) == 0) then ((F27 a1 y0.2.1.1.2.1 y0.2.1.1.2.2.1 y0.2.1.1.2.2.2.1 y0.2.1.1.2.2.2.2.1 y0.2.1.1.2.2.2.2.2.1 y0.2.1.1.2.2.2.2.2.2.1 y0.2.1.2.1.1).bind fun y3=>(some ((y3.1.1,y3.1.2.1,0,()),(((),(),(),()),y3.2.1.1,((),(),(),(),(),()),y3.2.1.2.1,()),(q0,q1,q2,q3,())))) else (bif (decide (0≤((IntKind.wrap .i64 (y2.1.1 - 1)):Int)∧((IntKind.wrap .i64 (y2.1.1 - 1)):Int)<((((bif a1 == (⟨#[97]⟩:ByteArray) then q0 else (bif a1 == (⟨#[98]⟩:ByteArray) then q1 else (bif a1 == (⟨#[99]⟩:ByteArray) then q2 else (bif a1 == (⟨#[100]⟩:ByteArray) then q3 else []))))).length:Nat):Int))) then (bif (decide (0≤((IntKind.wrap .i64 (y2.1.1 - 1)):Int)∧((IntKind.wrap .i64 (y2.1.1 - 1)):Int)<((((bif a1 == (⟨#[97]⟩:ByteArray) then q0 else (bif a1 == (⟨#[98]⟩:ByteArray) then q1 else (bif a1 == (⟨#[99]⟩:ByteArray) then q2 else (bif a1 == (⟨#[100]⟩:ByteArray) then q3 else []))))).length:Nat):Int))) then (some (((((bif a1 == (⟨#[97]⟩:ByteArray) then q0 else (bif a1 == (⟨#[98]⟩:ByteArray) then q1 else (bif a1 == (⟨#[99]⟩:ByteArray) then q2 else (bif a1 == (⟨#[100]⟩:ByteArray) then q3 else []))))).getD ((IntKind.wrap .i64 (y2.1.1 - 1)):Int).toNat zV).2.1,(!(((bif a1 == (⟨#[97]⟩:ByteArray) then q0 else (bif a1 == (⟨#[98]⟩:ByteArray) then q1 else (bif a1 == (⟨#[99]⟩:ByteArray) then q2 else (bif a1 == (⟨#[100]⟩:ByteArray) then q3 else []))))).getD ((IntKind.wrap .i64 (y2.1.1 - 1)):Int).toNat zV).2.2.1),0,()),(((),(),(),()),y0.2.1.1,((),(),(),(),(),()),y0.2.1.2.1,()),(q0,q1,q2,q3,()))) else none) else none))))))
noncomputable def c16:Con:=⟨{ sl := [(0,.p 0 0),(1,.v .s),(2,.v (.p (.i .u64) (.p (.i .i64) .u)))],bx := [[.p 1 0,.x,.mv 2], [.mv 3,.sg 64 .b,.sg 64 .b,.v (.l (.i .u64)),.v (.i .u64),.v (.i .i64),.v (.i .u64)], [.mt [(⟨#[97]⟩:ByteArray),(⟨#[98]⟩:ByteArray),(⟨#[99]⟩:ByteArray),(⟨#[100]⟩:ByteArray)],.o 0,.o 1,.o 2,.o 3], [.ms tDCe]],bf := [tDVn,tDVn,tDVn,tDVn] },(.ret { sl := [(0,.v tDCe),(1,.v .b),(2,.v (.i .i64))],bx := [[.p 1 0,.x,.mv 2], [.mv 3,.sg 64 .b,.sg 64 .b,.v (.l (.i .u64)),.v (.i .u64),.v (.i .i64),.v (.i .u64)], [.mt [(⟨#[97]⟩:ByteArray),(⟨#[98]⟩:ByteArray),(⟨#[99]⟩:ByteArray),(⟨#[100]⟩:ByteArray)],.o 0,.o 1,.o 2,.o 3], [.ms tDCe]],bf := [tDVn,tDVn,tDVn,tDVn] }),fun x=>F16 x.1.2.1 x.1.2.2.1 x.2.1.2.1.2.1 x.2.1.2.1.2.2.1 x.2.1.2.1.2.2.2.1 x.2.1.2.1.2.2.2.2.1 x.2.1.2.1.2.2.2.2.2.1 x.2.1.2.1.2.2.2.2.2.2.1 x.2.1.2.2.2.1.1 x.2.2.1 x.2.2.2.1 x.2.2.2.2.1 x.2.2.2.2.2.1⟩
theorem c16_ok:Con.OK Try.prog 16 c16:=fnX [(27,c27),(35,c35),(46,c46),(47,c47),(3000035,c35)] ⟨c27_ok,c35_ok,c46_ok,c47_ok,c35_okR,trivial⟩ Try.func16
noncomputable def F50 (a0:(List Int)) (a1:(List Int)):Option ((Bool × Unit) × Unit × Unit):=
 (some (((((strL a0):ByteArray).toList == ((strL a1):ByteArray).toList),()),(),()))
noncomputable def c50:Con:=⟨{ sl := [(0,.v (.l (.i .u8))),(1,.v (.l (.i .u8)))] },(.ret { sl := [(0,.v .b)] }),fun x=>F50 x.1.1 x.1.2.1⟩
theorem c50_ok:Con.OK Try.prog 50 c50:=fnX [] trivial Try.func50
noncomputable def F18 (a0:DCe) (a1:DCe):Option ((Bool × Unit) × Unit × Unit):=
 (bif ((a0.1:Int) == a1.1) then ((F50 a0.2.1 a1.2.1).bind fun y0=>(bif y0.1.1 then ((F38 a0.2.2.1 a1.2.2.1).bind fun y1=>(some (y1.1,(),()))) else (some ((false,()),(),())))) else (some ((false,()),(),())))
noncomputable def c18:Con:=⟨{ sl := [(0,.v tDCe),(1,.v tDCe)] },(.ret { sl := [(0,.v .b)] }),fun x=>F18 x.1.1 x.1.2.1⟩
theorem c18_ok:Con.OK Try.prog 18 c18:=fnX [(38,c38),(50,c50)] ⟨c38_ok,c50_ok,trivial⟩ Try.func18
noncomputable def T4_10 (a13:Int) (b2_0:Int) (b2_1:Int) (b3_1:(List Bool)) (b3_2:(List Bool)) (b3_3:(List Int)) (b3_4:Int) (b3_5:Int) (b3_6:Int) (b5_1:(List Bool)) (b5_2:(List Bool)) (b5_3:(List Int)) (b5_4:Int) (b5_5:Int) (b5_6:Int) (b7_0:(List (ByteArray × DCe))) (b8_0:(List (ByteArray × DCe))) (q0:(List DVn)) (q1:(List DVn)) (q2:(List DVn)) (q3:(List DVn)) (q4:(List DVn)) (q5:(List DVn)) (q6:(List DVn)) (q7:(List DVn)):Option (((Unit × (Unit × (Unit × (Int × Unit)))) × (ZUt × (ZUt × ((Int × (Int × Unit)) × (ZFt × (ZMt × (ZFt × (ZMt × (ZKt × (ZKt × Unit))))))))) × ((List DVn) × ((List DVn) × ((List DVn) × ((List DVn) × ZVt))))) ⊕ (((Bool × Unit) × (ZUt × (ZUt × ((Int × (Int × Unit)) × (ZFt × (ZMt × (ZFt × (ZMt × (ZKt × (ZKt × Unit))))))))) × ((List DVn) × ((List DVn) × ((List DVn) × ((List DVn) × ZVt))))) ⊕ (Unit × (ZUt × (ZUt × ((Int × (Int × Unit)) × (ZFt × (ZMt × (ZFt × (ZMt × (ZKt × (ZKt × Unit))))))))) × ((List DVn) × ((List DVn) × ((List DVn) × ((List DVn) × ZVt))))))):=
 (bif (decide ((a13:Int)<6)) then ((F16 (strL [(IntKind.wrap .u8 (97+(IntKind.wrap .u8 a13)))]) (b2_0,(b2_1,())) b3_1 b3_2 b3_3 b3_4 b3_5 b3_6 b7_0 q0 q1 q2 q3).bind fun y0=>((F16 (strL [(IntKind.wrap .u8 (97+(IntKind.wrap .u8 a13)))]) (b2_0,(b2_1,())) b5_1 b5_2 b5_3 b5_4 b5_5 b5_6 b8_0 q4 q5 q6 q7).bind fun y1=>(bif ((y0.1.2.2.1:Int) == 0) then (bif ((y1.1.2.2.1:Int) == 0) then (bif (!(y0.1.2.1 == y1.1.2.1)) then (some (.inr (.inl ((false,()),(((),(),(),()),((),(),(),()),(b2_0,b2_1,()),y0.2.1.2.1,((),(),(),(),(),()),y1.2.1.2.1,((),(),(),(),(),()),y0.2.1.2.2.2.1,y1.2.1.2.2.2.1,()),(y0.2.2.1,y0.2.2.2.1,y0.2.2.2.2.1,y0.2.2.2.2.2.1,y1.2.2.1,y1.2.2.2.1,y1.2.2.2.2.1,y1.2.2.2.2.2.1,()))))) else (bif y0.1.2.1 then ((F18 y0.1.1 y1.1.1).bind fun y2=>(bif (!y2.1.1) then (some (.inr (.inl ((false,()),(((),(),(),()),((),(),(),()),(b2_0,b2_1,()),y0.2.1.2.1,((),(),(),(),(),()),y1.2.1.2.1,((),(),(),(),(),()),y0.2.1.2.2.2.1,y1.2.1.2.2.2.1,()),(y0.2.2.1,y0.2.2.2.1,y0.2.2.2.2.1,y0.2.2.2.2.2.1,y1.2.2.1,y1.2.2.2.1,y1.2.2.2.2.1,y1.2.2.2.2.2.1,()))))) else (some (.inl (((),(),(),(IntKind.wrap .i64 (a13+1)),()),(((),(),(),()),((),(),(),()),(b2_0,b2_1,()),y0.2.1.2.1,((),(),(),(),(),()),y1.2.1.2.1,((),(),(),(),(),()),y0.2.1.2.2.2.1,y1.2.1.2.2.2.1,()),(y0.2.2.1,y0.2.2.2.1,y0.2.2.2.2.1,y0.2.2.2.2.2.1,y1.2.2.1,y1.2.2.2.1,y1.2.2.2.2.1,y1.2.2.2.2.2.1,())))))) else (some (.inl (((),(),(),(IntKind.wrap .i64 (a13+1)),()),(((),(),(),()),((),(),(),()),(b2_0,b2_1,()),y0.2.1.2.1,((),(),(),(),(),()),y1.2.1.2.1,((),(),(),(),(),()),y0.2.1.2.2.2.1,y1.2.1.2.2.2.1,()),(y0.2.2.1,y0.2.2.2.1,y0.2.2.2.2.1,y0.2.2.2.2.2.1,y1.2.2.1,y1.2.2.2.1,y1.2.2.2.2.1,y1.2.2.2.2.2.1,())))))) else (some (.inl (((),(),(),(IntKind.wrap .i64 (a13+1)),()),(((),(),(),()),((),(),(),()),(b2_0,b2_1,()),y0.2.1.2.1,((),(),(),(),(),()),y1.2.1.2.1,((),(),(),(),(),()),y0.2.1.2.2.2.1,y1.2.1.2.2.2.1,()),(y0.2.2.1,y0.2.2.2.1,y0.2.2.2.2.1,y0.2.2.2.2.2.1,y1.2.2.1,y1.2.2.2.1,y1.2.2.2.2.1,y1.2.2.2.2.2.1,()))))) else (some (.inl (((),(),(),(IntKind.wrap .i64 (a13+1)),()),(((),(),(),()),((),(),(),()),(b2_0,b2_1,()),y0.2.1.2.1,((),(),(),(),(),()),y1.2.1.2.1,((),(),(),(),(),()),y0.2.1.2.2.2.1,y1.2.1.2.2.2.1,()),(y0.2.2.1,y0.2.2.2.1,y0.2.2.2.2.1,y0.2.2.2.2.2.1,y1.2.2.1,y1.2.2.2.1,y1.2.2.2.2.1,y1.2.2.2.2.2.1,()))))))) else (some (.inr (.inr ((),(((),(),(),()),((),(),(),()),(b2_0,b2_1,()),((),b3_1,b3_2,b3_3,b3_4,b3_5,b3_6,()),((),(),(),(),(),()),((),b5_1,b5_2,b5_3,b5_4,b5_5,b5_6,()),((),(),(),(),(),()),(b7_0,()),(b8_0,()),()),(q0,q1,q2,q3,q4,q5,q6,q7,()))))))
noncomputable def L4_10 (a13:Int) (b2_0:Int) (b2_1:Int) (b3_1:(List Bool)) (b3_2:(List Bool)) (b3_3:(List Int)) (b3_4:Int) (b3_5:Int) (b3_6:Int) (b5_1:(List Bool)) (b5_2:(List Bool)) (b5_3:(List Int)) (b5_4:Int) (b5_5:Int) (b5_6:Int) (b7_0:(List (ByteArray × DCe))) (b8_0:(List (ByteArray × DCe))) (q0:(List DVn)) (q1:(List DVn)) (q2:(List DVn)) (q3:(List DVn)) (q4:(List DVn)) (q5:(List DVn)) (q6:(List DVn)) (q7:(List DVn)):Option (((Bool × Unit) × (ZUt × (ZUt × ((Int × (Int × Unit)) × (ZFt × (ZMt × (ZFt × (ZMt × (ZKt × (ZKt × Unit))))))))) × ((List DVn) × ((List DVn) × ((List DVn) × ((List DVn) × ZVt))))) ⊕ (Unit × (ZUt × (ZUt × ((Int × (Int × Unit)) × (ZFt × (ZMt × (ZFt × (ZMt × (ZKt × (ZKt × Unit))))))))) × ((List DVn) × ((List DVn) × ((List DVn) × ((List DVn) × ZVt)))))):=loopF (fun x:((Unit × (Unit × (Unit × (Int × Unit)))) × (ZUt × (ZUt × ((Int × (Int × Unit)) × (ZFt × (ZMt × (ZFt × (ZMt × (ZKt × (ZKt × Unit))))))))) × ((List DVn) × ((List DVn) × ((List DVn) × ((List DVn) × ZVt)))))=>T4_10 x.1.2.2.2.1 x.2.1.2.2.1.1 x.2.1.2.2.1.2.1 x.2.1.2.2.2.1.2.1 x.2.1.2.2.2.1.2.2.1 x.2.1.2.2.2.1.2.2.2.1 x.2.1.2.2.2.1.2.2.2.2.1 x.2.1.2.2.2.1.2.2.2.2.2.1 x.2.1.2.2.2.1.2.2.2.2.2.2.1 x.2.1.2.2.2.2.2.1.2.1 x.2.1.2.2.2.2.2.1.2.2.1 x.2.1.2.2.2.2.2.1.2.2.2.1 x.2.1.2.2.2.2.2.1.2.2.2.2.1 x.2.1.2.2.2.2.2.1.2.2.2.2.2.1 x.2.1.2.2.2.2.2.1.2.2.2.2.2.2.1 x.2.1.2.2.2.2.2.2.2.1.1 x.2.1.2.2.2.2.2.2.2.2.1.1 x.2.2.1 x.2.2.2.1 x.2.2.2.2.1 x.2.2.2.2.2.1 x.2.2.2.2.2.2.1 x.2.2.2.2.2.2.2.1 x.2.2.2.2.2.2.2.2.1 x.2.2.2.2.2.2.2.2.2.1) (((),(),(),a13,()),(((),(),(),()),((),(),(),()),(b2_0,b2_1,()),((),b3_1,b3_2,b3_3,b3_4,b3_5,b3_6,()),((),(),(),(),(),()),((),b5_1,b5_2,b5_3,b5_4,b5_5,b5_6,()),((),(),(),(),(),()),(b7_0,()),(b8_0,()),()),(q0,q1,q2,q3,q4,q5,q6,q7,()))
theorem L4_10_eq (a13:Int) (b2_0:Int) (b2_1:Int) (b3_1:(List Bool)) (b3_2:(List Bool)) (b3_3:(List Int)) (b3_4:Int) (b3_5:Int) (b3_6:Int) (b5_1:(List Bool)) (b5_2:(List Bool)) (b5_3:(List Int)) (b5_4:Int) (b5_5:Int) (b5_6:Int) (b7_0:(List (ByteArray × DCe))) (b8_0:(List (ByteArray × DCe))) (q0:(List DVn)) (q1:(List DVn)) (q2:(List DVn)) (q3:(List DVn)) (q4:(List DVn)) (q5:(List DVn)) (q6:(List DVn)) (q7:(List DVn)):L4_10 a13 b2_0 b2_1 b3_1 b3_2 b3_3 b3_4 b3_5 b3_6 b5_1 b5_2 b5_3 b5_4 b5_5 b5_6 b7_0 b8_0 q0 q1 q2 q3 q4 q5 q6 q7=(T4_10 a13 b2_0 b2_1 b3_1 b3_2 b3_3 b3_4 b3_5 b3_6 b5_1 b5_2 b5_3 b5_4 b5_5 b5_6 b7_0 b8_0 q0 q1 q2 q3 q4 q5 q6 q7).bind (Sum.elim (fun x=>L4_10 x.1.2.2.2.1 x.2.1.2.2.1.1 x.2.1.2.2.1.2.1 x.2.1.2.2.2.1.2.1 x.2.1.2.2.2.1.2.2.1 x.2.1.2.2.2.1.2.2.2.1 x.2.1.2.2.2.1.2.2.2.2.1 x.2.1.2.2.2.1.2.2.2.2.2.1 x.2.1.2.2.2.1.2.2.2.2.2.2.1 x.2.1.2.2.2.2.2.1.2.1 x.2.1.2.2.2.2.2.1.2.2.1 x.2.1.2.2.2.2.2.1.2.2.2.1 x.2.1.2.2.2.2.2.1.2.2.2.2.1 x.2.1.2.2.2.2.2.1.2.2.2.2.2.1 x.2.1.2.2.2.2.2.1.2.2.2.2.2.2.1 x.2.1.2.2.2.2.2.2.2.1.1 x.2.1.2.2.2.2.2.2.2.2.1.1 x.2.2.1 x.2.2.2.1 x.2.2.2.2.1 x.2.2.2.2.2.1 x.2.2.2.2.2.2.1 x.2.2.2.2.2.2.2.1 x.2.2.2.2.2.2.2.2.1 x.2.2.2.2.2.2.2.2.2.1) some):=loopF_eq _ _
noncomputable def k4_10:Con:=⟨{ sl := [(10,.p 0 0),(11,.p 1 0),(12,.p 2 0),(13,.v (.i .i64))],bx := [[.p 3 0,.x,.mv 4], [.p 5 0,.x,.mv 6], [.v (.i .u64),.v (.i .i64)], [.mv 7,.sg 64 .b,.sg 64 .b,.v (.l (.i .u64)),.v (.i .u64),.v (.i .i64),.v (.i .u64)], [.mt [(⟨#[97]⟩:ByteArray),(⟨#[98]⟩:ByteArray),(⟨#[99]⟩:ByteArray),(⟨#[100]⟩:ByteArray)],.o 0,.o 1,.o 2,.o 3], [.mv 8,.sg 64 .b,.sg 64 .b,.v (.l (.i .u64)),.v (.i .u64),.v (.i .i64),.v (.i .u64)], [.mt [(⟨#[97]⟩:ByteArray),(⟨#[98]⟩:ByteArray),(⟨#[99]⟩:ByteArray),(⟨#[100]⟩:ByteArray)],.o 4,.o 5,.o 6,.o 7], [.ms tDCe], [.ms tDCe]],bf := [tDVn,tDVn,tDVn,tDVn,tDVn,tDVn,tDVn,tDVn] },(.two (.ret { sl := [(8,.v .b)],bx := [[.p 3 0,.x,.mv 4], [.p 5 0,.x,.mv 6], [.v (.i .u64),.v (.i .i64)], [.mv 7,.sg 64 .b,.sg 64 .b,.v (.l (.i .u64)),.v (.i .u64),.v (.i .i64),.v (.i .u64)], [.mt [(⟨#[97]⟩:ByteArray),(⟨#[98]⟩:ByteArray),(⟨#[99]⟩:ByteArray),(⟨#[100]⟩:ByteArray)],.o 0,.o 1,.o 2,.o 3], [.mv 8,.sg 64 .b,.sg 64 .b,.v (.l (.i .u64)),.v (.i .u64),.v (.i .i64),.v (.i .u64)], [.mt [(⟨#[97]⟩:ByteArray),(⟨#[98]⟩:ByteArray),(⟨#[99]⟩:ByteArray),(⟨#[100]⟩:ByteArray)],.o 4,.o 5,.o 6,.o 7], [.ms tDCe], [.ms tDCe]],bf := [tDVn,tDVn,tDVn,tDVn,tDVn,tDVn,tDVn,tDVn] }) (.exit 0 { sl := [],bx := [[.p 3 0,.x,.mv 4], [.p 5 0,.x,.mv 6], [.v (.i .u64),.v (.i .i64)], [.mv 7,.sg 64 .b,.sg 64 .b,.v (.l (.i .u64)),.v (.i .u64),.v (.i .i64),.v (.i .u64)], [.mt [(⟨#[97]⟩:ByteArray),(⟨#[98]⟩:ByteArray),(⟨#[99]⟩:ByteArray),(⟨#[100]⟩:ByteArray)],.o 0,.o 1,.o 2,.o 3], [.mv 8,.sg 64 .b,.sg 64 .b,.v (.l (.i .u64)),.v (.i .u64),.v (.i .i64),.v (.i .u64)], [.mt [(⟨#[97]⟩:ByteArray),(⟨#[98]⟩:ByteArray),(⟨#[99]⟩:ByteArray),(⟨#[100]⟩:ByteArray)],.o 4,.o 5,.o 6,.o 7], [.ms tDCe], [.ms tDCe]],bf := [tDVn,tDVn,tDVn,tDVn,tDVn,tDVn,tDVn,tDVn] })),fun x=>L4_10 x.1.2.2.2.1 x.2.1.2.2.1.1 x.2.1.2.2.1.2.1 x.2.1.2.2.2.1.2.1 x.2.1.2.2.2.1.2.2.1 x.2.1.2.2.2.1.2.2.2.1 x.2.1.2.2.2.1.2.2.2.2.1 x.2.1.2.2.2.1.2.2.2.2.2.1 x.2.1.2.2.2.1.2.2.2.2.2.2.1 x.2.1.2.2.2.2.2.1.2.1 x.2.1.2.2.2.2.2.1.2.2.1 x.2.1.2.2.2.2.2.1.2.2.2.1 x.2.1.2.2.2.2.2.1.2.2.2.2.1 x.2.1.2.2.2.2.2.1.2.2.2.2.2.1 x.2.1.2.2.2.2.2.1.2.2.2.2.2.2.1 x.2.1.2.2.2.2.2.2.2.1.1 x.2.1.2.2.2.2.2.2.2.2.1.1 x.2.2.1 x.2.2.2.1 x.2.2.2.2.1 x.2.2.2.2.2.1 x.2.2.2.2.2.2.1 x.2.2.2.2.2.2.2.1 x.2.2.2.2.2.2.2.2.1 x.2.2.2.2.2.2.2.2.2.1⟩
theorem k4_10_ok:Con.LOK Try.prog Try.f4.ntmps (lpOf Try.f4 10) k4_10:=lpX [(16,c16),(18,c18)] [] [] (fun x=>T4_10 x.1.2.2.2.1 x.2.1.2.2.1.1 x.2.1.2.2.1.2.1 x.2.1.2.2.2.1.2.1 x.2.1.2.2.2.1.2.2.1 x.2.1.2.2.2.1.2.2.2.1 x.2.1.2.2.2.1.2.2.2.2.1 x.2.1.2.2.2.1.2.2.2.2.2.1 x.2.1.2.2.2.1.2.2.2.2.2.2.1 x.2.1.2.2.2.2.2.1.2.1 x.2.1.2.2.2.2.2.1.2.2.1 x.2.1.2.2.2.2.2.1.2.2.2.1 x.2.1.2.2.2.2.2.1.2.2.2.2.1 x.2.1.2.2.2.2.2.1.2.2.2.2.2.1 x.2.1.2.2.2.2.2.1.2.2.2.2.2.2.1 x.2.1.2.2.2.2.2.2.2.1.1 x.2.1.2.2.2.2.2.2.2.2.1.1 x.2.2.1 x.2.2.2.1 x.2.2.2.2.1 x.2.2.2.2.2.1 x.2.2.2.2.2.2.1 x.2.2.2.2.2.2.2.1 x.2.2.2.2.2.2.2.2.1 x.2.2.2.2.2.2.2.2.2.1) ⟨c16_ok,c18_ok,trivial⟩ trivial
noncomputable def F4 (a0:(List Int)) (a1:Int) (a2:Int) (a3:Int):Option ((Bool × Unit) × Unit × Unit):=
 ((F8).bind fun y0=>(bif (!y0.1.1) then ((F8).bind fun y1=>(some (y1.1,(),()))) else (bif (decide (((((a0).length:Nat):Int):Int) > 50)) then ((F8).bind fun y2=>(some (y2.1,(),()))) else ((F10t a0).bind fun y3=>((F9 y3.1.1).bind fun y4=>(bif (((((y4.1.1).length:Nat):Int):Int) == 0) then (some ((true,()),(),())) else (bif (decide (((IntKind.wrap .i64 ((((y4.1.1).length:Nat):Int)+1)):Int)≠0)) then ((F11 y4.1.1 (((IntKind.wrap .i64 a1):Int).tmod (IntKind.wrap .i64 ((((y4.1.1).length:Nat):Int)+1)))).bind fun y5=>(bif (decide (((IntKind.wrap .i64 ((((y4.1.1).length:Nat):Int)+1)):Int)≠0)) then ((F11 y4.1.1 (((IntKind.wrap .i64 a2):Int).tmod (IntKind.wrap .i64 ((((y4.1.1).length:Nat):Int)+1)))).bind fun y6=>(bif (decide (((((y4.1.1).length:Nat):Int):Int)≠0)) then (bif (decide (0≤((((IntKind.wrap .i64 a3):Int).tmod (((y4.1.1).length:Nat):Int)):Int)∧((((IntKind.wrap .i64 a3):Int).tmod (((y4.1.1).length:Nat):Int)):Int)<(((y4.1.1).length:Nat):Int))) then ((F12 ((y4.1.1).getD ((((IntKind.wrap .i64 a3):Int).tmod (((y4.1.1).length:Nat):Int)):Int).toNat zE)).bind fun y7=>((L4_10 0 y7.1.1.1 y7.1.1.2.1 y5.2.1.2.1.2.1 y5.2.1.2.1.2.2.1 y5.2.1.2.1.2.2.2.1 y5.2.1.2.1.2.2.2.2.1 y5.2.1.2.1.2.2.2.2.2.1 y5.2.1.2.1.2.2.2.2.2.2.1 y6.2.1.2.1.2.1 y6.2.1.2.1.2.2.1 y6.2.1.2.1.2.2.2.1 y6.2.1.2.1.2.2.2.2.1 y6.2.1.2.1.2.2.2.2.2.1 y6.2.1.2.1.2.2.2.2.2.2.1 y5.2.1.2.2.2.1.1 y6.2.1.2.2.2.1.1 y5.2.2.1 y5.2.2.2.1 y5.2.2.2.2.1 y5.2.2.2.2.2.1 y6.2.2.1 y6.2.2.2.1 y6.2.2.2.2.1 y6.2.2.2.2.2.1).bind fun y8=>(Sum.elim (fun y9=>(some (y9.1,(),()))) (fun y9=>(some ((true,()),(),()))) y8))) else none) else none)) else none)) else none)))))))
noncomputable def c4:Con:=⟨{ sl := [(0,.v (.l (.i .u16))),(1,.v (.i .u8)),(2,.v (.i .u8)),(3,.v (.i .u8))] },(.ret { sl := [(0,.v .b)] }),fun x=>F4 x.1.1 x.1.2.1 x.1.2.2.1 x.1.2.2.2.1⟩
theorem c4_ok:Con.OK Try.prog 4 c4:=fnL [(8,c8),(9,c9),(10,c10t),(11,c11),(12,c12),(16,c16),(18,c18)] [(10,k4_10)] [10] ⟨c8_ok,c9_ok,c10t_ok,c11_ok,c12_ok,c16_ok,c18_ok,trivial⟩ ⟨k4_10_ok,trivial⟩ Try.func4
end Go.IM.V
set_option linter.unusedSimpArgs false
namespace Go.IM.V
open Go Go.IM Go.Proofs
def cntW (l:List DEv) (w:Int):Nat:=(l.filter (fun e=>e.1 == w)).length
structure GdL (r:List DEv):Prop where
 ev : ∀e∈r,EvH e
 er:r.Pairwise Er
 sq : ∀(i:Nat) (e:DEv),r[i]? = some e→e.2.1=(cntW (r.take i) e.1:Int)+1
 len:r.length≤1000
def lastP (l:List DEv):Pl:=match l.getLast? with
 | some e=>pl e
 | none=>(0,(0,()))
def J0:List Bool:=((((((List.replicate 64 (false:Bool))).set (0:Int).toNat true)).set (1:Int).toNat true)).set (2:Int).toNat true
def R0:List Bool:=List.replicate 64 (false:Bool)
structure FOK (l:List DEv) (v:List Int) (t w:Int) (ms:Cs):Prop where
 vl:v.length≤64
 vg : ∀k:Nat,gv v k=cntW l (k:Int)
 sp:(t,(w,()))=lastP l
 nd:(ms.map (·.1)).Nodup
 mf : ∀q,mfind q ms=cel q l
theorem take_succ' {α:Type} {r:List α} {i:Nat} {e:α} (h:r[i]? = some e):r.take (i+1)=r.take i ++ [e]:=by
 rw [List.take_add_one,h]; rfl
theorem cntW_app (l:List DEv) (e:DEv) (w:Int):cntW (l ++ [e]) w=cntW l w+if e.1=w then 1 else 0:=by
 unfold cntW; rw [List.filter_append,List.length_append]; by_cases h:e.1=w
 ·rw [if_pos h]; simp [h]
 ·rw [if_neg h]; simp [h]
theorem lastP_app (l:List DEv) (e:DEv):lastP (l ++ [e])=pl e:=by unfold lastP; rw [List.getLast?_append]; rfl
theorem FOK.nil:FOK [] [] 0 0 []:=⟨by simp,fun k=>rfl,rfl,List.nodup_nil,fun q=>rfl⟩
theorem last_lt {r:List DEv} (hg:GdL r) {i:Nat} {e:DEv} (hi:r[i]? = some e):kl (lastP (r.take i)) (pl e)=true:=by
 have hel:=hg.ev e (List.mem_of_getElem? hi); rcases Nat.eq_zero_or_pos i with h0 | h0
 ·subst h0; show kl (0,(0,())) (pl e)=true; rw [kl_iff]; left; show (0:Int)<e.2.2.1; have:=hel.t; omega
 ·obtain ⟨j,rfl⟩ : ∃j,i=j+1:=⟨i - 1,by omega⟩; have hl:=lt_get? hi; have hj:r[j]? = some r[j]:=List.getElem?_eq_getElem (by omega); rw [take_succ' hj,lastP_app]; have:=List.pairwise_iff_getElem.1 hg.er j (j+1) (by omega) hl (by omega)
  rw [List.getElem?_eq_getElem hl] at hi; cases hi; exact this
theorem GdL.evf {r:List DEv} (hg:GdL r) (k:Nat) : ∀e∈r.take k,EvF e:=fun e he=>(hg.ev e (List.mem_of_mem_take he)).g.f
theorem FOK.step {r:List DEv} (hg:GdL r) {i:Nat} {e:DEv} (hi:r[i]? = some e) {v:List Int} {t w:Int} {ms:Cs} (h:FOK (r.take i) v t w ms) (J R:List Bool) (mk:Int) :
  ∃v' t' w' mk' ms',F23 e J R v t w mk ms=some ((0,()),(((),J,R,v',t',w',mk',()),(ms',()),()),())∧FOK (r.take (i+1)) v' t' w' ms':=by
 have hel:=hg.ev e (List.mem_of_getElem? hi); have hw0:=hel.g.w0; have hw1:(e.1.toNat:Int)=e.1:=by omega
 obtain ⟨mk',hF⟩:=F23_eq e J R v t w mk ms hel (by rw [h.sp]; exact last_lt hg hi) h.vl (by rw [h.vg,hw1]; exact hg.sq i e hi) (fun c hc=>cel_good (hg.evf i) c (by rw [←h.mf]; exact hc))
 refine ⟨_,_,_,mk',_,hF, ?_⟩; rw [take_succ' hi]; refine ⟨withV_len (by have:=hel.w; omega) h.vl,fun k => ?_, ?_,stepM_keys h.nd,fun q => ?_⟩
 ·rw [gv_with,cntW_app]; by_cases hk:k=e.1.toNat
  ·subst hk; rw [if_pos rfl,if_pos (by omega),hg.sq i e hi,hw1]; omega
  ·rw [if_neg hk,if_neg (by omega),h.vg]; omega
 ·rw [lastP_app]; rfl
 ·have hk:=hel.g.f.1; rw [stepM_find h.nd ⟨hk.1,hk.2⟩,cel_app,h.mf]
theorem L45_run (r:List DEv) (hg:GdL r) (n:Nat) (hn:n≤r.length) (J R:List Bool) : ∀(d k:Nat) (v:List Int) (t w mk:Int) (ms:Cs),k+d=n→FOK (r.take k) v t w ms →
  ∃v' t' w' mk' ms',L45_3 r (n:Nat) (k:Nat) J R v t w mk ms=some ((),(((),J,R,v',t',w',mk',()),(ms',()),()),())∧FOK (r.take n) v' t' w' ms':=by
 intro d; induction d with
 | zero=>
  intro k v t w mk ms hk h; obtain rfl:k=n:=by omega
  rw [L45_3_eq]; unfold T45_3; rw [decide_eq_false (by omega)]; exact ⟨v,t,w,mk,ms,rfl,h⟩
 | succ d ih=>
  intro k v t w mk ms hk h; have hl:=hg.len; have hkl:k<r.length:=by omega
  have hi:r[k]? = some r[k]:=List.getElem?_eq_getElem hkl; obtain ⟨v1,t1,w1,mk1,ms1,hF,h1⟩:=h.step hg hi J R mk; rw [L45_3_eq]; unfold T45_3; rw [decide_eq_true (show (k:Int)<(n:Int) by omega),decide_eq_true (show 0≤(k:Int)∧(k:Int)<((r.length:Nat):Int) by omega)]; simp only [cond_true,dev_eta,Int.toNat_natCast]; rw [getD_get hkl,hF]; simp only [Option.bind_some,Sum.elim_inl]
  rw [show IntKind.wrap .i64 ((k:Int)+1)=((k+1:Nat):Int) by rw [wz (by omega) (by omega)]; rfl]
  exact ih (k+1) v1 t1 w1 mk1 ms1 (by omega) h1
theorem F45_eq (r:List DEv) (hg:GdL r) (n:Nat) (hn:n≤r.length) : ∃v t w mk ms,F45 r (n:Nat)=some (((),()),(((),J0,R0,v,t,w,mk,()),(ms,()),()),())∧FOK (r.take n) v t w ms:=by
 obtain ⟨v,t,w,mk,ms,h1,h2⟩:=L45_run r hg n hn J0 R0 n 0 [] 0 0 14695981039346656037 [] (by omega) FOK.nil; refine ⟨v,t,w,mk,ms, ?_,h2⟩; unfold F45 F20; simp only [Option.bind_some]; rw [show L45_3 r (n:Nat) 0 (((((((List.replicate 64 (false:Bool))).set (0:Int).toNat true)).set (1:Int).toNat true)).set (2:Int).toNat true) (List.replicate 64 (false:Bool)) ([]:List Int) 0 0 14695981039346656037 ([]:List (ByteArray × DCe))=_ from h1]
 rfl
theorem J0_len:J0.length=64:=by decide
theorem R0_len:R0.length=64:=by decide
theorem F25_eq' (v:List Int) (t w mk:Int) (ms:Cs):F25 J0 R0 v t w mk ms=some (((),()),(((),J0,R0,v,t,w,mk,()),(ms,()),((),J0,R0,v,t,w,mk,()),(ms,()),()),()):=by
 unfold F25 F65; simp only [Option.bind_some]; rw [cpN_eq J0_len,cpN_eq R0_len]; rfl
theorem L44_run (r:List DEv) (hg:GdL r) (n:Nat) (hn:n≤r.length) (b1:List Bool) (b2:List Bool) (b3:List Int) (b4 b5 b6:Int) (b7:Cs) (lv:List DEv) (J R:List Bool) : ∀(d k:Nat) (v:List Int) (t w mk:Int) (ms:Cs),n+k+d=r.length→FOK (r.take (n+k)) v t w ms →
  ∃v' t' w' mk' ms',L44_5 (r.drop n) (((r.drop n).length:Nat):Int) (k:Nat) lv b1 b2 b3 b4 b5 b6 J R v t w mk b7 ms=some (.inr ((),(((),lv,(),()),((),b1,b2,b3,b4,b5,b6,()),((),J,R,v',t',w',mk',()),(b7,()),(ms',()),()),()))∧FOK r v' t' w' ms':=by
 intro d; induction d with
 | zero=>
  intro k v t w mk ms hk h; have hl:=hg.len; rw [L44_5_eq]; unfold T44_5; rw [decide_eq_false (by rw [List.length_drop]; omega)]
  rw [List.take_of_length_le (by omega)] at h; exact ⟨v,t,w,mk,ms,rfl,h⟩
 | succ d ih=>
  intro k v t w mk ms hk h; have hl:=hg.len; have hkl:k<(r.drop n).length:=by rw [List.length_drop]; omega
  have hi:r[n+k]? = some (r.drop n)[k]:=by rw [←List.getElem?_drop,List.getElem?_eq_getElem hkl]
  obtain ⟨v1,t1,w1,mk1,ms1,hF,h1⟩:=h.step hg hi J R mk; rw [L44_5_eq]; unfold T44_5; rw [decide_eq_true (show (k:Int)<(((r.drop n).length:Nat):Int) by omega),decide_eq_true (show 0≤(k:Int)∧(k:Int)<(((r.drop n).length:Nat):Int) by omega)]; simp only [cond_true,dev_eta,Int.toNat_natCast]; rw [getD_get hkl,hF]; simp only [Option.bind_some,show ((0:Int) != 0)=false from rfl,cond_false,Sum.elim_inl]
  rw [List.length_drop] at hkl; rw [show IntKind.wrap .i64 ((k:Int)+1)=((k+1:Nat):Int) by rw [wz (by omega) (by omega)]; rfl]
  exact ih (k+1) v1 t1 w1 mk1 ms1 (by omega) h1
theorem F44_eq (r:List DEv) (hg:GdL r) (n:Nat) (hn:n≤r.length) (v:List Int) (t w mk:Int) (ms:Cs) (h:FOK (r.take n) v t w ms) :
  ∃v' t' w' mk' ms',F44 [r.drop n] J0 R0 v t w mk ms=some (((),0,()),(((),J0,R0,v,t,w,mk,()),(ms,()),((),r.drop n,(),()),((),J0,R0,v',t',w',mk',()),(ms',()),()),()):=by
 have hl:=hg.len; have hp:(r.drop n).Pairwise Er:=hg.er.sublist (List.drop_sublist n r); obtain ⟨v',t',w',mk',ms',h1,_⟩:=L44_run r hg n hn J0 R0 v t w mk ms (r.drop n) J0 R0 (r.length - n) 0 v t w mk ms (by omega) h; refine ⟨v',t',w',mk',ms', ?_⟩; unfold F44; rw [F85_eq [r.drop n] (r.drop n) (by simp) (by simpa using hp) hp (by simp) (by rw [List.length_drop]; omega) (fun e he=>by
  have:=(hg.ev e (List.mem_of_mem_drop he)).g
  exact ⟨this.w0,this.t0⟩)]
 simp only [Option.bind_some]; rw [F25_eq']; simp only [Option.bind_some]; rw [show L44_5 (r.drop n) (((r.drop n).length:Nat):Int) 0 (r.drop n) J0 R0 v t w mk J0 R0 v t w mk ms ms=_ from h1]; rfl
end Go.IM.V
namespace Go.IM.V
open Go Go.IM Go.Proofs
theorem F82_eq (lv:List DEv) (J R:List Bool) (v:List Int) (t w mk:Int) (ms:Cs):F82 lv J R v t w mk ms=some (((((lv.length:Nat):Int)),()),(((),lv,(),()),((),J,R,v,t,w,mk,()),(ms,()),()),()):=rfl
theorem F83_eq (lv:List DEv) (k:Nat) (hk:k<lv.length) (J R:List Bool) (v:List Int) (t w mk:Int) (ms:Cs):F83 (k:Nat) lv J R v t w mk ms=some ((lv[k],true,()),(((),lv,(),()),((),J,R,v,t,w,mk,()),(ms,()),()),()):=by
 unfold F83; rw [decide_eq_false (show ¬(k:Int)<0 by omega),F82_eq]; simp only [cond_false,Option.bind_some]; rw [decide_eq_false (show ¬(k:Int)≥((lv.length:Nat):Int) by omega),decide_eq_true (show 0≤(k:Int)∧(k:Int)<((lv.length:Nat):Int) by omega)]; simp only [cond_false,cond_true,dev_eta,Int.toNat_natCast]; rw [getD_get hk]
theorem F84_eq (lv:List DEv) (v:List Int) (t w mk:Int) (ms:Cs):F84 lv J0 R0 v t w mk ms=some (((),()),(((),lv,(),()),((),J0,R0,v,t,w,mk,()),(ms,()),((),J0,R0,v,t,w,mk,()),(ms,()),()),()):=by
 unfold F84; rw [F25_eq']; rfl
theorem L42a_run (lv:List DEv) (hl:lv.length≤1000) (J R:List Bool) (v:List Int) (t w mk:Int) (ms:Cs) (q1 q2 q3 q4:List DVn) : ∀(d k:Nat),k+d=lv.length →
  L42_5 ((lv.length:Nat):Int) (k:Nat) lv J R v t w mk ms (lv.take k) q1 q2 q3 q4=some ((),(((),lv,(),()),((),(),(),()),((),J,R,v,t,w,mk,()),((),(),(),(),(),()),(ms,()),()),(lv,q1,q2,q3,q4,())):=by
 intro d; induction d with
 | zero=>
  intro k hk; rw [L42_5_eq]; unfold T42_5; rw [decide_eq_false (by omega),List.take_of_length_le (by omega)]; rfl
 | succ d ih=>
  intro k hk; have hkl:k<lv.length:=by omega
  rw [L42_5_eq]; unfold T42_5; rw [decide_eq_true (show (k:Int)<((lv.length:Nat):Int) by omega),F83_eq lv k hkl]; simp only [cond_true,Option.bind_some,dev_eta]; rw [decide_eq_true (by rw [limE,List.length_take]; simp only [List.length_cons,List.length_nil]; omega)]
  simp only [cond_true,Option.bind_some,Sum.elim_inl]; rw [show IntKind.wrap .i64 ((k:Int)+1)=((k+1:Nat):Int) by rw [wz (by omega) (by omega)]; rfl,←take_succ' (List.getElem?_eq_getElem hkl)]
  exact ih (k+1) (by omega)
abbrev dvn0:DVn:=(((0:Int),((0:Int),())),(((0:Int),([],((0:Nat),()))),(false,())))
noncomputable def verE (c:Option DCe) (e:DEv):DVn:=(pl e,(c.getD cd0,(!c.isSome,())))
noncomputable def verL (r:List DEv) (q:ByteArray) (n:Nat):Nat→List DVn
 | 0 => []
 | k+1=>match r[n+k]? with
  | some e=>if keyE e=q then verL r q n k ++ [verE (cel q (r.take (n+k+1))) e] else verL r q n k
  | none=>verL r q n k
theorem verL_len (r:List DEv) (q:ByteArray) (n:Nat) : ∀k,(verL r q n k).length≤k:=by
 intro k; induction k with
 | zero=>exact Nat.le_refl _
 | succ k ih=>
  simp only [verL]; split
  ·split
   ·simp; omega
   ·omega
  ·omega
def kA:ByteArray:=⟨#[97]⟩
def kB:ByteArray:=⟨#[98]⟩
def kC:ByteArray:=⟨#[99]⟩
def kD:ByteArray:=⟨#[100]⟩
theorem key_of {e:DEv} (h:EvF e):keyE e=kA∨keyE e=kB∨keyE e=kC∨keyE e=kD:=by
 obtain ⟨_,⟨c,c0,c1,hc⟩,_⟩:=h; have:c=97∨c=98∨c=99∨c=100:=by omega
 rcases this with rfl | rfl | rfl | rfl
 ·exact .inl (hc.trans rfl)
 ·exact .inr (.inl (hc.trans rfl))
 ·exact .inr (.inr (.inl (hc.trans rfl)))
 ·exact .inr (.inr (.inr (hc.trans rfl)))
theorem bne (a b:ByteArray) (h:a≠b):(a == b)=false:=by
 cases hq:a == b with
 | false=>rfl
 | true=>exact absurd (beq_B.1 hq) h
theorem nAB:kA≠kB:=by decide
theorem nAC:kA≠kC:=by decide
theorem nAD:kA≠kD:=by decide
theorem nBC:kB≠kC:=by decide
theorem nBD:kB≠kD:=by decide
theorem nCD:kC≠kD:=by decide
theorem F27_val (q:ByteArray) (J R:List Bool) (v:List Int) (t w mk:Int) (ms:Cs) (h : ∀c,mfind q ms=some c→Gc c) :
  F27 q J R v t w mk ms=some ((((mfind q ms).getD cd0),(mfind q ms).isSome,()),(((),J,R,v,t,w,mk,()),(ms,()),()),()):=by
 unfold F27; rw [F56k_val (a:=((mfind q ms).getD (0,(([]:List Int),(0,())))).2.1) (by
  cases hq:mfind q ms with
  | none=>show ([]:List Int).length<1000000; simp
  | some c=>have:=(h c hq).2.2; show c.2.1.length<1000000; omega)]
 rfl
theorem isE_app {α:Type} (q:List α) (x:α):(!(List.isEmpty (q ++ [x])))=true:=by cases q <;> rfl
theorem verL_succ {r:List DEv} {q:ByteArray} {n k:Nat} {e:DEv} (h:r[n+k]? = some e):verL r q n (k+1)=if keyE e=q then verL r q n k ++ [verE (cel q (r.take (n+k+1))) e] else verL r q n k:=by
 simp only [verL,h]
theorem T42_step (ls : List DEv) (k : Nat) (e : DEv) (hkl : k < ls.length) (he : ls.getD k dv0 = e) (hk9 : k ≤ 1000) (lv : List DEv) (b1 : List Bool) (b2 : List Bool) (b3 : List Int) (b4 b5 b6 : Int) (b7 : Cs) (J R : List Bool) (v v1 : List Int) (t w mk t1 w1 mk1 : Int) (ms ms1 : Cs)
  (hF:F23 e J R v t w mk ms=some ((0,()),(((),J,R,v1,t1,w1,mk1,()),(ms1,()),()),())) (c:Option DCe) (hc:F27 (keyE e) J R v1 t1 w1 mk1 ms1=some (((c.getD cd0),c.isSome,()),(((),J,R,v1,t1,w1,mk1,()),(ms1,()),()),()))
  (hf:EvF e) (qA qB qC qD:List DVn) (lA:qA.length≤k) (lB:qB.length≤k) (lC:qC.length≤k) (lD:qD.length≤k) :
  T42_13 ls ((ls.length:Nat):Int) (k:Nat) lv J R v t w mk b1 b2 b3 b4 b5 b6 ms b7 qA qB qC qD =
   some (.inl (((),(),ls,((ls.length:Nat):Int),((k+1:Nat):Int),()),(((),lv,(),()),((),J,R,v1,t1,w1,mk1,()),((),b1,b2,b3,b4,b5,b6,()),((),(),(),(),(),()),(ms1,()),(b7,()),()),
    (if keyE e=kA then qA ++ [verE c e] else qA,if keyE e=kB then qB ++ [verE c e] else qB,if keyE e=kC then qC ++ [verE c e] else qC,if keyE e=kD then qD ++ [verE c e] else qD,()))):=by
 have hkey:=key_of hf; have hk14:=hf.1; have hw:IntKind.wrap .i64 ((k:Int)+1)=((k+1:Nat):Int):=by rw [wz (by omega) (by omega)]; rfl
 have he':ls.getD k (0,(0,(0,(0,(ByteArray.empty,([],(0,(0,()))))))))=e:=he
 have c1:decide ((k:Int)<((ls.length:Nat):Int))=true:=decide_eq_true (by omega); have c2:decide (0≤(k:Int)∧(k:Int)<((ls.length:Nat):Int))=true:=decide_eq_true (by omega); unfold T42_13; simp only [c1,c2,cond_true,Int.toNat_natCast,he',dev_eta,hF,Option.bind_some]; have d1:decide (e.2.2.2.1<1)=false:=decide_eq_false (by omega); have d2:decide (e.2.2.2.1 > 4)=false:=decide_eq_false (by omega)
 have hcell':F27 e.2.2.2.2.1 J R v1 t1 w1 mk1 ms1=_:=hc
 have h52:F52 e=some (((pl e),()),(),()):=rfl; simp only [d1,d2,cond_false,hcell',Option.bind_some,h52]; have fA:(⟨#[97]⟩:ByteArray)=kA:=rfl; have fB:(⟨#[98]⟩:ByteArray)=kB:=rfl; have fC:(⟨#[99]⟩:ByteArray)=kC:=rfl; have fD:(⟨#[100]⟩:ByteArray)=kD:=rfl; have lm : ∀{m:Nat},m≤k→decide (m+1<lim)=true:=fun hm=>decide_eq_true (by rw [limE]; omega)
 have sA : ∀q:ByteArray,(q == q)=true:=fun q=>beq_B.2 rfl
 have hq':keyE e=e.2.2.2.2.1:=rfl
 rw [hq'] at hkey ⊢; generalize e.2.2.2.2.1=key at hkey ⊢; simp only [fA,fB,fC,fD]; rcases hkey with rfl | rfl | rfl | rfl
 ·rw [if_pos rfl,if_neg nAB,if_neg nAC,if_neg nAD]; simp only [sA,cond_true,cond_false,List.length_cons,List.length_nil,Nat.zero_add,lm lA,isE_app,hw]; rfl
 ·rw [if_neg nAB.symm,if_pos rfl,if_neg nBC,if_neg nBD]; simp only [sA,bne _ _ nAB.symm,cond_true,cond_false,List.length_cons,List.length_nil,Nat.zero_add,lm lB,isE_app,hw]; rfl
 ·rw [if_neg nAC.symm,if_neg nBC.symm,if_pos rfl,if_neg nCD]; simp only [sA,bne _ _ nAC.symm,bne _ _ nBC.symm,cond_true,cond_false,List.length_cons,List.length_nil,Nat.zero_add,lm lC,isE_app,hw]; rfl
 ·rw [if_neg nAD.symm,if_neg nBD.symm,if_neg nCD.symm,if_pos rfl]; simp only [sA,bne _ _ nAD.symm,bne _ _ nBD.symm,bne _ _ nCD.symm,cond_true,cond_false,List.length_cons,List.length_nil,Nat.zero_add,lm lD,isE_app,hw]; rfl
theorem L42b_run (r:List DEv) (hg:GdL r) (n:Nat) (hn:n≤r.length) (lv:List DEv) (b1:List Bool) (b2:List Bool) (b3:List Int) (b4 b5 b6:Int) (b7:Cs) (J R:List Bool) : ∀(d k:Nat) (v:List Int) (t w mk:Int) (ms:Cs),n+k+d=r.length→FOK (r.take (n+k)) v t w ms →
  ∃v' t' w' mk' ms',L42_13 (r.drop n) (((r.drop n).length:Nat):Int) (k:Nat) lv J R v t w mk b1 b2 b3 b4 b5 b6 ms b7 (verL r kA n k) (verL r kB n k) (verL r kC n k) (verL r kD n k)=some ((),(((),lv,(),()),((),J,R,v',t',w',mk',()),((),b1,b2,b3,b4,b5,b6,()),((),(),(),(),(),()),(ms',()),(b7,()),()),(verL r kA n (r.length - n),verL r kB n (r.length - n),verL r kC n (r.length - n),verL r kD n (r.length - n),())):=by
 intro d; induction d with
 | zero=>
  intro k v t w mk ms hk h; have hl:=hg.len; rw [L42_13_eq]; unfold T42_13; rw [decide_eq_false (by rw [List.length_drop]; omega),show r.length - n=k by omega]
  exact ⟨v,t,w,mk,ms,rfl⟩
 | succ d ih=>
  intro k v t w mk ms hk h; have hl:=hg.len; have hkl:k<(r.drop n).length:=by rw [List.length_drop]; omega
  have hi:r[n+k]? = some (r.drop n)[k]:=by rw [←List.getElem?_drop,List.getElem?_eq_getElem hkl]
  obtain ⟨v1,t1,w1,mk1,ms1,hF,h1⟩:=h.step hg hi J R mk; have hcell:=F27_val (keyE (r.drop n)[k]) J R v1 t1 w1 mk1 ms1 (fun c hc=>cel_good (hg.evf (n+k+1)) c (by rw [←h1.mf]; exact hc))
  rw [h1.mf] at hcell; have hst:=T42_step (r.drop n) k _ hkl (getD_get hkl _) (by rw [List.length_drop] at hkl; omega) lv b1 b2 b3 b4 b5 b6 b7 J R v v1 t w mk t1 w1 mk1 ms ms1 hF _ hcell (hg.ev _ (List.mem_of_getElem? hi)).g.f (verL r kA n k) (verL r kB n k) (verL r kC n k) (verL r kD n k) (verL_len ..) (verL_len ..) (verL_len ..) (verL_len ..)
  have ihk:=ih (k+1) v1 t1 w1 mk1 ms1 (by omega) h1; rw [verL_succ (q:=kA) hi,verL_succ (q:=kB) hi,verL_succ (q:=kC) hi,verL_succ (q:=kD) hi] at ihk; have fix : ∀(q:ByteArray),keyE (r.drop n)[k]=q→cel q (r.take (n+k+1))=cel (keyE (r.drop n)[k]) (r.take (n+k+1)):=fun q hq=>by rw [hq]
  have cA:(if keyE (r.drop n)[k]=kA then verL r kA n k ++ [verE (cel (keyE (r.drop n)[k]) (r.take (n+k+1))) (r.drop n)[k]] else verL r kA n k)=(if keyE (r.drop n)[k]=kA then verL r kA n k ++ [verE (cel kA (r.take (n+k+1))) (r.drop n)[k]] else verL r kA n k):=by split <;> first | (rename_i hq; rw [hq]) | rfl
  have cB:(if keyE (r.drop n)[k]=kB then verL r kB n k ++ [verE (cel (keyE (r.drop n)[k]) (r.take (n+k+1))) (r.drop n)[k]] else verL r kB n k)=(if keyE (r.drop n)[k]=kB then verL r kB n k ++ [verE (cel kB (r.take (n+k+1))) (r.drop n)[k]] else verL r kB n k):=by split <;> first | (rename_i hq; rw [hq]) | rfl
  have cC:(if keyE (r.drop n)[k]=kC then verL r kC n k ++ [verE (cel (keyE (r.drop n)[k]) (r.take (n+k+1))) (r.drop n)[k]] else verL r kC n k)=(if keyE (r.drop n)[k]=kC then verL r kC n k ++ [verE (cel kC (r.take (n+k+1))) (r.drop n)[k]] else verL r kC n k):=by split <;> first | (rename_i hq; rw [hq]) | rfl
  have cD:(if keyE (r.drop n)[k]=kD then verL r kD n k ++ [verE (cel (keyE (r.drop n)[k]) (r.take (n+k+1))) (r.drop n)[k]] else verL r kD n k)=(if keyE (r.drop n)[k]=kD then verL r kD n k ++ [verE (cel kD (r.take (n+k+1))) (r.drop n)[k]] else verL r kD n k):=by split <;> first | (rename_i hq; rw [hq]) | rfl
  rw [cA,cB,cC,cD] at hst; rw [L42_13_eq,hst]; exact ihk
theorem F42_eq (r:List DEv) (hg:GdL r) (n:Nat) (hn:n≤r.length) (v:List Int) (t w mk:Int) (ms:Cs) (h:FOK (r.take n) v t w ms) :
  F42 (r.drop n) J0 R0 v t w mk ms=some (((),()),(((),r.drop n,(),()),((),J0,R0,v,t,w,mk,()),(ms,()),((),(),(),()),((),J0,R0,v,t,w,mk,()),((),(),(),(),(),()),(ms,()),()),(verL r kA n (r.length - n),verL r kB n (r.length - n),verL r kC n (r.length - n),verL r kD n (r.length - n),())):=by
 have hl:=hg.len; have h1:=L42a_run (r.drop n) (by rw [List.length_drop]; omega) J0 R0 v t w mk ms [] [] [] [] (r.drop n).length 0 (by omega)
 obtain ⟨v',t',w',mk',ms',h2⟩:=L42b_run r hg n hn (r.drop n) J0 R0 v t w mk ms J0 R0 (r.length - n) 0 v t w mk ms (by omega) h; unfold F42; rw [F82_eq]; simp only [Option.bind_some]; rw [show L42_5 (((r.drop n).length:Nat):Int) 0 (r.drop n) J0 R0 v t w mk ms ([]:List DEv) ([]:List DVn) ([]:List DVn) ([]:List DVn) ([]:List DVn)=_ from h1]; simp only [Option.bind_some]; rw [F84_eq]
 simp only [Option.bind_some]; rw [F25_eq']; simp only [Option.bind_some]; rw [show L42_13 (r.drop n) (((r.drop n).length:Nat):Int) 0 (r.drop n) J0 R0 v t w mk J0 R0 v t w mk ms ms ([]:List DVn) ([]:List DVn) ([]:List DVn) ([]:List DVn)=_ from h2]; rfl
theorem F11_eq (r:List DEv) (hg:GdL r) (n:Nat) (hn:n≤r.length) : ∃v t w mk ms,FOK (r.take n) v t w ms ∧
  F11 r (n:Nat)=some (((),()),(((),(),(),()),((),J0,R0,v,t,w,mk,()),((),(),(),(),(),()),(ms,()),()),(verL r kA n (r.length - n),verL r kB n (r.length - n),verL r kC n (r.length - n),verL r kD n (r.length - n),())):=by
 obtain ⟨v,t,w,mk,ms,h1,h2⟩:=F45_eq r hg n hn; obtain ⟨v',t',w',mk',ms',h3⟩:=F44_eq r hg n hn v t w mk ms h2; refine ⟨v,t,w,mk,ms,h2, ?_⟩; unfold F11; rw [h1]; simp only [Option.bind_some]; rw [decide_eq_true (show 0≤(n:Int)∧(n:Int)≤((r.length:Nat):Int) by omega)]; simp only [cond_true,Int.toNat_natCast]; rw [h3]; simp only [Option.bind_some,show ((0:Int) != 0)=false from rfl,cond_false]
 rw [F42_eq r hg n hn v t w mk ms h2]; rfl
end Go.IM.V
namespace Go.IM.V
open Go Go.IM Go.Proofs
theorem shr1 {n:Int} (h:0≤n):iShr .u64 n 1=n / 2:=by
 unfold iShr; show n.fdiv (2 ^ 1)=_; rw [Int.fdiv_eq_ediv_of_nonneg _ (by omega)]; rfl
theorem dvn_eta (x:DVn):((x.1.1,(x.1.2.1,())),((x.2.1.1,(x.2.1.2.1,(x.2.1.2.2.1,()))),(x.2.2.1,())))=x:=rfl
theorem F48_eq (x:DVn) (s:Pl):F48 x s=some (((if kl s x.1=true then 1 else -1),()),(),()):=by
 unfold F48; have:F46 (x.1.1,(x.1.2.1,())) (s.1,(s.2.1,()))=some ((cmpI x.1 s,()),(),()):=F46_eq _ _
 rw [this]; simp only [Option.bind_some,cmp_le]; cases h:kl s x.1 <;> rfl
theorem L47_run (l : List DVn) (s : Pl) (c : Nat) (hl : l.length ≤ 1000000) (hc : ∀ (i : Nat) (h : i < l.length), (kl s l[i].1 = false ↔ i < c)) (hcl : c ≤ l.length) : ∀ (d i j : Nat), j ≤ i + d → i ≤ c → c ≤ j → j ≤ l.length →
  L47_3 l (l.length:Nat) (i:Nat) (j:Nat) s.1 s.2.1=some ((((c:Nat):Int),()),((s.1,s.2.1,()),()),()):=by
 intro d; induction d with
 | zero=>
  intro i j h1 h2 h3 h4; rw [L47_3_eq]; unfold T47_3; rw [decide_eq_false (by omega)]; simp only [cond_false,Option.bind_some,Sum.elim_inr]; rw [show i=c by omega]
 | succ d ih=>
  intro i j h1 h2 h3 h4; rw [L47_3_eq]; unfold T47_3; by_cases hij:i<j
  ·have hm:IntKind.wrap .i64 (iShr .u64 (IntKind.wrap .u64 (IntKind.wrap .i64 ((i:Int)+(j:Int)))) 1)=(((i+j) / 2:Nat):Int):=by
    rw [wz (n:=(i:Int)+j) (by omega) (by omega),wu64 (by omega) (by omega),shr1 (by omega),wz (by omega) (by omega)]; omega
   rw [hm]; have hlt:(i+j) / 2<l.length:=by omega
   have hge:l.getD ((i+j) / 2) dvn0=l[(i+j) / 2]:=getD_get hlt _; have h48:=F48_eq l[(i+j) / 2] s; rw [decide_eq_true (show (i:Int)<(j:Int) by omega),decide_eq_true (show 0≤(((i+j) / 2:Nat):Int)∧(((i+j) / 2:Nat):Int)<(l.length:Int) by omega)]; simp only [cond_true,Int.toNat_natCast]; have hge':l.getD ((i+j) / 2) (((0:Int),((0:Int),())),(((0:Int),([],((0:Nat),()))),(false,())))=l[(i+j) / 2]:=hge
   simp only [hge',dvn_eta]; have h48':F48 l[(i+j) / 2] (s.1,(s.2.1,()))=_:=h48
   rw [h48']; simp only [Option.bind_some]; have hcc:=hc ((i+j) / 2) hlt; cases hq:kl s l[(i+j) / 2].1 with
   | false=>
    rw [if_neg (by simp),show decide ((-1:Int)<0)=true from rfl]; simp only [cond_true,Option.bind_some,Sum.elim_inl]; rw [show IntKind.wrap .i64 ((((i+j) / 2:Nat):Int)+1)=(((i+j) / 2+1:Nat):Int) by rw [wz (by omega) (by omega)]; rfl]
    have:=hcc.1 hq
    exact ih _ _ (by omega) (by omega) h3 h4
   | true=>
    rw [if_pos rfl,show decide ((1:Int)<0)=false from rfl]; simp only [cond_false,Option.bind_some,Sum.elim_inl]; have : ¬(i+j) / 2<c:=fun h=>by rw [hcc.2 h] at hq; cases hq
    exact ih _ _ (by omega) h2 (by omega) (by omega)
  ·rw [decide_eq_false (by omega)]; simp only [cond_false,Option.bind_some,Sum.elim_inr]; rw [show i=c by omega]
theorem F47_eq (l:List DVn) (s:Pl) (c:Nat) (hl:l.length≤1000000) (hc : ∀(i:Nat) (h:i<l.length),(kl s l[i].1=false↔i<c)) (hcl:c≤l.length) : ∃b,F47 l s=some ((((c:Nat):Int),b,()),(),()):=by
 unfold F47; rw [show L47_3 l (l.length:Nat) 0 (l.length:Nat) s.1 s.2.1=_ from L47_run l s c hl hc hcl l.length 0 l.length (by omega) (Nat.zero_le _) hcl (Nat.le_refl _)]; simp only [Option.bind_some]; by_cases h:((c:Nat):Int)<(l.length:Int)
 ·rw [decide_eq_true h,decide_eq_true (show 0≤((c:Nat):Int)∧((c:Nat):Int)<(l.length:Int) by omega)]; simp only [cond_true,Int.toNat_natCast]; have hlt:c<l.length:=by omega
  have hge':l.getD c (((0:Int),((0:Int),())),(((0:Int),([],((0:Nat),()))),(false,())))=l[c]:=getD_get hlt _
  simp only [hge',dvn_eta]; have h48':F48 l[c] (s.1,(s.2.1,()))=_:=F48_eq l[c] s
  rw [h48']; exact ⟨_,rfl⟩
 ·rw [decide_eq_false h]; exact ⟨_,rfl⟩
theorem verL_cut (r : List DEv) (q : ByteArray) (n : Nat) (k' : Nat) : ∀ k, k' ≤ k → ∃ rest, verL r q n k = verL r q n k' ++ rest ∧ ∀ x ∈ rest, ∃ (i : Nat) (e : DEv), k' ≤ i ∧ i < k ∧ r[n + i]? = some e ∧ x.1 = pl e := by
 intro k; induction k with
 | zero=>
  intro h; obtain rfl:k'=0:=by omega
  exact ⟨[],by simp,fun x hx=>by cases hx⟩
 | succ k ih =>
  intro h; rcases Nat.lt_or_ge k k' with hk | hk
  ·obtain rfl:k'=k+1:=by omega
   exact ⟨[],by simp,fun x hx=>by cases hx⟩
  ·obtain ⟨rest,h1,h2⟩:=ih hk; have up : ∀x∈rest,∃(i:Nat) (e:DEv),k'≤i∧i<k+1∧r[n+i]? = some e∧x.1=pl e:=fun x hx=>by
    obtain ⟨i,e,a,b,c,d⟩:=h2 x hx; exact ⟨i,e,a,by omega,c,d⟩
   cases he:r[n+k]? with
   | none=>
    refine ⟨rest, ?_,up⟩; simp only [verL,he]; exact h1
   | some e=>
    rw [verL_succ he]; by_cases hq:keyE e=q
    ·rw [if_pos hq]; refine ⟨rest ++ [verE (cel q (r.take (n+k+1))) e],by rw [h1,List.append_assoc],fun x hx => ?_⟩; rcases List.mem_append.1 hx with hx | hx
     ·exact up x hx
     ·rw [List.mem_singleton] at hx; subst hx; exact ⟨k,e,hk,by omega,he,rfl⟩
    ·rw [if_neg hq]; exact ⟨rest,h1,up⟩
theorem verL_last (r : List DEv) (q : ByteArray) (n : Nat) : ∀ k, n + k ≤ r.length → match (verL r q n k).getLast? with
  | none=>cel q (r.take (n+k))=cel q (r.take n)
  | some x=>x.2=((cel q (r.take (n+k))).getD cd0,(!(cel q (r.take (n+k))).isSome,())):=by
 intro k; induction k with
 | zero=>intro _; rfl
 | succ k ih=>
  intro h; have hi:r[n+k]? = some r[n+k]:=List.getElem?_eq_getElem (by omega); rw [verL_succ hi]; by_cases hq:keyE r[n+k]=q
  ·rw [if_pos hq,List.getLast?_concat]; rfl
  ·rw [if_neg hq]; have:=ih (by omega)
   have hc:cel q (r.take (n+(k+1)))=cel q (r.take (n+k)):=by
    rw [show n+(k+1)=(n+k)+1 by omega,take_succ' hi,cel_app,if_neg hq]
   rw [hc]; exact this
def Upto (r:List DEv) (s:Pl) (m:Nat):Prop:=m≤r.length ∧ ∀(i:Nat) (e:DEv),r[i]? = some e→(kl s (pl e)=false↔i<m)
theorem verL_upto {r:List DEv} {s:Pl} {m n:Nat} (h:Upto r s m) (hn:n≤m) (q:ByteArray) :
  ∃rest,verL r q n (r.length - n)=verL r q n (m - n)++rest ∧ ∀(i:Nat) (hi:i<(verL r q n (r.length - n)).length),(kl s (verL r q n (r.length - n))[i].1=false↔i<(verL r q n (m - n)).length):=by
 obtain ⟨hm,hk⟩:=h; obtain ⟨rest,h1,h2⟩:=verL_cut r q n (m - n) (r.length - n) (by omega); obtain ⟨r0,h3,h4⟩:=verL_cut r q n 0 (m - n) (Nat.zero_le _); refine ⟨rest,h1,fun i hi => ?_⟩; have hget:(verL r q n (r.length - n))[i]? = some (verL r q n (r.length - n))[i]:=List.getElem?_eq_getElem hi; generalize (verL r q n (r.length - n))[i]=x at hget; rw [h1] at hget; rcases Nat.lt_or_ge i (verL r q n (m - n)).length with hl | hl
 ·rw [List.getElem?_append_left hl,h3] at hget; have hx:x∈r0:=by
   have:x∈verL r q n 0++r0:=List.mem_of_getElem? hget
   simpa [verL] using this
  obtain ⟨j,e,_,a,b,c⟩:=h4 x hx; rw [c,hk _ e b]; exact ⟨fun _=>hl,fun _=>by omega⟩
 ·rw [List.getElem?_append_right hl] at hget; obtain ⟨j,e,a,_,b,c⟩:=h2 x (List.mem_of_getElem? hget); rw [c,hk _ e b]; exact ⟨fun h=>by omega,fun h=>by omega⟩
theorem verL_other {r : List DEv} (hg : GdL r) {q : ByteArray} (h : q ≠ kA ∧ q ≠ kB ∧ q ≠ kC ∧ q ≠ kD) (n : Nat) : ∀ k, verL r q n k = [] := by
 intro k; induction k with
 | zero=>rfl
 | succ k ih=>
  simp only [verL]; split
  ·rename_i e he; have:=key_of (hg.ev _ (List.mem_of_getElem? he)).g.f
   rw [if_neg (fun hq=>by
    rw [hq] at this; rcases this with e | e | e | e
    ·exact h.1 e
    ·exact h.2.1 e
    ·exact h.2.2.1 e
    ·exact h.2.2.2 e)]
   exact ih
  ·exact ih
theorem pick_eq {r : List DEv} (hg : GdL r) (q : ByteArray) (n k : Nat) : (bif q == (⟨#[97]⟩ : ByteArray) then verL r kA n k else (bif q == (⟨#[98]⟩ : ByteArray) then verL r kB n k else (bif q == (⟨#[99]⟩ : ByteArray) then verL r kC n k else (bif q == (⟨#[100]⟩ : ByteArray) then verL r kD n k else [])))) = verL r q n k := by
 have fA:(⟨#[97]⟩:ByteArray)=kA:=rfl; have fB:(⟨#[98]⟩:ByteArray)=kB:=rfl; have fC:(⟨#[99]⟩:ByteArray)=kC:=rfl; have fD:(⟨#[100]⟩:ByteArray)=kD:=rfl; rw [fA,fB,fC,fD]; by_cases h1:q=kA
 ·rw [h1,beq_B.2 rfl]; rfl
 ·rw [bne _ _ h1,cond_false]; by_cases h2:q=kB
  ·rw [h2,beq_B.2 rfl]; rfl
  ·rw [bne _ _ h2,cond_false]; by_cases h3:q=kC
   ·rw [h3,beq_B.2 rfl]; rfl
   ·rw [bne _ _ h3,cond_false]; by_cases h4:q=kD
    ·rw [h4,beq_B.2 rfl]; rfl
    ·rw [bne _ _ h4,cond_false,verL_other hg ⟨h1,h2,h3,h4⟩]
abbrev bx16 (v:List Int) (t w mk:Int) (ms:Cs):(Unit × (Unit × (Unit × Unit))) × ((Unit × ((List Bool) × ((List Bool) × ((List Int) × (Int × (Int × (Int × Unit))))))) × ((Unit × (Unit × (Unit × (Unit × (Unit × Unit))))) × (((List (ByteArray × DCe)) × Unit) × Unit))):=(((),(),(),()),((),J0,R0,v,t,w,mk,()),((),(),(),(),(),()),(ms,()),())
theorem F16_old (q:ByteArray) (s:Pl) (v:List Int) (t w mk:Int) (ms:Cs) (qA qB qC qD:List DVn) (h:kl s (t,(w,()))=true) :
  F16 q s J0 R0 v t w mk ms qA qB qC qD=some ((cd0,false,13,()),bx16 v t w mk ms,(qA,qB,qC,qD,())):=by
 unfold F16 F35; simp only [Option.bind_some]; have:F46 (s.1,(s.2.1,())) (t,(w,()))=some ((cmpI s (t,(w,())),()),(),()):=F46_eq _ _
 rw [this]; simp only [Option.bind_some,cmp_lt,h,cond_true]
theorem F16_new {r:List DEv} (hg:GdL r) {n m:Nat} (hnm:n≤m) {s:Pl} (hu:Upto r s m) (q:ByteArray) (v:List Int) (t w mk:Int) (ms:Cs) (hf:FOK (r.take n) v t w ms) (h:kl s (t,(w,()))=false) :
  F16 q s J0 R0 v t w mk ms (verL r kA n (r.length - n)) (verL r kB n (r.length - n)) (verL r kC n (r.length - n)) (verL r kD n (r.length - n)) =
   some (((cel q (r.take m)).getD cd0,(cel q (r.take m)).isSome,0,()),bx16 v t w mk ms,(verL r kA n (r.length - n),verL r kB n (r.length - n),verL r kC n (r.length - n),verL r kD n (r.length - n),())):=by
 have hl:=hg.len; obtain ⟨rest,h1,h2⟩:=verL_upto hu hnm q; have hvl:=verL_len r q n (r.length - n); have hcl:(verL r q n (m - n)).length≤(verL r q n (r.length - n)).length:=by rw [h1,List.length_append]; omega
 obtain ⟨b,hb⟩:=F47_eq (verL r q n (r.length - n)) s (verL r q n (m - n)).length (by omega) h2 hcl; have hlast:=verL_last r q n (m - n) (by have:=hu.1; omega)
 rw [show n+(m - n)=m by omega] at hlast; unfold F16 F35; simp only [Option.bind_some]; have h46:F46 (s.1,(s.2.1,())) (t,(w,()))=some ((cmpI s (t,(w,())),()),(),()):=F46_eq _ _; rw [h46]; simp only [Option.bind_some,cmp_lt,h,cond_false,pick_eq hg]; have hb':F47 (verL r q n (r.length - n)) (s.1,(s.2.1,()))=_:=hb
 rw [hb']; simp only [Option.bind_some]; cases hq:(verL r q n (m - n)).getLast? with
 | none=>
  rw [hq] at hlast; have h0:verL r q n (m - n) = []:=List.getLast?_eq_none_iff.1 hq; rw [h0]; simp only [List.length_nil,show ((((0:Nat):Int)) == 0)=true from rfl,cond_true]; rw [F27_val q J0 R0 v t w mk ms (fun c hc=>cel_good (hg.evf n) c (by rw [←hf.mf]; exact hc)),hf.mf]
  simp only [Option.bind_some]; rw [hlast]
 | some x=>
  rw [hq] at hlast; have hne:verL r q n (m - n) ≠ []:=fun e=>by rw [e] at hq; cases hq
  have hpos:=List.length_pos_iff.2 hne; have hx:(verL r q n (m - n))[(verL r q n (m - n)).length - 1]? = some x:=by rw [←List.getLast?_eq_getElem?]; exact hq
  have hx2:(verL r q n (r.length - n))[(verL r q n (m - n)).length - 1]? = some x:=by rw [h1,List.getElem?_append_left (by omega)]; exact hx
  have hw:IntKind.wrap .i64 ((((verL r q n (m - n)).length:Nat):Int) - 1)=(((verL r q n (m - n)).length - 1:Nat):Int):=by rw [wz (by omega) (by omega)]; omega
  have hz:((((verL r q n (m - n)).length:Nat):Int) == 0)=false:=by simp; omega
  rw [hz,hw]; have hget:(verL r q n (r.length - n)).getD ((verL r q n (m - n)).length - 1) (((0:Int),((0:Int),())),(((0:Int),([],((0:Nat),()))),(false,())))=x:=by rw [List.getD_eq_getElem?_getD,hx2]; rfl
  have hd:decide (0≤(((verL r q n (m - n)).length - 1:Nat):Int)∧(((verL r q n (m - n)).length - 1:Nat):Int)<(((verL r q n (r.length - n)).length:Nat):Int))=true:=decide_eq_true (by omega); simp only [cond_false,cond_true,hd,Int.toNat_natCast,hget]; have e1:x.2.1=(cel q (r.take m)).getD cd0:=by rw [hlast]
  have e2:x.2.2.1 = !(cel q (r.take m)).isSome:=by rw [hlast]
  rw [e2,Bool.not_not]; show some (((x.2.1,_,0,()),_,_))=_; rw [e1]
end Go.IM.V
namespace Go.IM.V
open Go Go.IM Go.Proofs
theorem filter_all {q:List DEv} {w:Int} (h : ∀e∈q,e.1=w):q.filter (fun e=>e.1 == w)=q:=List.filter_eq_self.2 fun e he=>by simp [h e he]
theorem filter_none {q:List DEv} {w w':Int} (h : ∀e∈q,e.1=w) (hn:w≠w'):q.filter (fun e=>e.1 == w') = []:=List.filter_eq_nil_iff.2 fun e he=>by simp [h e he,hn]
theorem FdOK.whoE {w:Int} {q:List Ev} {t:Int} (h:FdOK w 60 q t) : ∀e∈q,e.1=w∧1≤e.2.1∧1≤e.2.2.1:=by
 intro e he; obtain ⟨i,hi,rfl⟩:=List.getElem_of_mem he; obtain ⟨h1,h2,h3,h4,h5⟩:=h.who i _ (List.getElem?_eq_getElem hi); exact ⟨h1,by omega,h3⟩
theorem Er_anti {a b:DEv} (h:Er a b) (h2:Er b a):False:=by
 have:=kl_asym h
 unfold Er at h2; rw [h2] at this; cases this
theorem seq_of {r q:List DEv} {w t:Int} (hw:r.filter (fun e=>e.1 == w)=q) (f:FdOK w 60 q t) {i:Nat} {e:DEv} (hi:r[i]? = some e) (he:e.1=w):e.2.1=(cntW (r.take i) w:Int)+1:=by
 have hl:=lt_get? hi; have hr:r=r.take i++e::r.drop (i+1):=by
  rw [List.getElem?_eq_getElem hl] at hi; cases hi; rw [←List.drop_eq_getElem_cons hl,List.take_append_drop]
 have hq:q[cntW (r.take i) w]? = some e:=by
  rw [←hw]
  conv=>lhs; arg 1; rw [hr]
  rw [List.filter_append,List.filter_cons_of_pos (by simp [he])]; unfold cntW; rw [List.getElem?_append_right (Nat.le_refl _),Nat.sub_self]; rfl
 exact (f.who _ e hq).2.1
theorem whole_gd {q0 q1 q2:List DEv} {t0 t1 t2:Int} (f0:FdOK 0 60 q0 t0) (f1:FdOK 1 60 q1 t1) (f2:FdOK 2 60 q2 t2) : ∃r,F9 [q0,q1,q2]=some ((r,()),(),())∧GdL r:=by
 have hF:FdL 0 [q0,q1,q2]:=⟨⟨_,f0⟩,⟨_,f1⟩,⟨_,f2⟩,trivial⟩; obtain ⟨r,h1,h2,h3,h4,h5⟩:=F9_fds (hF.fds (by simp)); have w0:=f0.whoE; have w1:=f1.whoE; have w2:=f2.whoE; have hp:(q0++(q1++q2)).Perm r:=by simpa using h3
 have hmem : ∀e∈r,(e.1=0∨e.1=1∨e.1=2)∧1≤e.2.1∧1≤e.2.2.1:=fun e he=>by
  have:=hp.mem_iff.2 he
  simp only [List.mem_append] at this; rcases this with h | h | h
  ·have:=w0 e h; exact ⟨.inl this.1,this.2⟩
  ·have:=w1 e h; exact ⟨.inr (.inl this.1),this.2⟩
  ·have:=w2 e h; exact ⟨.inr (.inr this.1),this.2⟩
 have hfil : ∀{w:Int} {q:List DEv},(q0++(q1++q2)).filter (fun e=>e.1 == w)=q→q.Pairwise Er→r.filter (fun e=>e.1 == w)=q:=fun {w q} hq hs=>
  List.Perm.eq_of_pairwise (le:=Er) (fun a b _ _ x y=>(Er_anti x y).elim) (h2.sublist List.filter_sublist) hs (by rw [←hq]; exact (hp.symm).filter _)
 refine ⟨r,h1,⟨fun e he=>⟨h4 e he,by have:=(hmem e he).1; omega,(hmem e he).2.1,(hmem e he).2.2⟩,h2,fun i e hi => ?_,h5⟩⟩
 have m0 : ∀e∈q0,e.1=0:=fun e he=>(w0 e he).1
 have m1 : ∀e∈q1,e.1=1:=fun e he=>(w1 e he).1
 have m2 : ∀e∈q2,e.1=2:=fun e he=>(w2 e he).1
 rcases (hmem e (List.mem_of_getElem? hi)).1 with he | he | he
 ·rw [he]; exact seq_of (hfil (by rw [List.filter_append,List.filter_append,filter_all m0,filter_none m1 (by omega),filter_none m2 (by omega)]; simp) f0.srt) f0 hi he
 ·rw [he]; exact seq_of (hfil (by rw [List.filter_append,List.filter_append,filter_none m0 (by omega),filter_all m1,filter_none m2 (by omega)]; simp) f1.srt) f1 hi he
 ·rw [he]; exact seq_of (hfil (by rw [List.filter_append,List.filter_append,filter_none m0 (by omega),filter_none m1 (by omega),filter_all m2]; simp) f2.srt) f2 hi he
theorem evs_of (a0:List Int) (ha:U16s a0) : ∃qs r,F10t a0=some ((qs,()),(),())∧F9 qs=some ((r,()),(),())∧GdL r:=by
 obtain ⟨b,q0,q1,q2,e,f0,f1,f2⟩:=F10t_feeds a0 ha; obtain ⟨r,h1,h2⟩:=whole_gd f0 f1 f2; exact ⟨_,r,e,h1,h2⟩
theorem mod_nat {a:Int} {L:Nat} (h0:0≤a) (h1:a<256) (hL:L≤1000) : ∃n:Nat,n≤L∧((IntKind.wrap .i64 a):Int).tmod (IntKind.wrap .i64 (((L:Nat):Int)+1))=(n:Int):=by
 rw [wz (by omega) (by omega),wz (by omega) (by omega),Int.tmod_eq_emod_of_nonneg h0]; have e1:=Int.emod_nonneg a (show (L:Int)+1≠0 by omega); have e2:=Int.emod_lt_of_pos a (show (0:Int)<(L:Int)+1 by omega); exact ⟨(a % ((L:Int)+1)).toNat,by omega,by omega⟩
theorem mod_nat' {a:Int} {L:Nat} (h0:0≤a) (h1:a<256) (hL:L≤1000) (hp:0<L) : ∃n:Nat,n<L∧((IntKind.wrap .i64 a):Int).tmod ((L:Nat):Int)=(n:Int):=by
 rw [wz (by omega) (by omega),Int.tmod_eq_emod_of_nonneg h0]; have e1:=Int.emod_nonneg a (show (L:Int)≠0 by omega); have e2:=Int.emod_lt_of_pos a (show (0:Int)<(L:Int) by omega); exact ⟨(a % (L:Int)).toNat,by omega,by omega⟩
theorem kl_irr (a:Pl):kl a a=false:=by rw [kl_not]; omega
theorem upto_at {r:List DEv} (hg:GdL r) {i:Nat} (hi:i<r.length):Upto r (pl r[i]) (i+1):=by
 refine ⟨hi,fun j e hj => ?_⟩; have hjl:=lt_get? hj; rw [List.getElem?_eq_getElem hjl] at hj; cases hj; rcases Nat.lt_trichotomy i j with h | h | h
 ·have:=List.pairwise_iff_getElem.1 hg.er i j hi hjl h
  unfold Er at this; rw [this]; exact ⟨fun q=>(by cases q),fun q=>(by omega)⟩
 ·subst h; rw [kl_irr]; exact ⟨fun _=>by omega,fun _=>rfl⟩
 ·have:=List.pairwise_iff_getElem.1 hg.er j i hjl hi h
  rw [kl_asym this]; exact ⟨fun _=>by omega,fun _=>rfl⟩
theorem last_at {r : List DEv} (hg : GdL r) {i n : Nat} (hi : i < r.length) (hn : n ≤ r.length) : kl (pl r[i]) (lastP (r.take n)) = true ↔ i + 1 < n := by
 rcases Nat.eq_zero_or_pos n with h0 | h0
 ·subst h0; have he:=(hg.ev _ (List.getElem_mem hi)).t; have hh:kl (pl r[i]) (lastP (r.take 0))=false:=by
   rw [kl_not]; left; show (0:Int)<r[i].2.2.1; omega
  rw [hh]; exact ⟨fun q=>(by cases q),fun q=>(by omega)⟩
 ·obtain ⟨j,rfl⟩ : ∃j,n=j+1:=⟨n - 1,by omega⟩; have hj:r[j]? = some r[j]:=List.getElem?_eq_getElem (by omega); rw [take_succ' hj,lastP_app]; have:=(upto_at hg hi).2 j _ hj
  cases hk:kl (pl r[i]) (pl r[j]) with
  | true=>exact ⟨fun _=>by
    rcases Nat.lt_or_ge j (i+1) with q | q
    ·rw [this.2 q] at hk; cases hk
    ·omega,fun _=>rfl⟩
  | false=>exact ⟨fun q=>by (cases q),fun q=>by have:=this.1 hk; omega⟩
theorem F16_at {r:List DEv} (hg:GdL r) {n i:Nat} (hn:n≤r.length) (hi:i<r.length) (q:ByteArray) (v:List Int) (t w mk:Int) (ms:Cs) (hf:FOK (r.take n) v t w ms) :
  ∃c b e,F16 q (pl r[i]) J0 R0 v t w mk ms (verL r kA n (r.length - n)) (verL r kB n (r.length - n)) (verL r kC n (r.length - n)) (verL r kD n (r.length - n)) =
   some ((c,b,e,()),bx16 v t w mk ms,(verL r kA n (r.length - n),verL r kB n (r.length - n),verL r kC n (r.length - n),verL r kD n (r.length - n),())) ∧
   ((i+1<n∧c=cd0∧b=false∧e=13)∨(n≤i+1∧c=(cel q (r.take (i+1))).getD cd0∧b=(cel q (r.take (i+1))).isSome∧e=0)):=by
 have hl:=last_at hg hi hn; rw [←hf.sp] at hl; cases hk:kl (pl r[i]) (t,(w,())) with
 | true=>
  exact ⟨_,_,_,F16_old q _ v t w mk ms _ _ _ _ hk,.inl ⟨hl.1 hk,rfl,rfl,rfl⟩⟩
 | false=>
  have:n≤i+1:=by
   rcases Nat.lt_or_ge (i+1) n with h | h
   ·rw [hl.2 h] at hk; cases hk
   ·exact h
  exact ⟨_,_,_,F16_new hg this (upto_at hg hi) q v t w mk ms hf hk,.inr ⟨this,rfl,rfl,rfl⟩⟩
theorem F18_self (c:DCe) (h:Gf c.2.2.1):F18 c c=some ((true,()),(),()):=by
 unfold F18 F50; simp only [beq_self_eq_true,cond_true,Option.bind_some]; rw [F38_self h]; rfl
theorem L4_run {r : List DEv} (hg : GdL r) {n n' i : Nat} (hn : n ≤ r.length) (hn' : n' ≤ r.length) (hi : i < r.length) (v : List Int) (t w mk : Int) (ms : Cs) (hf : FOK (r.take n) v t w ms) (v' : List Int) (t' w' mk' : Int) (ms' : Cs) (hf' : FOK (r.take n') v' t' w' ms') : ∀ (d k : Nat), k + d = 6 →
  ∃x,L4_10 (k:Nat) (pl r[i]).1 (pl r[i]).2.1 J0 R0 v t w mk J0 R0 v' t' w' mk' ms ms' (verL r kA n (r.length - n)) (verL r kB n (r.length - n)) (verL r kC n (r.length - n)) (verL r kD n (r.length - n)) (verL r kA n' (r.length - n')) (verL r kB n' (r.length - n')) (verL r kC n' (r.length - n')) (verL r kD n' (r.length - n'))=some (.inr x):=by
 intro d; induction d with
 | zero=>
  intro k hk; rw [L4_10_eq]; unfold T4_10; rw [decide_eq_false (by omega)]; exact ⟨_,rfl⟩
 | succ d ih =>
  intro k hk; rw [L4_10_eq]; unfold T4_10; rw [decide_eq_true (show (k:Int)<6 by omega)]; have hw:IntKind.wrap .i64 ((k:Int)+1)=((k+1:Nat):Int):=by rw [wz (by omega) (by omega)]; rfl
  generalize strL [(IntKind.wrap .u8 (97+(IntKind.wrap .u8 (k:Int))))]=q; obtain ⟨c,b,e,h1,h2⟩:=F16_at hg hn hi q v t w mk ms hf; obtain ⟨c',b',e',h1',h2'⟩:=F16_at hg hn' hi q v' t' w' mk' ms' hf'; have k1:F16 q ((pl r[i]).1,((pl r[i]).2.1,())) J0 R0 v t w mk ms (verL r kA n (r.length - n)) (verL r kB n (r.length - n)) (verL r kC n (r.length - n)) (verL r kD n (r.length - n))=_:=h1
  have k2:F16 q ((pl r[i]).1,((pl r[i]).2.1,())) J0 R0 v' t' w' mk' ms' (verL r kA n' (r.length - n')) (verL r kB n' (r.length - n')) (verL r kC n' (r.length - n')) (verL r kD n' (r.length - n'))=_:=h1'; rw [k1,k2]; obtain ⟨x,hx⟩:=ih (k+1) (by omega); refine ⟨x, ?_⟩; rcases h2 with ⟨_,rfl,rfl,rfl⟩|⟨_,rfl,rfl,rfl⟩
  ·simp only [cond_true,Option.bind_some,show ((13:Int) == 0)=false from rfl,cond_false,Sum.elim_inl,hw]; exact hx
  ·rcases h2' with ⟨_,rfl,rfl,rfl⟩|⟨_,rfl,rfl,rfl⟩
   ·simp only [cond_true,Option.bind_some,show ((0:Int) == 0)=true from rfl,show ((13:Int) == 0)=false from rfl,cond_false,Sum.elim_inl,hw]; exact hx
   ·have hgd:=cel_good (q:=q) (hg.evf (i+1)); cases hc:cel q (r.take (i+1)) with
    | none=>
     simp only [cond_true,Option.bind_some,show ((0:Int) == 0)=true from rfl,Option.isSome_none,beq_self_eq_true,Bool.not_true,cond_false,Sum.elim_inl,hw]; exact hx
    | some c=>
     have hs:F18 (((some c).getD cd0).1,(((some c).getD cd0).2.1,(((some c).getD cd0).2.2.1,()))) (((some c).getD cd0).1,(((some c).getD cd0).2.1,(((some c).getD cd0).2.2.1,())))=_:=F18_self c (hgd c hc).2.1; simp only [cond_true,Option.bind_some,show ((0:Int) == 0)=true from rfl,Option.isSome_some,beq_self_eq_true,Bool.not_true,cond_false]; rw [hs]; simp only [Option.bind_some,Bool.not_true,cond_false,Sum.elim_inl,hw]
     exact hx
theorem historyConverges_pure (a0:List Int) (ha:U16s a0) (a b at':Int) (h0:0≤a) (h1:a<256) (h2:0≤b) (h3:b<256) (h4:0≤at') (h5:at'<256):F4 a0 a b at'=some (r1 true):=by
 unfold F4; rw [F8_eq]; simp only [Option.bind_some,Bool.not_true,cond_false]; rw [cif]; split
 ·rfl
 obtain ⟨qs,r,e1,e2,hg⟩:=evs_of a0 ha; rw [e1]; simp only [Option.bind_some]; rw [e2]; simp only [Option.bind_some]; have hl:=hg.len; rcases Nat.eq_zero_or_pos r.length with hz | hp
 ·rw [hz]; rfl
 have hz:(((r.length:Nat):Int) == 0)=false:=by
  cases hq:(((r.length:Nat):Int) == 0) with
  | false=>rfl
  | true=>have:=beq_iff_eq.1 hq; omega
 rw [hz]; simp only [cond_false]; obtain ⟨n,hn,en⟩:=mod_nat h0 h1 hl; obtain ⟨n',hn',en'⟩:=mod_nat h2 h3 hl; obtain ⟨i,hi,ei⟩:=mod_nat' h4 h5 hl hp; rw [en,en',ei]; have c1:decide ((IntKind.wrap .i64 (((r.length:Nat):Int)+1))≠0)=true:=decide_eq_true (by rw [wz (by omega) (by omega)]; omega)
 have c2:decide (((r.length:Nat):Int)≠0)=true:=decide_eq_true (by omega); have c3:decide (0≤(i:Int)∧(i:Int)<((r.length:Nat):Int))=true:=decide_eq_true (by omega); obtain ⟨v,t,w,mk,ms,f1,g1⟩:=F11_eq r hg n hn; obtain ⟨v',t',w',mk',ms',f2,g2⟩:=F11_eq r hg n' hn'; rw [c1]; simp only [cond_true]; rw [g1]; simp only [Option.bind_some]; rw [g2]; simp only [Option.bind_some,c2,c3,cond_true,dev_eta,Int.toNat_natCast]
 have hge:r.getD i (0,(0,(0,(0,(ByteArray.empty,([],(0,(0,()))))))))=r[i]:=getD_get hi _; simp only [hge]; have h12:F12 r[i]=some (((pl r[i]),()),(),()):=rfl; rw [h12]; simp only [Option.bind_some]; obtain ⟨x,hx⟩:=L4_run hg hn hn' hi v t w mk ms f1 v' t' w' mk' ms' f2 6 0 rfl; rw [show L4_10 0 (pl r[i]).1 (pl r[i]).2.1 J0 R0 v t w mk J0 R0 v' t' w' mk' ms ms' (verL r kA n (r.length - n)) (verL r kB n (r.length - n)) (verL r kC n (r.length - n)) (verL r kD n (r.length - n)) (verL r kA n' (r.length - n')) (verL r kB n' (r.length - n')) (verL r kC n' (r.length - n')) (verL r kD n' (r.length - n'))=_ from hx]
 rfl
end Go.IM.V