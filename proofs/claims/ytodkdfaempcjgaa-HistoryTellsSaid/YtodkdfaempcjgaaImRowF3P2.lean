/- What the code of a law comes to, and what that tells: part 2. Lemmas alone; no conditions. -/
import Derived.Test.YtodkdfaempcjgaaImRowF3P1
set_option linter.unusedVariables false
set_option linter.constructorNameAsVariable false
namespace Go.IM.V
noncomputable section
open Go Go.IM Go.Proofs
def F25 (b0_1:(List Bool)) (b0_2:(List Bool)) (b0_3:(List Int)) (b0_4:Int) (b0_5:Int) (b0_6:Int) (b1_0:(List (ByteArray × DCe))):Option ((Unit × Unit) × (ZFt × (ZKt × (ZFt × (ZKt × Unit)))) × Unit):=
 ((F65 b1_0).bind fun y0=>(some (((),()),(((),b0_1,b0_2,b0_3,b0_4,b0_5,b0_6,()),y0.2.1.1,((),(cpN 64 false (b0_1)),(cpN 64 false (b0_2)),b0_3,b0_4,b0_5,b0_6,()),y0.2.1.2.1,()),())))
def c25:Con:=⟨{ sl := [(0,.p 0 0)],bx := [[.mv 1,.sg 64 .b,.sg 64 .b,.v (.l (.i .u64)),.v (.i .u64),.v (.i .i64),.v (.i .u64)], [.ms Xe]] },(.ret { sl := [(0,.p 2 0)],bx := [[.mv 1,.sg 64 .b,.sg 64 .b,.v (.l (.i .u64)),.v (.i .u64),.v (.i .i64),.v (.i .u64)], [.ms Xe], [.mv 3,.sg 64 .b,.sg 64 .b,.v (.l (.i .u64)),.v (.i .u64),.v (.i .i64),.v (.i .u64)], [.ms Xe]] }),fun x=>F25 x.2.1.1.2.1 x.2.1.1.2.2.1 x.2.1.1.2.2.2.1 x.2.1.1.2.2.2.2.1 x.2.1.1.2.2.2.2.2.1 x.2.1.1.2.2.2.2.2.2.1 x.2.1.2.1.1⟩
theorem JpT:Con.OK Try.prog 25 c25:=fnX [(65,c65),(900003,Jf5)] ⟨c65_ok,Q3,trivial⟩ Try.func25
def Jqg (a0:(List DEv)) (a1:Int) (a6:Int) (b0_1:(List Bool)) (b0_2:(List Bool)) (b0_3:(List Int)) (b0_4:Int) (b0_5:Int) (b0_6:Int) (b1_0:(List (ByteArray × DCe))):Option ((((List DEv) × (Int × (Unit × (Int × Unit)))) × (ZFt × (ZKt × Unit)) × Unit) ⊕ (Unit × (ZFt × (ZKt × Unit)) × Unit)):=
 (bif (decide ((a6:Int)<a1)) then (bif (decide (0≤(a6:Int)∧(a6:Int)<(((a0).length:Nat):Int))) then ((F23 ((a0).getD (a6:Int).toNat zE) b0_1 b0_2 b0_3 b0_4 b0_5 b0_6 b1_0).bind fun y0=>(some (.inl ((a0,a1,(),(IntKind.wrap .i64 (a6+1)),()),y0.2.1,())))) else none) else (some (.inr ((),(((),b0_1,b0_2,b0_3,b0_4,b0_5,b0_6,()),(b1_0,()),()),()))))
def JnU (a0:(List DEv)) (a1:Int) (a6:Int) (b0_1:(List Bool)) (b0_2:(List Bool)) (b0_3:(List Int)) (b0_4:Int) (b0_5:Int) (b0_6:Int) (b1_0:(List (ByteArray × DCe))):Option (Unit × (ZFt × (ZKt × Unit)) × Unit):=Q4 (fun x:(((List DEv) × (Int × (Unit × (Int × Unit)))) × (ZFt × (ZKt × Unit)) × Unit)=>Jqg x.1.1 x.1.2.1 x.1.2.2.2.1 x.2.1.1.2.1 x.2.1.1.2.2.1 x.2.1.1.2.2.2.1 x.2.1.1.2.2.2.2.1 x.2.1.1.2.2.2.2.2.1 x.2.1.1.2.2.2.2.2.2.1 x.2.1.2.1.1) ((a0,a1,(),a6,()),(((),b0_1,b0_2,b0_3,b0_4,b0_5,b0_6,()),(b1_0,()),()),())
theorem Jmm (a0:(List DEv)) (a1:Int) (a6:Int) (b0_1:(List Bool)) (b0_2:(List Bool)) (b0_3:(List Int)) (b0_4:Int) (b0_5:Int) (b0_6:Int) (b1_0:(List (ByteArray × DCe))):JnU a0 a1 a6 b0_1 b0_2 b0_3 b0_4 b0_5 b0_6 b1_0=(Jqg a0 a1 a6 b0_1 b0_2 b0_3 b0_4 b0_5 b0_6 b1_0).bind (Sum.elim (fun x=>JnU x.1.1 x.1.2.1 x.1.2.2.2.1 x.2.1.1.2.1 x.2.1.1.2.2.1 x.2.1.1.2.2.2.1 x.2.1.1.2.2.2.2.1 x.2.1.1.2.2.2.2.2.1 x.2.1.1.2.2.2.2.2.2.1 x.2.1.2.1.1) some):=Qg _ _
def k45_3:Con:=⟨{ sl := [(0,.v (.l Qi)),(1,.v (.i .i64)),(5,.p 0 0),(6,.v (.i .i64))],bx := [[.mv 1,.sg 64 .b,.sg 64 .b,.v (.l (.i .u64)),.v (.i .u64),.v (.i .i64),.v (.i .u64)], [.ms Xe]] },(.exit 0 { sl := [],bx := [[.mv 1,.sg 64 .b,.sg 64 .b,.v (.l (.i .u64)),.v (.i .u64),.v (.i .i64),.v (.i .u64)], [.ms Xe]] }),fun x=>JnU x.1.1 x.1.2.1 x.1.2.2.2.1 x.2.1.1.2.1 x.2.1.1.2.2.1 x.2.1.1.2.2.2.1 x.2.1.1.2.2.2.2.1 x.2.1.1.2.2.2.2.2.1 x.2.1.1.2.2.2.2.2.2.1 x.2.1.2.1.1⟩
theorem JrC:Con.LOK Try.prog Try.f45.ntmps (Jbv Try.f45 3) k45_3:=lpX [(23,c23)] [] [] (fun x=>Jqg x.1.1 x.1.2.1 x.1.2.2.2.1 x.2.1.1.2.1 x.2.1.1.2.2.1 x.2.1.1.2.2.2.1 x.2.1.1.2.2.2.2.1 x.2.1.1.2.2.2.2.2.1 x.2.1.1.2.2.2.2.2.2.1 x.2.1.2.1.1) ⟨JgA,trivial⟩ trivial
def F45 (a0:(List DEv)) (a1:Int):Option ((Unit × Unit) × (ZFt × (ZKt × Unit)) × Unit):=
 ((F20).bind fun y0=>((JnU a0 a1 0 y0.2.1.1.2.1 y0.2.1.1.2.2.1 y0.2.1.1.2.2.2.1 y0.2.1.1.2.2.2.2.1 y0.2.1.1.2.2.2.2.2.1 y0.2.1.1.2.2.2.2.2.2.1 y0.2.1.2.1.1).bind fun y1=>(some (((),()),y1.2.1,()))))
def c45:Con:=⟨{ sl := [(0,.v (.l Qi)),(1,.v (.i .i64))] },(.ret { sl := [(0,.p 0 0)],bx := [[.mv 1,.sg 64 .b,.sg 64 .b,.v (.l (.i .u64)),.v (.i .u64),.v (.i .i64),.v (.i .u64)], [.ms Xe]] }),fun x=>F45 x.1.1 x.1.2.1⟩
theorem c45_ok:Con.OK Try.prog 45 c45:=fnL [(20,c20),(23,c23)] [(3,k45_3)] [3] ⟨c20_ok,JgA,trivial⟩ ⟨JrC,trivial⟩ Try.func45
def Jqh (a22:(List DEv)) (a23:Int) (a24:Int) (b0_1:(List DEv)) (b1_1:(List Bool)) (b1_2:(List Bool)) (b1_3:(List Int)) (b1_4:Int) (b1_5:Int) (b1_6:Int) (b2_1:(List Bool)) (b2_2:(List Bool)) (b2_3:(List Int)) (b2_4:Int) (b2_5:Int) (b2_6:Int) (b3_0:(List (ByteArray × DCe))) (b4_0:(List (ByteArray × DCe))):Option (((Unit × ((List DEv) × (Int × (Int × Unit)))) × ((Unit × ((List DEv) × (Unit × Unit))) × (ZFt × (ZFt × (ZKt × (ZKt × Unit))))) × Unit) ⊕ (((Unit × (Int × Unit)) × ((Unit × ((List DEv) × (Unit × Unit))) × (ZFt × (ZFt × (ZKt × (ZKt × Unit))))) × Unit) ⊕ (Unit × ((Unit × ((List DEv) × (Unit × Unit))) × (ZFt × (ZFt × (ZKt × (ZKt × Unit))))) × Unit))):=
 (bif (decide ((a24:Int)<a23)) then (bif (decide (0≤(a24:Int)∧(a24:Int)<(((a22).length:Nat):Int))) then ((F23 ((a22).getD (a24:Int).toNat zE) b2_1 b2_2 b2_3 b2_4 b2_5 b2_6 b4_0).bind fun y0=>(bif ((y0.1.1:Int) != 0) then (some (.inr (.inl (((),y0.1.1,()),(((),b0_1,(),()),((),b1_1,b1_2,b1_3,b1_4,b1_5,b1_6,()),y0.2.1.1,(b3_0,()),y0.2.1.2.1,()),())))) else (some (.inl (((),a22,a23,(IntKind.wrap .i64 (a24+1)),()),(((),b0_1,(),()),((),b1_1,b1_2,b1_3,b1_4,b1_5,b1_6,()),y0.2.1.1,(b3_0,()),y0.2.1.2.1,()),()))))) else none) else (some (.inr (.inr ((),(((),b0_1,(),()),((),b1_1,b1_2,b1_3,b1_4,b1_5,b1_6,()),((),b2_1,b2_2,b2_3,b2_4,b2_5,b2_6,()),(b3_0,()),(b4_0,()),()),())))))
def JnV (a22:(List DEv)) (a23:Int) (a24:Int) (b0_1:(List DEv)) (b1_1:(List Bool)) (b1_2:(List Bool)) (b1_3:(List Int)) (b1_4:Int) (b1_5:Int) (b1_6:Int) (b2_1:(List Bool)) (b2_2:(List Bool)) (b2_3:(List Int)) (b2_4:Int) (b2_5:Int) (b2_6:Int) (b3_0:(List (ByteArray × DCe))) (b4_0:(List (ByteArray × DCe))):Option (((Unit × (Int × Unit)) × ((Unit × ((List DEv) × (Unit × Unit))) × (ZFt × (ZFt × (ZKt × (ZKt × Unit))))) × Unit) ⊕ (Unit × ((Unit × ((List DEv) × (Unit × Unit))) × (ZFt × (ZFt × (ZKt × (ZKt × Unit))))) × Unit)):=Q4 (fun x:((Unit × ((List DEv) × (Int × (Int × Unit)))) × ((Unit × ((List DEv) × (Unit × Unit))) × (ZFt × (ZFt × (ZKt × (ZKt × Unit))))) × Unit)=>Jqh x.1.2.1 x.1.2.2.1 x.1.2.2.2.1 x.2.1.1.2.1 x.2.1.2.1.2.1 x.2.1.2.1.2.2.1 x.2.1.2.1.2.2.2.1 x.2.1.2.1.2.2.2.2.1 x.2.1.2.1.2.2.2.2.2.1 x.2.1.2.1.2.2.2.2.2.2.1 x.2.1.2.2.1.2.1 x.2.1.2.2.1.2.2.1 x.2.1.2.2.1.2.2.2.1 x.2.1.2.2.1.2.2.2.2.1 x.2.1.2.2.1.2.2.2.2.2.1 x.2.1.2.2.1.2.2.2.2.2.2.1 x.2.1.2.2.2.1.1 x.2.1.2.2.2.2.1.1) (((),a22,a23,a24,()),(((),b0_1,(),()),((),b1_1,b1_2,b1_3,b1_4,b1_5,b1_6,()),((),b2_1,b2_2,b2_3,b2_4,b2_5,b2_6,()),(b3_0,()),(b4_0,()),()),())
theorem Jmn (a22:(List DEv)) (a23:Int) (a24:Int) (b0_1:(List DEv)) (b1_1:(List Bool)) (b1_2:(List Bool)) (b1_3:(List Int)) (b1_4:Int) (b1_5:Int) (b1_6:Int) (b2_1:(List Bool)) (b2_2:(List Bool)) (b2_3:(List Int)) (b2_4:Int) (b2_5:Int) (b2_6:Int) (b3_0:(List (ByteArray × DCe))) (b4_0:(List (ByteArray × DCe))):JnV a22 a23 a24 b0_1 b1_1 b1_2 b1_3 b1_4 b1_5 b1_6 b2_1 b2_2 b2_3 b2_4 b2_5 b2_6 b3_0 b4_0=(Jqh a22 a23 a24 b0_1 b1_1 b1_2 b1_3 b1_4 b1_5 b1_6 b2_1 b2_2 b2_3 b2_4 b2_5 b2_6 b3_0 b4_0).bind (Sum.elim (fun x=>JnV x.1.2.1 x.1.2.2.1 x.1.2.2.2.1 x.2.1.1.2.1 x.2.1.2.1.2.1 x.2.1.2.1.2.2.1 x.2.1.2.1.2.2.2.1 x.2.1.2.1.2.2.2.2.1 x.2.1.2.1.2.2.2.2.2.1 x.2.1.2.1.2.2.2.2.2.2.1 x.2.1.2.2.1.2.1 x.2.1.2.2.1.2.2.1 x.2.1.2.2.1.2.2.2.1 x.2.1.2.2.1.2.2.2.2.1 x.2.1.2.2.1.2.2.2.2.2.1 x.2.1.2.2.1.2.2.2.2.2.2.1 x.2.1.2.2.2.1.1 x.2.1.2.2.2.2.1.1) some):=Qg _ _
def k44_5:Con:=⟨{ sl := [(6,.p 0 0),(22,.v (.l Qi)),(23,.v (.i .i64)),(24,.v (.i .i64))],bx := [[.p 1 0,.v (.l Qi),.p 2 0], [.mv 3,.sg 64 .b,.sg 64 .b,.v (.l (.i .u64)),.v (.i .u64),.v (.i .i64),.v (.i .u64)], [.mv 4,.sg 64 .b,.sg 64 .b,.v (.l (.i .u64)),.v (.i .u64),.v (.i .i64),.v (.i .u64)], [.ms Xe], [.ms Xe]] },(.two (.ret { sl := [(4,.nl),(5,.v (.i .i64))],bx := [[.p 1 0,.v (.l Qi),.p 2 0], [.mv 3,.sg 64 .b,.sg 64 .b,.v (.l (.i .u64)),.v (.i .u64),.v (.i .i64),.v (.i .u64)], [.mv 4,.sg 64 .b,.sg 64 .b,.v (.l (.i .u64)),.v (.i .u64),.v (.i .i64),.v (.i .u64)], [.ms Xe], [.ms Xe]] }) (.exit 0 { sl := [],bx := [[.p 1 0,.v (.l Qi),.p 2 0], [.mv 3,.sg 64 .b,.sg 64 .b,.v (.l (.i .u64)),.v (.i .u64),.v (.i .i64),.v (.i .u64)], [.mv 4,.sg 64 .b,.sg 64 .b,.v (.l (.i .u64)),.v (.i .u64),.v (.i .i64),.v (.i .u64)], [.ms Xe], [.ms Xe]] })),fun x=>JnV x.1.2.1 x.1.2.2.1 x.1.2.2.2.1 x.2.1.1.2.1 x.2.1.2.1.2.1 x.2.1.2.1.2.2.1 x.2.1.2.1.2.2.2.1 x.2.1.2.1.2.2.2.2.1 x.2.1.2.1.2.2.2.2.2.1 x.2.1.2.1.2.2.2.2.2.2.1 x.2.1.2.2.1.2.1 x.2.1.2.2.1.2.2.1 x.2.1.2.2.1.2.2.2.1 x.2.1.2.2.1.2.2.2.2.1 x.2.1.2.2.1.2.2.2.2.2.1 x.2.1.2.2.1.2.2.2.2.2.2.1 x.2.1.2.2.2.1.1 x.2.1.2.2.2.2.1.1⟩
theorem JrD:Con.LOK Try.prog Try.f44.ntmps (Jbv Try.f44 5) k44_5:=lpX [(23,c23)] [] [] (fun x=>Jqh x.1.2.1 x.1.2.2.1 x.1.2.2.2.1 x.2.1.1.2.1 x.2.1.2.1.2.1 x.2.1.2.1.2.2.1 x.2.1.2.1.2.2.2.1 x.2.1.2.1.2.2.2.2.1 x.2.1.2.1.2.2.2.2.2.1 x.2.1.2.1.2.2.2.2.2.2.1 x.2.1.2.2.1.2.1 x.2.1.2.2.1.2.2.1 x.2.1.2.2.1.2.2.2.1 x.2.1.2.2.1.2.2.2.2.1 x.2.1.2.2.1.2.2.2.2.2.1 x.2.1.2.2.1.2.2.2.2.2.2.1 x.2.1.2.2.2.1.1 x.2.1.2.2.2.2.1.1) ⟨JgA,trivial⟩ trivial
def F44 (a1:(List (List DEv))) (b0_1:(List Bool)) (b0_2:(List Bool)) (b0_3:(List Int)) (b0_4:Int) (b0_5:Int) (b0_6:Int) (b1_0:(List (ByteArray × DCe))):Option ((Unit × (Int × Unit)) × (ZFt × (ZKt × ((Unit × ((List DEv) × (Unit × Unit))) × (ZFt × (ZKt × Unit))))) × Unit):=
 ((F85 a1).bind fun y0=>((F25 b0_1 b0_2 b0_3 b0_4 b0_5 b0_6 b1_0).bind fun y1=>((JnV y0.1.1 (((y0.1.1).length:Nat):Int) 0 y0.1.1 y1.2.1.1.2.1 y1.2.1.1.2.2.1 y1.2.1.1.2.2.2.1 y1.2.1.1.2.2.2.2.1 y1.2.1.1.2.2.2.2.2.1 y1.2.1.1.2.2.2.2.2.2.1 y1.2.1.2.2.1.2.1 y1.2.1.2.2.1.2.2.1 y1.2.1.2.2.1.2.2.2.1 y1.2.1.2.2.1.2.2.2.2.1 y1.2.1.2.2.1.2.2.2.2.2.1 y1.2.1.2.2.1.2.2.2.2.2.2.1 y1.2.1.2.1.1 y1.2.1.2.2.2.1.1).bind fun y2=>(Sum.elim (fun y3=>none) (fun y3=>(some (((),0,()),(y3.2.1.2.1,y3.2.1.2.2.2.1,((),y3.2.1.1.2.1,(),()),y3.2.1.2.2.1,y3.2.1.2.2.2.2.1,()),()))) y2))))
def c44:Con:=⟨{ sl := [(0,.p 0 0),(1,.v (.l (.l Qi)))],bx := [[.mv 1,.sg 64 .b,.sg 64 .b,.v (.l (.i .u64)),.v (.i .u64),.v (.i .i64),.v (.i .u64)], [.ms Xe]] },(.ret { sl := [(0,.p 2 0),(1,.v (.i .i64))],bx := [[.mv 1,.sg 64 .b,.sg 64 .b,.v (.l (.i .u64)),.v (.i .u64),.v (.i .i64),.v (.i .u64)], [.ms Xe], [.p 0 0,.v (.l Qi),.p 3 0], [.mv 4,.sg 64 .b,.sg 64 .b,.v (.l (.i .u64)),.v (.i .u64),.v (.i .i64),.v (.i .u64)], [.ms Xe]] }),fun x=>F44 x.1.2.1 x.2.1.1.2.1 x.2.1.1.2.2.1 x.2.1.1.2.2.2.1 x.2.1.1.2.2.2.2.1 x.2.1.1.2.2.2.2.2.1 x.2.1.1.2.2.2.2.2.2.1 x.2.1.2.1.1⟩
theorem c44_ok:Con.OK Try.prog 44 c44:=fnL [(23,c23),(25,c25),(85,c85)] [(5,k44_5)] [5] ⟨JgA,JpT,c85_ok,trivial⟩ ⟨JrD,trivial⟩ Try.func44
def F82 (b0_1:(List DEv)) (b1_1:(List Bool)) (b1_2:(List Bool)) (b1_3:(List Int)) (b1_4:Int) (b1_5:Int) (b1_6:Int) (b2_0:(List (ByteArray × DCe))):Option ((Int × Unit) × ((Unit × ((List DEv) × (Unit × Unit))) × (ZFt × (ZKt × Unit))) × Unit):=
 (some (((((b0_1).length:Nat):Int),()),(((),b0_1,(),()),((),b1_1,b1_2,b1_3,b1_4,b1_5,b1_6,()),(b2_0,()),()),()))
def c82:Con:=⟨{ sl := [(0,.p 0 0)],bx := [[.p 1 0,.v (.l Qi),.x], [.mv 2,.sg 64 .b,.sg 64 .b,.v (.l (.i .u64)),.v (.i .u64),.v (.i .i64),.v (.i .u64)], [.ms Xe]] },(.ret { sl := [(0,.v (.i .i64))],bx := [[.p 1 0,.v (.l Qi),.x], [.mv 2,.sg 64 .b,.sg 64 .b,.v (.l (.i .u64)),.v (.i .u64),.v (.i .i64),.v (.i .u64)], [.ms Xe]] }),fun x=>F82 x.2.1.1.2.1 x.2.1.2.1.2.1 x.2.1.2.1.2.2.1 x.2.1.2.1.2.2.2.1 x.2.1.2.1.2.2.2.2.1 x.2.1.2.1.2.2.2.2.2.1 x.2.1.2.1.2.2.2.2.2.2.1 x.2.1.2.2.1.1⟩
theorem Jts:Con.OK Try.prog 82 c82:=fnX [] trivial Try.func82
def F83 (a1:Int) (b0_1:(List DEv)) (b1_1:(List Bool)) (b1_2:(List Bool)) (b1_3:(List Int)) (b1_4:Int) (b1_5:Int) (b1_6:Int) (b2_0:(List (ByteArray × DCe))):Option ((DEv × (Bool × Unit)) × ((Unit × ((List DEv) × (Unit × Unit))) × (ZFt × (ZKt × Unit))) × Unit):=
 (bif (decide ((a1:Int)<0)) then (some (((0,(0,(0,(0,(ByteArray.empty,(([]:List Int),(0,(0,())))))))),false,()),(((),b0_1,(),()),((),b1_1,b1_2,b1_3,b1_4,b1_5,b1_6,()),(b2_0,()),()),())) else ((F82 b0_1 b1_1 b1_2 b1_3 b1_4 b1_5 b1_6 b2_0).bind fun y0=>(bif (decide ((a1:Int)≥y0.1.1)) then (some (((0,(0,(0,(0,(ByteArray.empty,(([]:List Int),(0,(0,())))))))),false,()),(((),y0.2.1.1.2.1,(),()),y0.2.1.2.1,y0.2.1.2.2.1,()),())) else (bif (decide (0≤(a1:Int)∧(a1:Int)<(((y0.2.1.1.2.1).length:Nat):Int))) then (some ((((y0.2.1.1.2.1).getD (a1:Int).toNat zE),true,()),(((),y0.2.1.1.2.1,(),()),y0.2.1.2.1,y0.2.1.2.2.1,()),())) else none))))
def c83:Con:=⟨{ sl := [(0,.p 0 0),(1,.v (.i .i64))],bx := [[.p 1 0,.v (.l Qi),.x], [.mv 2,.sg 64 .b,.sg 64 .b,.v (.l (.i .u64)),.v (.i .u64),.v (.i .i64),.v (.i .u64)], [.ms Xe]] },(.ret { sl := [(0,.v Qi),(1,.v .b)],bx := [[.p 1 0,.v (.l Qi),.x], [.mv 2,.sg 64 .b,.sg 64 .b,.v (.l (.i .u64)),.v (.i .u64),.v (.i .i64),.v (.i .u64)], [.ms Xe]] }),fun x=>F83 x.1.2.1 x.2.1.1.2.1 x.2.1.2.1.2.1 x.2.1.2.1.2.2.1 x.2.1.2.1.2.2.2.1 x.2.1.2.1.2.2.2.2.1 x.2.1.2.1.2.2.2.2.2.1 x.2.1.2.1.2.2.2.2.2.2.1 x.2.1.2.2.1.1⟩
theorem Jtr:Con.OK Try.prog 83 c83:=fnX [(82,c82)] ⟨Jts,trivial⟩ Try.func83
def F84 (b0_1:(List DEv)) (b1_1:(List Bool)) (b1_2:(List Bool)) (b1_3:(List Int)) (b1_4:Int) (b1_5:Int) (b1_6:Int) (b2_0:(List (ByteArray × DCe))):Option ((Unit × Unit) × ((Unit × ((List DEv) × (Unit × Unit))) × (ZFt × (ZKt × (ZFt × (ZKt × Unit))))) × Unit):=
 ((F25 b1_1 b1_2 b1_3 b1_4 b1_5 b1_6 b2_0).bind fun y0=>(some (((),()),(((),b0_1,(),()),y0.2.1.1,y0.2.1.2.1,y0.2.1.2.2.1,y0.2.1.2.2.2.1,()),())))
def c84:Con:=⟨{ sl := [(0,.p 0 0)],bx := [[.p 1 0,.v (.l Qi),.x], [.mv 2,.sg 64 .b,.sg 64 .b,.v (.l (.i .u64)),.v (.i .u64),.v (.i .i64),.v (.i .u64)], [.ms Xe]] },(.ret { sl := [(0,.p 3 0)],bx := [[.p 1 0,.v (.l Qi),.x], [.mv 2,.sg 64 .b,.sg 64 .b,.v (.l (.i .u64)),.v (.i .u64),.v (.i .i64),.v (.i .u64)], [.ms Xe], [.mv 4,.sg 64 .b,.sg 64 .b,.v (.l (.i .u64)),.v (.i .u64),.v (.i .i64),.v (.i .u64)], [.ms Xe]] }),fun x=>F84 x.2.1.1.2.1 x.2.1.2.1.2.1 x.2.1.2.1.2.2.1 x.2.1.2.1.2.2.2.1 x.2.1.2.1.2.2.2.2.1 x.2.1.2.1.2.2.2.2.2.1 x.2.1.2.1.2.2.2.2.2.2.1 x.2.1.2.2.1.1⟩
theorem c84_ok:Con.OK Try.prog 84 c84:=fnX [(25,c25)] ⟨JpT,trivial⟩ Try.func84
def Jqk (a18:Int) (a19:Int) (b0_1:(List DEv)) (b2_1:(List Bool)) (b2_2:(List Bool)) (b2_3:(List Int)) (b2_4:Int) (b2_5:Int) (b2_6:Int) (b4_0:(List (ByteArray × DCe))) (q0:(List DEv)) (q1:(List DVn)) (q2:(List DVn)) (q3:(List DVn)) (q4:(List DVn)):Option (((Unit × (Unit × (Int × (Int × Unit)))) × ((Unit × ((List DEv) × (Unit × Unit))) × (ZUt × (ZFt × (ZMt × (ZKt × Unit))))) × ((List DEv) × ZVt)) ⊕ (Unit × ((Unit × ((List DEv) × (Unit × Unit))) × (ZUt × (ZFt × (ZMt × (ZKt × Unit))))) × ((List DEv) × ZVt))):=
 (bif (decide ((a19:Int)<a18)) then ((F83 a19 b0_1 b2_1 b2_2 b2_3 b2_4 b2_5 b2_6 b4_0).bind fun y0=>(bif (decide ((q0).length+([y0.1.1]).length<lim)) then (some (.inl (((),(),a18,(IntKind.wrap .i64 (a19+1)),()),(((),y0.2.1.1.2.1,(),()),((),(),(),()),y0.2.1.2.1,((),(),(),(),(),()),y0.2.1.2.2.1,()),((q0 ++ [y0.1.1]),q1,q2,q3,q4,())))) else none)) else (some (.inr ((),(((),b0_1,(),()),((),(),(),()),((),b2_1,b2_2,b2_3,b2_4,b2_5,b2_6,()),((),(),(),(),(),()),(b4_0,()),()),(q0,q1,q2,q3,q4,())))))
def JnX (a18:Int) (a19:Int) (b0_1:(List DEv)) (b2_1:(List Bool)) (b2_2:(List Bool)) (b2_3:(List Int)) (b2_4:Int) (b2_5:Int) (b2_6:Int) (b4_0:(List (ByteArray × DCe))) (q0:(List DEv)) (q1:(List DVn)) (q2:(List DVn)) (q3:(List DVn)) (q4:(List DVn)):Option (Unit × ((Unit × ((List DEv) × (Unit × Unit))) × (ZUt × (ZFt × (ZMt × (ZKt × Unit))))) × ((List DEv) × ZVt)):=Q4 (fun x:((Unit × (Unit × (Int × (Int × Unit)))) × ((Unit × ((List DEv) × (Unit × Unit))) × (ZUt × (ZFt × (ZMt × (ZKt × Unit))))) × ((List DEv) × ZVt))=>Jqk x.1.2.2.1 x.1.2.2.2.1 x.2.1.1.2.1 x.2.1.2.2.1.2.1 x.2.1.2.2.1.2.2.1 x.2.1.2.2.1.2.2.2.1 x.2.1.2.2.1.2.2.2.2.1 x.2.1.2.2.1.2.2.2.2.2.1 x.2.1.2.2.1.2.2.2.2.2.2.1 x.2.1.2.2.2.2.1.1 x.2.2.1 x.2.2.2.1 x.2.2.2.2.1 x.2.2.2.2.2.1 x.2.2.2.2.2.2.1) (((),(),a18,a19,()),(((),b0_1,(),()),((),(),(),()),((),b2_1,b2_2,b2_3,b2_4,b2_5,b2_6,()),((),(),(),(),(),()),(b4_0,()),()),(q0,q1,q2,q3,q4,()))
theorem Jmq (a18:Int) (a19:Int) (b0_1:(List DEv)) (b2_1:(List Bool)) (b2_2:(List Bool)) (b2_3:(List Int)) (b2_4:Int) (b2_5:Int) (b2_6:Int) (b4_0:(List (ByteArray × DCe))) (q0:(List DEv)) (q1:(List DVn)) (q2:(List DVn)) (q3:(List DVn)) (q4:(List DVn)):JnX a18 a19 b0_1 b2_1 b2_2 b2_3 b2_4 b2_5 b2_6 b4_0 q0 q1 q2 q3 q4=(Jqk a18 a19 b0_1 b2_1 b2_2 b2_3 b2_4 b2_5 b2_6 b4_0 q0 q1 q2 q3 q4).bind (Sum.elim (fun x=>JnX x.1.2.2.1 x.1.2.2.2.1 x.2.1.1.2.1 x.2.1.2.2.1.2.1 x.2.1.2.2.1.2.2.1 x.2.1.2.2.1.2.2.2.1 x.2.1.2.2.1.2.2.2.2.1 x.2.1.2.2.1.2.2.2.2.2.1 x.2.1.2.2.1.2.2.2.2.2.2.1 x.2.1.2.2.2.2.1.1 x.2.2.1 x.2.2.2.1 x.2.2.2.2.1 x.2.2.2.2.2.1 x.2.2.2.2.2.2.1) some):=Qg _ _
def k42_5:Con:=⟨{ sl := [(0,.p 0 0),(3,.p 1 0),(18,.v (.i .i64)),(19,.v (.i .i64))],bx := [[.p 2 0,.v (.l Qi),.x], [.nl,.o 0,.mv 3], [.mv 4,.sg 64 .b,.sg 64 .b,.v (.l (.i .u64)),.v (.i .u64),.v (.i .i64),.v (.i .u64)], [.mt [(⟨#[97]⟩:ByteArray),(⟨#[98]⟩:ByteArray),(⟨#[99]⟩:ByteArray),(⟨#[100]⟩:ByteArray)],.o 1,.o 2,.o 3,.o 4], [.ms Xe]],bf := [Qi,Xy,Xy,Xy,Xy] },(.exit 0 { sl := [],bx := [[.p 2 0,.v (.l Qi),.x], [.nl,.o 0,.mv 3], [.mv 4,.sg 64 .b,.sg 64 .b,.v (.l (.i .u64)),.v (.i .u64),.v (.i .i64),.v (.i .u64)], [.mt [(⟨#[97]⟩:ByteArray),(⟨#[98]⟩:ByteArray),(⟨#[99]⟩:ByteArray),(⟨#[100]⟩:ByteArray)],.o 1,.o 2,.o 3,.o 4], [.ms Xe]],bf := [Qi,Xy,Xy,Xy,Xy] }),fun x=>JnX x.1.2.2.1 x.1.2.2.2.1 x.2.1.1.2.1 x.2.1.2.2.1.2.1 x.2.1.2.2.1.2.2.1 x.2.1.2.2.1.2.2.2.1 x.2.1.2.2.1.2.2.2.2.1 x.2.1.2.2.1.2.2.2.2.2.1 x.2.1.2.2.1.2.2.2.2.2.2.1 x.2.1.2.2.2.2.1.1 x.2.2.1 x.2.2.2.1 x.2.2.2.2.1 x.2.2.2.2.2.1 x.2.2.2.2.2.2.1⟩
theorem JrG:Con.LOK Try.prog Try.f42.ntmps (Jbv Try.f42 5) k42_5:=lpX [(83,c83),(900088,Jf5),(900014,cMt [(⟨#[97]⟩:ByteArray),(⟨#[98]⟩:ByteArray),(⟨#[99]⟩:ByteArray),(⟨#[100]⟩:ByteArray)]),(400081,cMt [(⟨#[97]⟩:ByteArray),(⟨#[98]⟩:ByteArray),(⟨#[99]⟩:ByteArray),(⟨#[100]⟩:ByteArray)]),(400087,cMt [(⟨#[97]⟩:ByteArray),(⟨#[98]⟩:ByteArray),(⟨#[99]⟩:ByteArray),(⟨#[100]⟩:ByteArray)])] [] [] (fun x=>Jqk x.1.2.2.1 x.1.2.2.2.1 x.2.1.1.2.1 x.2.1.2.2.1.2.1 x.2.1.2.2.1.2.2.1 x.2.1.2.2.1.2.2.2.1 x.2.1.2.2.1.2.2.2.2.1 x.2.1.2.2.1.2.2.2.2.2.1 x.2.1.2.2.1.2.2.2.2.2.2.1 x.2.1.2.2.2.2.1.1 x.2.2.1 x.2.2.2.1 x.2.2.2.2.1 x.2.2.2.2.2.1 x.2.2.2.2.2.2.1) ⟨Jtr,Q3,Jdv,Jdv,Jdv,trivial⟩ trivial
def JgE (a52:(List DEv)) (a53:Int) (a54:Int) (b0_1:(List DEv)) (b1_1:(List Bool)) (b1_2:(List Bool)) (b1_3:(List Int)) (b1_4:Int) (b1_5:Int) (b1_6:Int) (b2_1:(List Bool)) (b2_2:(List Bool)) (b2_3:(List Int)) (b2_4:Int) (b2_5:Int) (b2_6:Int) (b4_0:(List (ByteArray × DCe))) (b5_0:(List (ByteArray × DCe))) (q0:(List DVn)) (q1:(List DVn)) (q2:(List DVn)) (q3:(List DVn)):Option (((Unit × (Unit × ((List DEv) × (Int × (Int × Unit))))) × ((Unit × ((List DEv) × (Unit × Unit))) × (ZFt × (ZFt × (ZMt × (ZKt × (ZKt × Unit)))))) × ZVt) ⊕ (Unit × ((Unit × ((List DEv) × (Unit × Unit))) × (ZFt × (ZFt × (ZMt × (ZKt × (ZKt × Unit)))))) × ZVt)):=
 (bif (decide ((a54:Int)<a53)) then (bif (decide (0≤(a54:Int)∧(a54:Int)<(((a52).length:Nat):Int))) then ((F23 ((a52).getD (a54:Int).toNat zE) b1_1 b1_2 b1_3 b1_4 b1_5 b1_6 b4_0).bind fun y0=>(bif (decide ((((a52).getD (a54:Int).toNat zE).2.2.2.1:Int)<1)) then (some (.inl (((),(),a52,a53,(IntKind.wrap .i64 (a54+1)),()),(((),b0_1,(),()),y0.2.1.1,((),b2_1,b2_2,b2_3,b2_4,b2_5,b2_6,()),((),(),(),(),(),()),y0.2.1.2.1,(b5_0,()),()),(q0,q1,q2,q3,())))) else (bif (decide ((((a52).getD (a54:Int).toNat zE).2.2.2.1:Int) > 4)) then (some (.inl (((),(),a52,a53,(IntKind.wrap .i64 (a54+1)),()),(((),b0_1,(),()),y0.2.1.1,((),b2_1,b2_2,b2_3,b2_4,b2_5,b2_6,()),((),(),(),(),(),()),y0.2.1.2.1,(b5_0,()),()),(q0,q1,q2,q3,())))) else ((F27 (((a52).getD (a54:Int).toNat zE).2.2.2.2.1) y0.2.1.1.2.1 y0.2.1.1.2.2.1 y0.2.1.1.2.2.2.1 y0.2.1.1.2.2.2.2.1 y0.2.1.1.2.2.2.2.2.1 y0.2.1.1.2.2.2.2.2.2.1 y0.2.1.2.1.1).bind fun y1=>(bif (((a52).getD (a54:Int).toNat zE).2.2.2.2.1 == (⟨#[97]⟩:ByteArray)) then (bif (((a52).getD (a54:Int).toNat zE).2.2.2.2.1 == (⟨#[97]⟩:ByteArray)) then ((F52 ((a52).getD (a54:Int).toNat zE)).bind fun y2=>(bif (decide ((q0).length+([(y2.1.1,(y1.1.1,((!y1.1.2.1),())))]).length<lim)) then (bif (!(List.isEmpty (q0 ++ [(y2.1.1,(y1.1.1,((!y1.1.2.1),())))]))) then (some (.inl (((),(),a52,a53,(IntKind.wrap .i64 (a54+1)),()),(((),b0_1,(),()),y1.2.1.1,((),b2_1,b2_2,b2_3,b2_4,b2_5,b2_6,()),((),(),(),(),(),()),y1.2.1.2.1,(b5_0,()),()),((q0 ++ [(y2.1.1,(y1.1.1,((!y1.1.2.1),())))]),q1,q2,q3,())))) else none) else none)) else (bif (((a52).getD (a54:Int).toNat zE).2.2.2.2.1 == (⟨#[98]⟩:ByteArray)) then ((F52 ((a52).getD (a54:Int).toNat zE)).bind fun y3=>(bif (decide ((q1).length+([(y3.1.1,(y1.1.1,((!y1.1.2.1),())))]).length<lim)) then (bif (!(List.isEmpty (q1 ++ [(y3.1.1,(y1.1.1,((!y1.1.2.1),())))]))) then none else none) else none)) else (bif (((a52).getD (a54:Int).toNat zE).2.2.2.2.1 == (⟨#[99]⟩:ByteArray)) then ((F52 ((a52).getD (a54:Int).toNat zE)).bind fun y4=>(bif (decide ((q2).length+([(y4.1.1,(y1.1.1,((!y1.1.2.1),())))]).length<lim)) then (bif (!(List.isEmpty (q2 ++ [(y4.1.1,(y1.1.1,((!y1.1.2.1),())))]))) then none else none) else none)) else (bif (((a52).getD (a54:Int).toNat zE).2.2.2.2.1 == (⟨#[100]⟩:ByteArray)) then ((F52 ((a52).getD (a54:Int).toNat zE)).bind fun y5=>(bif (decide ((q3).length+([(y5.1.1,(y1.1.1,((!y1.1.2.1),())))]).length<lim)) then (bif (!(List.isEmpty (q3 ++ [(y5.1.1,(y1.1.1,((!y1.1.2.1),())))]))) then none else none) else none)) else none)))) else (bif (((a52).getD (a54:Int).toNat zE).2.2.2.2.1 == (⟨#[98]⟩:ByteArray)) then (bif (((a52).getD (a54:Int).toNat zE).2.2.2.2.1 == (⟨#[97]⟩:ByteArray)) then ((F52 ((a52).getD (a54:Int).toNat zE)).bind fun y6=>(bif (decide ((q0).length+([(y6.1.1,(y1.1.1,((!y1.1.2.1),())))]).length<lim)) then (bif (!(List.isEmpty (q0 ++ [(y6.1.1,(y1.1.1,((!y1.1.2.1),())))]))) then none else none) else none)) else (bif (((a52).getD (a54:Int).toNat zE).2.2.2.2.1 == (⟨#[98]⟩:ByteArray)) then ((F52 ((a52).getD (a54:Int).toNat zE)).bind fun y7=>(bif (decide ((q1).length+([(y7.1.1,(y1.1.1,((!y1.1.2.1),())))]).length<lim)) then (bif (!(List.isEmpty (q1 ++ [(y7.1.1,(y1.1.1,((!y1.1.2.1),())))]))) then (some (.inl (((),(),a52,a53,(IntKind.wrap .i64 (a54+1)),()),(((),b0_1,(),()),y1.2.1.1,((),b2_1,b2_2,b2_3,b2_4,b2_5,b2_6,()),((),(),(),(),(),()),y1.2.1.2.1,(b5_0,()),()),(q0,(q1 ++ [(y7.1.1,(y1.1.1,((!y1.1.2.1),())))]),q2,q3,())))) else none) else none)) else (bif (((a52).getD (a54:Int).toNat zE).2.2.2.2.1 == (⟨#[99]⟩:ByteArray)) then ((F52 ((a52).getD (a54:Int).toNat zE)).bind fun y8=>(bif (decide ((q2).length+([(y8.1.1,(y1.1.1,((!y1.1.2.1),())))]).length<lim)) then (bif (!(List.isEmpty (q2 ++ [(y8.1.1,(y1.1.1,((!y1.1.2.1),())))]))) then none else none) else none)) else (bif (((a52).getD (a54:Int).toNat zE).2.2.2.2.1 == (⟨#[100]⟩:ByteArray)) then ((F52 ((a52).getD (a54:Int).toNat zE)).bind fun y9=>(bif (decide ((q3).length+([(y9.1.1,(y1.1.1,((!y1.1.2.1),())))]).length<lim)) then (bif (!(List.isEmpty (q3 ++ [(y9.1.1,(y1.1.1,((!y1.1.2.1),())))]))) then none else none) else none)) else none)))) else (bif (((a52).getD (a54:Int).toNat zE).2.2.2.2.1 == (⟨#[99]⟩:ByteArray)) then (bif (((a52).getD (a54:Int).toNat zE).2.2.2.2.1 == (⟨#[97]⟩:ByteArray)) then ((F52 ((a52).getD (a54:Int).toNat zE)).bind fun y10=>(bif (decide ((q0).length+([(y10.1.1,(y1.1.1,((!y1.1.2.1),())))]).length<lim)) then (bif (!(List.isEmpty (q0 ++ [(y10.1.1,(y1.1.1,((!y1.1.2.1),())))]))) then none else none) else none)) else (bif (((a52).getD (a54:Int).toNat zE).2.2.2.2.1 == (⟨#[98]⟩:ByteArray)) then ((F52 ((a52).getD (a54:Int).toNat zE)).bind fun y11=>(bif (decide ((q1).length+([(y11.1.1,(y1.1.1,((!y1.1.2.1),())))]).length<lim)) then (bif (!(List.isEmpty (q1 ++ [(y11.1.1,(y1.1.1,((!y1.1.2.1),())))]))) then none else none) else none)) else (bif (((a52).getD (a54:Int).toNat zE).2.2.2.2.1 == (⟨#[99]⟩:ByteArray)) then ((F52 ((a52).getD (a54:Int).toNat zE)).bind fun y12=>(bif (decide ((q2).length+([(y12.1.1,(y1.1.1,((!y1.1.2.1),())))]).length<lim)) then (bif (!(List.isEmpty (q2 ++ [(y12.1.1,(y1.1.1,((!y1.1.2.1),())))]))) then (some (.inl (((),(),a52,a53,(IntKind.wrap .i64 (a54+1)),()),(((),b0_1,(),()),y1.2.1.1,((),b2_1,b2_2,b2_3,b2_4,b2_5,b2_6,()),((),(),(),(),(),()),y1.2.1.2.1,(b5_0,()),()),(q0,q1,(q2 ++ [(y12.1.1,(y1.1.1,((!y1.1.2.1),())))]),q3,())))) else none) else none)) else (bif (((a52).getD (a54:Int).toNat zE).2.2.2.2.1 == (⟨#[100]⟩:ByteArray)) then ((F52 ((a52).getD (a54:Int).toNat zE)).bind fun y13=>(bif (decide ((q3).length+([(y13.1.1,(y1.1.1,((!y1.1.2.1),())))]).length<lim)) then (bif (!(List.isEmpty (q3 ++ [(y13.1.1,(y1.1.1,((!y1.1.2.1),())))]))) then none else none) else none)) else none)))) else (bif (((a52).getD (a54:Int).toNat zE).2.2.2.2.1 == (⟨#[100]⟩:ByteArray)) then (bif (((a52).getD (a54:Int).toNat zE).2.2.2.2.1 == (⟨#[97]⟩:ByteArray)) then ((F52 ((a52).getD (a54:Int).toNat zE)).bind fun y14=>(bif (decide ((q0).length+([(y14.1.1,(y1.1.1,((!y1.1.2.1),())))]).length<lim)) then (bif (!(List.isEmpty (q0 ++ [(y14.1.1,(y1.1.1,((!y1.1.2.1),())))]))) then none else none) else none)) else (bif (((a52).getD (a54:Int).toNat zE).2.2.2.2.1 == (⟨#[98]⟩:ByteArray)) then ((F52 ((a52).getD (a54:Int).toNat zE)).bind fun y15=>(bif (decide ((q1).length+([(y15.1.1,(y1.1.1,((!y1.1.2.1),())))]).length<lim)) then (bif (!(List.isEmpty (q1 ++ [(y15.1.1,(y1.1.1,((!y1.1.2.1),())))]))) then none else none) else none)) else (bif (((a52).getD (a54:Int).toNat zE).2.2.2.2.1 == (⟨#[99]⟩:ByteArray)) then ((F52 ((a52).getD (a54:Int).toNat zE)).bind fun y16=>(bif (decide ((q2).length+([(y16.1.1,(y1.1.1,((!y1.1.2.1),())))]).length<lim)) then (bif (!(List.isEmpty (q2 ++ [(y16.1.1,(y1.1.1,((!y1.1.2.1),())))]))) then none else none) else none)) else (bif (((a52).getD (a54:Int).toNat zE).2.2.2.2.1 == (⟨#[100]⟩:ByteArray)) then ((F52 ((a52).getD (a54:Int).toNat zE)).bind fun y17=>(bif (decide ((q3).length+([(y17.1.1,(y1.1.1,((!y1.1.2.1),())))]).length<lim)) then (bif (!(List.isEmpty (q3 ++ [(y17.1.1,(y1.1.1,((!y1.1.2.1),())))]))) then (some (.inl (((),(),a52,a53,(IntKind.wrap .i64 (a54+1)),()),(((),b0_1,(),()),y1.2.1.1,((),b2_1,b2_2,b2_3,b2_4,b2_5,b2_6,()),((),(),(),(),(),()),y1.2.1.2.1,(b5_0,()),()),(q0,q1,q2,(q3 ++ [(y17.1.1,(y1.1.1,((!y1.1.2.1),())))]),())))) else none) else none)) else none)))) else none)))))))) else none) else (some (.inr ((),(((),b0_1,(),()),((),b1_1,b1_2,b1_3,b1_4,b1_5,b1_6,()),((),b2_1,b2_2,b2_3,b2_4,b2_5,b2_6,()),((),(),(),(),(),()),(b4_0,()),(b5_0,()),()),(q0,q1,q2,q3,())))))
def JgI (a52:(List DEv)) (a53:Int) (a54:Int) (b0_1:(List DEv)) (b1_1:(List Bool)) (b1_2:(List Bool)) (b1_3:(List Int)) (b1_4:Int) (b1_5:Int) (b1_6:Int) (b2_1:(List Bool)) (b2_2:(List Bool)) (b2_3:(List Int)) (b2_4:Int) (b2_5:Int) (b2_6:Int) (b4_0:(List (ByteArray × DCe))) (b5_0:(List (ByteArray × DCe))) (q0:(List DVn)) (q1:(List DVn)) (q2:(List DVn)) (q3:(List DVn)):Option (Unit × ((Unit × ((List DEv) × (Unit × Unit))) × (ZFt × (ZFt × (ZMt × (ZKt × (ZKt × Unit)))))) × ZVt):=Q4 (fun x:((Unit × (Unit × ((List DEv) × (Int × (Int × Unit))))) × ((Unit × ((List DEv) × (Unit × Unit))) × (ZFt × (ZFt × (ZMt × (ZKt × (ZKt × Unit)))))) × ZVt)=>JgE x.1.2.2.1 x.1.2.2.2.1 x.1.2.2.2.2.1 x.2.1.1.2.1 x.2.1.2.1.2.1 x.2.1.2.1.2.2.1 x.2.1.2.1.2.2.2.1 x.2.1.2.1.2.2.2.2.1 x.2.1.2.1.2.2.2.2.2.1 x.2.1.2.1.2.2.2.2.2.2.1 x.2.1.2.2.1.2.1 x.2.1.2.2.1.2.2.1 x.2.1.2.2.1.2.2.2.1 x.2.1.2.2.1.2.2.2.2.1 x.2.1.2.2.1.2.2.2.2.2.1 x.2.1.2.2.1.2.2.2.2.2.2.1 x.2.1.2.2.2.2.1.1 x.2.1.2.2.2.2.2.1.1 x.2.2.1 x.2.2.2.1 x.2.2.2.2.1 x.2.2.2.2.2.1) (((),(),a52,a53,a54,()),(((),b0_1,(),()),((),b1_1,b1_2,b1_3,b1_4,b1_5,b1_6,()),((),b2_1,b2_2,b2_3,b2_4,b2_5,b2_6,()),((),(),(),(),(),()),(b4_0,()),(b5_0,()),()),(q0,q1,q2,q3,()))
theorem Jjv (a52:(List DEv)) (a53:Int) (a54:Int) (b0_1:(List DEv)) (b1_1:(List Bool)) (b1_2:(List Bool)) (b1_3:(List Int)) (b1_4:Int) (b1_5:Int) (b1_6:Int) (b2_1:(List Bool)) (b2_2:(List Bool)) (b2_3:(List Int)) (b2_4:Int) (b2_5:Int) (b2_6:Int) (b4_0:(List (ByteArray × DCe))) (b5_0:(List (ByteArray × DCe))) (q0:(List DVn)) (q1:(List DVn)) (q2:(List DVn)) (q3:(List DVn)):JgI a52 a53 a54 b0_1 b1_1 b1_2 b1_3 b1_4 b1_5 b1_6 b2_1 b2_2 b2_3 b2_4 b2_5 b2_6 b4_0 b5_0 q0 q1 q2 q3=(JgE a52 a53 a54 b0_1 b1_1 b1_2 b1_3 b1_4 b1_5 b1_6 b2_1 b2_2 b2_3 b2_4 b2_5 b2_6 b4_0 b5_0 q0 q1 q2 q3).bind (Sum.elim (fun x=>JgI x.1.2.2.1 x.1.2.2.2.1 x.1.2.2.2.2.1 x.2.1.1.2.1 x.2.1.2.1.2.1 x.2.1.2.1.2.2.1 x.2.1.2.1.2.2.2.1 x.2.1.2.1.2.2.2.2.1 x.2.1.2.1.2.2.2.2.2.1 x.2.1.2.1.2.2.2.2.2.2.1 x.2.1.2.2.1.2.1 x.2.1.2.2.1.2.2.1 x.2.1.2.2.1.2.2.2.1 x.2.1.2.2.1.2.2.2.2.1 x.2.1.2.2.1.2.2.2.2.2.1 x.2.1.2.2.1.2.2.2.2.2.2.1 x.2.1.2.2.2.2.1.1 x.2.1.2.2.2.2.2.1.1 x.2.2.1 x.2.2.2.1 x.2.2.2.2.1 x.2.2.2.2.2.1) some):=Qg _ _
def Js3:Con:=⟨{ sl := [(3,.p 0 0),(7,.p 1 0),(52,.v (.l Qi)),(53,.v (.i .i64)),(54,.v (.i .i64))],bx := [[.p 2 0,.v (.l Qi),.mv 3], [.mv 4,.sg 64 .b,.sg 64 .b,.v (.l (.i .u64)),.v (.i .u64),.v (.i .i64),.v (.i .u64)], [.mv 5,.sg 64 .b,.sg 64 .b,.v (.l (.i .u64)),.v (.i .u64),.v (.i .i64),.v (.i .u64)], [.mt [(⟨#[97]⟩:ByteArray),(⟨#[98]⟩:ByteArray),(⟨#[99]⟩:ByteArray),(⟨#[100]⟩:ByteArray)],.o 0,.o 1,.o 2,.o 3], [.ms Xe], [.ms Xe]],bf := [Xy,Xy,Xy,Xy] },(.exit 2 { sl := [],bx := [[.p 2 0,.v (.l Qi),.mv 3], [.mv 4,.sg 64 .b,.sg 64 .b,.v (.l (.i .u64)),.v (.i .u64),.v (.i .i64),.v (.i .u64)], [.mv 5,.sg 64 .b,.sg 64 .b,.v (.l (.i .u64)),.v (.i .u64),.v (.i .i64),.v (.i .u64)], [.mt [(⟨#[97]⟩:ByteArray),(⟨#[98]⟩:ByteArray),(⟨#[99]⟩:ByteArray),(⟨#[100]⟩:ByteArray)],.o 0,.o 1,.o 2,.o 3], [.ms Xe], [.ms Xe]],bf := [Xy,Xy,Xy,Xy] }),fun x=>JgI x.1.2.2.1 x.1.2.2.2.1 x.1.2.2.2.2.1 x.2.1.1.2.1 x.2.1.2.1.2.1 x.2.1.2.1.2.2.1 x.2.1.2.1.2.2.2.1 x.2.1.2.1.2.2.2.2.1 x.2.1.2.1.2.2.2.2.2.1 x.2.1.2.1.2.2.2.2.2.2.1 x.2.1.2.2.1.2.1 x.2.1.2.2.1.2.2.1 x.2.1.2.2.1.2.2.2.1 x.2.1.2.2.1.2.2.2.2.1 x.2.1.2.2.1.2.2.2.2.2.1 x.2.1.2.2.1.2.2.2.2.2.2.1 x.2.1.2.2.2.2.1.1 x.2.1.2.2.2.2.2.1.1 x.2.2.1 x.2.2.2.1 x.2.2.2.2.1 x.2.2.2.2.2.1⟩
theorem Jpc:Con.LOK Try.prog Try.f42.ntmps (Jbv Try.f42 13) Js3:=lpX [(23,c23),(27,c27),(52,c52),(900088,Jf5),(900014,cMt [(⟨#[97]⟩:ByteArray),(⟨#[98]⟩:ByteArray),(⟨#[99]⟩:ByteArray),(⟨#[100]⟩:ByteArray)]),(400081,cMt [(⟨#[97]⟩:ByteArray),(⟨#[98]⟩:ByteArray),(⟨#[99]⟩:ByteArray),(⟨#[100]⟩:ByteArray)]),(400087,cMt [(⟨#[97]⟩:ByteArray),(⟨#[98]⟩:ByteArray),(⟨#[99]⟩:ByteArray),(⟨#[100]⟩:ByteArray)])] [] [] (fun x=>JgE x.1.2.2.1 x.1.2.2.2.1 x.1.2.2.2.2.1 x.2.1.1.2.1 x.2.1.2.1.2.1 x.2.1.2.1.2.2.1 x.2.1.2.1.2.2.2.1 x.2.1.2.1.2.2.2.2.1 x.2.1.2.1.2.2.2.2.2.1 x.2.1.2.1.2.2.2.2.2.2.1 x.2.1.2.2.1.2.1 x.2.1.2.2.1.2.2.1 x.2.1.2.2.1.2.2.2.1 x.2.1.2.2.1.2.2.2.2.1 x.2.1.2.2.1.2.2.2.2.2.1 x.2.1.2.2.1.2.2.2.2.2.2.1 x.2.1.2.2.2.2.1.1 x.2.1.2.2.2.2.2.1.1 x.2.2.1 x.2.2.2.1 x.2.2.2.2.1 x.2.2.2.2.2.1) ⟨JgA,JpS,Jgy,Q3,Jdv,Jdv,Jdv,trivial⟩ trivial
def F42 (b0_1:(List DEv)) (b1_1:(List Bool)) (b1_2:(List Bool)) (b1_3:(List Int)) (b1_4:Int) (b1_5:Int) (b1_6:Int) (b2_0:(List (ByteArray × DCe))):Option ((Unit × Unit) × ((Unit × ((List DEv) × (Unit × Unit))) × (ZFt × (ZKt × (ZUt × (ZFt × (ZMt × (ZKt × Unit))))))) × ZVt):=
 ((F82 b0_1 b1_1 b1_2 b1_3 b1_4 b1_5 b1_6 b2_0).bind fun y0=>((JnX y0.1.1 0 y0.2.1.1.2.1 y0.2.1.2.1.2.1 y0.2.1.2.1.2.2.1 y0.2.1.2.1.2.2.2.1 y0.2.1.2.1.2.2.2.2.1 y0.2.1.2.1.2.2.2.2.2.1 y0.2.1.2.1.2.2.2.2.2.2.1 y0.2.1.2.2.1.1 ([]:List DEv) ([]:List DVn) ([]:List DVn) ([]:List DVn) ([]:List DVn)).bind fun y1=>((F84 y1.2.1.1.2.1 y1.2.1.2.2.1.2.1 y1.2.1.2.2.1.2.2.1 y1.2.1.2.2.1.2.2.2.1 y1.2.1.2.2.1.2.2.2.2.1 y1.2.1.2.2.1.2.2.2.2.2.1 y1.2.1.2.2.1.2.2.2.2.2.2.1 y1.2.1.2.2.2.2.1.1).bind fun y2=>((F25 y2.2.1.2.2.2.1.2.1 y2.2.1.2.2.2.1.2.2.1 y2.2.1.2.2.2.1.2.2.2.1 y2.2.1.2.2.2.1.2.2.2.2.1 y2.2.1.2.2.2.1.2.2.2.2.2.1 y2.2.1.2.2.2.1.2.2.2.2.2.2.1 y2.2.1.2.2.2.2.1.1).bind fun y3=>((JgI y1.2.2.1 (((y1.2.2.1).length:Nat):Int) 0 y1.2.2.1 y3.2.1.2.2.1.2.1 y3.2.1.2.2.1.2.2.1 y3.2.1.2.2.1.2.2.2.1 y3.2.1.2.2.1.2.2.2.2.1 y3.2.1.2.2.1.2.2.2.2.2.1 y3.2.1.2.2.1.2.2.2.2.2.2.1 y3.2.1.1.2.1 y3.2.1.1.2.2.1 y3.2.1.1.2.2.2.1 y3.2.1.1.2.2.2.2.1 y3.2.1.1.2.2.2.2.2.1 y3.2.1.1.2.2.2.2.2.2.1 y3.2.1.2.2.2.1.1 y3.2.1.2.1.1 y1.2.2.2.1 y1.2.2.2.2.1 y1.2.2.2.2.2.1 y1.2.2.2.2.2.2.1).bind fun y4=>(some (((),()),(((),y2.2.1.1.2.1,(),()),y2.2.1.2.1,y2.2.1.2.2.1,((),(),(),()),y4.2.1.2.2.1,((),(),(),(),(),()),y4.2.1.2.2.2.2.2.1,()),y4.2.2)))))))
def c42:Con:=⟨{ sl := [(0,.p 0 0)],bx := [[.p 1 0,.v (.l Qi),.x], [.mv 2,.sg 64 .b,.sg 64 .b,.v (.l (.i .u64)),.v (.i .u64),.v (.i .i64),.v (.i .u64)], [.ms Xe]] },(.ret { sl := [(0,.p 3 0)],bx := [[.p 1 0,.v (.l Qi),.x], [.mv 2,.sg 64 .b,.sg 64 .b,.v (.l (.i .u64)),.v (.i .u64),.v (.i .i64),.v (.i .u64)], [.ms Xe], [.p 4 0,.x,.mv 5], [.mv 6,.sg 64 .b,.sg 64 .b,.v (.l (.i .u64)),.v (.i .u64),.v (.i .i64),.v (.i .u64)], [.mt [(⟨#[97]⟩:ByteArray),(⟨#[98]⟩:ByteArray),(⟨#[99]⟩:ByteArray),(⟨#[100]⟩:ByteArray)],.o 0,.o 1,.o 2,.o 3], [.ms Xe]],bf := [Xy,Xy,Xy,Xy] }),fun x=>F42 x.2.1.1.2.1 x.2.1.2.1.2.1 x.2.1.2.1.2.2.1 x.2.1.2.1.2.2.2.1 x.2.1.2.1.2.2.2.2.1 x.2.1.2.1.2.2.2.2.2.1 x.2.1.2.1.2.2.2.2.2.2.1 x.2.1.2.2.1.1⟩
theorem c42_ok:Con.OK Try.prog 42 c42:=fnL [(23,c23),(25,c25),(27,c27),(52,c52),(82,c82),(83,c83),(84,c84),(900088,Jf5),(900014,cMt [(⟨#[97]⟩:ByteArray),(⟨#[98]⟩:ByteArray),(⟨#[99]⟩:ByteArray),(⟨#[100]⟩:ByteArray)]),(400081,cMt [(⟨#[97]⟩:ByteArray),(⟨#[98]⟩:ByteArray),(⟨#[99]⟩:ByteArray),(⟨#[100]⟩:ByteArray)]),(400087,cMt [(⟨#[97]⟩:ByteArray),(⟨#[98]⟩:ByteArray),(⟨#[99]⟩:ByteArray),(⟨#[100]⟩:ByteArray)])] [(5,k42_5),(13,Js3)] [5,13] ⟨JgA,JpT,JpS,Jgy,Jts,Jtr,c84_ok,Q3,Jdv,Jdv,Jdv,trivial⟩ ⟨JrG,Jpc,trivial⟩ Try.func42
def F11 (a0:(List DEv)) (a1:Int):Option ((Unit × Unit) × (ZUt × (ZFt × (ZMt × (ZKt × Unit)))) × ZVt):=
 ((F45 a0 a1).bind fun y0=>(bif (decide (0≤(a1:Int)∧(a1:Int)≤(((a0).length:Nat):Int))) then ((F44 [((a0).drop (a1:Int).toNat)] y0.2.1.1.2.1 y0.2.1.1.2.2.1 y0.2.1.1.2.2.2.1 y0.2.1.1.2.2.2.2.1 y0.2.1.1.2.2.2.2.2.1 y0.2.1.1.2.2.2.2.2.2.1 y0.2.1.2.1.1).bind fun y1=>(bif ((y1.1.2.1:Int) != 0) then none else ((F42 y1.2.1.2.2.1.2.1 y1.2.1.1.2.1 y1.2.1.1.2.2.1 y1.2.1.1.2.2.2.1 y1.2.1.1.2.2.2.2.1 y1.2.1.1.2.2.2.2.2.1 y1.2.1.1.2.2.2.2.2.2.1 y1.2.1.2.1.1).bind fun y2=>(some (((),()),(((),(),(),()),y2.2.1.2.2.2.2.1,((),(),(),(),(),()),y2.2.1.2.2.2.2.2.2.1,()),y2.2.2))))) else none))
def c11:Con:=⟨{ sl := [(0,.v (.l Qi)),(1,.v (.i .i64))] },(.ret { sl := [(0,.p 0 0)],bx := [[.p 1 0,.x,.mv 2], [.mv 3,.sg 64 .b,.sg 64 .b,.v (.l (.i .u64)),.v (.i .u64),.v (.i .i64),.v (.i .u64)], [.mt [(⟨#[97]⟩:ByteArray),(⟨#[98]⟩:ByteArray),(⟨#[99]⟩:ByteArray),(⟨#[100]⟩:ByteArray)],.o 0,.o 1,.o 2,.o 3], [.ms Xe]],bf := [Xy,Xy,Xy,Xy] }),fun x=>F11 x.1.1 x.1.2.1⟩
theorem c11_ok:Con.OK Try.prog 11 c11:=fnX [(42,c42),(44,c44),(45,c45)] ⟨c42_ok,c44_ok,c45_ok,trivial⟩ Try.func11
def F13 (b1_1:(List Bool)) (b1_2:(List Bool)) (b1_3:(List Int)) (b1_4:Int) (b1_5:Int) (b1_6:Int) (b3_0:(List (ByteArray × DCe))) (q0:(List DVn)) (q1:(List DVn)) (q2:(List DVn)) (q3:(List DVn)):Option (((Int × (Int × Unit)) × Unit) × (ZUt × (ZFt × (ZMt × (ZKt × Unit)))) × ZVt):=
 ((F35 b1_1 b1_2 b1_3 b1_4 b1_5 b1_6 b3_0).bind fun y0=>(some (y0.1,(((),(),(),()),y0.2.1.1,((),(),(),(),(),()),y0.2.1.2.1,()),(q0,q1,q2,q3,()))))
def c13:Con:=⟨{ sl := [(0,.p 0 0)],bx := [[.p 1 0,.x,.mv 2], [.mv 3,.sg 64 .b,.sg 64 .b,.v (.l (.i .u64)),.v (.i .u64),.v (.i .i64),.v (.i .u64)], [.mt [(⟨#[97]⟩:ByteArray),(⟨#[98]⟩:ByteArray),(⟨#[99]⟩:ByteArray),(⟨#[100]⟩:ByteArray)],.o 0,.o 1,.o 2,.o 3], [.ms Xe]],bf := [Xy,Xy,Xy,Xy] },(.ret { sl := [(0,.v (.p (.i .u64) (.p (.i .i64) .u)))],bx := [[.p 1 0,.x,.mv 2], [.mv 3,.sg 64 .b,.sg 64 .b,.v (.l (.i .u64)),.v (.i .u64),.v (.i .i64),.v (.i .u64)], [.mt [(⟨#[97]⟩:ByteArray),(⟨#[98]⟩:ByteArray),(⟨#[99]⟩:ByteArray),(⟨#[100]⟩:ByteArray)],.o 0,.o 1,.o 2,.o 3], [.ms Xe]],bf := [Xy,Xy,Xy,Xy] }),fun x=>F13 x.2.1.2.1.2.1 x.2.1.2.1.2.2.1 x.2.1.2.1.2.2.2.1 x.2.1.2.1.2.2.2.2.1 x.2.1.2.1.2.2.2.2.2.1 x.2.1.2.1.2.2.2.2.2.2.1 x.2.1.2.2.2.1.1 x.2.2.1 x.2.2.2.1 x.2.2.2.2.1 x.2.2.2.2.2.1⟩
theorem JpU:Con.OKR Try.prog 13 c13:=fnR [(35,c35),(3000035,c35)] ⟨Jtw,Jlc,trivial⟩ Try.func13
theorem c13_ok:Con.OK Try.prog 13 c13:=JpU.ok
def F48 (a0:DVn) (a1:(Int × (Int × Unit))):Option ((Int × Unit) × Unit × Unit):=
 ((F46 a0.1 a1).bind fun y0=>(bif (decide ((y0.1.1:Int)≤0)) then (some (((-1),()),(),())) else (some ((1,()),(),()))))
def c48:Con:=⟨{ sl := [(0,.v Xy),(1,.v (.p (.i .u64) (.p (.i .i64) .u)))] },(.ret { sl := [(0,.v (.i .i64))] }),fun x=>F48 x.1.1 x.1.2.1⟩
theorem Jtv:Con.OK Try.prog 48 c48:=fnX [(46,c46)] ⟨Jgz,trivial⟩ Try.func48
def Jqf (a0:(List DVn)) (a8:Int) (a9:Int) (a10:Int) (b0_0:Int) (b0_1:Int):Option ((((List DVn) × (Unit × (Unit × (Int × (Int × (Int × Unit)))))) × ((Int × (Int × Unit)) × Unit) × Unit) ⊕ ((Int × Unit) × ((Int × (Int × Unit)) × Unit) × Unit)):=
 (bif (decide ((a9:Int)<a10)) then (bif (decide (0≤((IntKind.wrap .i64 (Jf3 .u64 (IntKind.wrap .u64 (IntKind.wrap .i64 (a9+a10))) 1)):Int)∧((IntKind.wrap .i64 (Jf3 .u64 (IntKind.wrap .u64 (IntKind.wrap .i64 (a9+a10))) 1)):Int)<(((a0).length:Nat):Int))) then ((F48 ((a0).getD ((IntKind.wrap .i64 (Jf3 .u64 (IntKind.wrap .u64 (IntKind.wrap .i64 (a9+a10))) 1)):Int).toNat zV) (b0_0,(b0_1,()))).bind fun y0=>(bif (decide ((y0.1.1:Int)<0)) then (some (.inl ((a0,(),(),a8,(IntKind.wrap .i64 ((IntKind.wrap .i64 (Jf3 .u64 (IntKind.wrap .u64 (IntKind.wrap .i64 (a9+a10))) 1))+1)),a10,()),((b0_0,b0_1,()),()),()))) else (some (.inl ((a0,(),(),a8,a9,(IntKind.wrap .i64 (Jf3 .u64 (IntKind.wrap .u64 (IntKind.wrap .i64 (a9+a10))) 1)),()),((b0_0,b0_1,()),()),()))))) else none) else (some (.inr ((a9,()),((b0_0,b0_1,()),()),()))))
def JnT (a0:(List DVn)) (a8:Int) (a9:Int) (a10:Int) (b0_0:Int) (b0_1:Int):Option ((Int × Unit) × ((Int × (Int × Unit)) × Unit) × Unit):=Q4 (fun x:(((List DVn) × (Unit × (Unit × (Int × (Int × (Int × Unit)))))) × ((Int × (Int × Unit)) × Unit) × Unit)=>Jqf x.1.1 x.1.2.2.2.1 x.1.2.2.2.2.1 x.1.2.2.2.2.2.1 x.2.1.1.1 x.2.1.1.2.1) ((a0,(),(),a8,a9,a10,()),((b0_0,b0_1,()),()),())
theorem Jml (a0:(List DVn)) (a8:Int) (a9:Int) (a10:Int) (b0_0:Int) (b0_1:Int):JnT a0 a8 a9 a10 b0_0 b0_1=(Jqf a0 a8 a9 a10 b0_0 b0_1).bind (Sum.elim (fun x=>JnT x.1.1 x.1.2.2.2.1 x.1.2.2.2.2.1 x.1.2.2.2.2.2.1 x.2.1.1.1 x.2.1.1.2.1) some):=Qg _ _
def k47_3:Con:=⟨{ sl := [(0,.v (.l Xy)),(2,.fn 48),(4,.p 0 0),(8,.v (.i .i64)),(9,.v (.i .i64)),(10,.v (.i .i64))],bx := [[.v (.i .u64),.v (.i .i64)]] },(.exit 0 { sl := [(9,.v (.i .i64))],bx := [[.v (.i .u64),.v (.i .i64)]] }),fun x=>JnT x.1.1 x.1.2.2.2.1 x.1.2.2.2.2.1 x.1.2.2.2.2.2.1 x.2.1.1.1 x.2.1.1.2.1⟩
theorem JrB:Con.LOK Try.prog Try.f47.ntmps (Jbv Try.f47 3) k47_3:=lpX [(48,c48)] [] [] (fun x=>Jqf x.1.1 x.1.2.2.2.1 x.1.2.2.2.2.1 x.1.2.2.2.2.2.1 x.2.1.1.1 x.2.1.1.2.1) ⟨Jtv,trivial⟩ trivial
def F47 (a0:(List DVn)) (a1:(Int × (Int × Unit))):Option ((Int × (Bool × Unit)) × Unit × Unit):=
 ((JnT a0 (((a0).length:Nat):Int) 0 (((a0).length:Nat):Int) a1.1 a1.2.1).bind fun y0=>(bif (decide ((y0.1.1:Int)<(((a0).length:Nat):Int))) then (bif (decide (0≤(y0.1.1:Int)∧(y0.1.1:Int)<(((a0).length:Nat):Int))) then ((F48 ((a0).getD (y0.1.1:Int).toNat zV) y0.2.1.1).bind fun y1=>(some ((y0.1.1,((y1.1.1:Int) == 0),()),(),()))) else none) else (some ((y0.1.1,false,()),(),()))))
def c47:Con:=⟨{ sl := [(0,.v (.l Xy)),(1,.v (.p (.i .u64) (.p (.i .i64) .u))),(2,.fn 48)] },(.ret { sl := [(0,.v (.i .i64)),(1,.v .b)] }),fun x=>F47 x.1.1 x.1.2.1⟩
theorem c47_ok:Con.OK Try.prog 47 c47:=fnL [(48,c48)] [(3,k47_3)] [3] ⟨Jtv,trivial⟩ ⟨JrB,trivial⟩ Try.func47
def F16 (a1:ByteArray) (a2:(Int × (Int × Unit))) (b1_1:(List Bool)) (b1_2:(List Bool)) (b1_3:(List Int)) (b1_4:Int) (b1_5:Int) (b1_6:Int) (b3_0:(List (ByteArray × DCe))) (q0:(List DVn)) (q1:(List DVn)) (q2:(List DVn)) (q3:(List DVn)):Option ((DCe × (Bool × (Int × Unit))) × (ZUt × (ZFt × (ZMt × (ZKt × Unit)))) × ZVt):=
 ((F35 b1_1 b1_2 b1_3 b1_4 b1_5 b1_6 b3_0).bind fun y0=>((F46 a2 y0.1.1).bind fun y1=>(bif (decide ((y1.1.1:Int)<0)) then (some (((0,(([]:List Int),(0,()))),false,13,()),(((),(),(),()),y0.2.1.1,((),(),(),(),(),()),y0.2.1.2.1,()),(q0,q1,q2,q3,()))) else ((F47 (bif a1 == (⟨#[97]⟩:ByteArray) then q0 else (bif a1 == (⟨#[98]⟩:ByteArray) then q1 else (bif a1 == (⟨#[99]⟩:ByteArray) then q2 else (bif a1 == (⟨#[100]⟩:ByteArray) then q3 else [])))) a2).bind fun y2=>(bif ((y2.1.1:Int) == 0) then ((F27 a1 y0.2.1.1.2.1 y0.2.1.1.2.2.1 y0.2.1.1.2.2.2.1 y0.2.1.1.2.2.2.2.1 y0.2.1.1.2.2.2.2.2.1 y0.2.1.1.2.2.2.2.2.2.1 y0.2.1.2.1.1).bind fun y3=>(some ((y3.1.1,y3.1.2.1,0,()),(((),(),(),()),y3.2.1.1,((),(),(),(),(),()),y3.2.1.2.1,()),(q0,q1,q2,q3,())))) else (bif (decide (0≤((IntKind.wrap .i64 (y2.1.1 - 1)):Int)∧((IntKind.wrap .i64 (y2.1.1 - 1)):Int)<((((bif a1 == (⟨#[97]⟩:ByteArray) then q0 else (bif a1 == (⟨#[98]⟩:ByteArray) then q1 else (bif a1 == (⟨#[99]⟩:ByteArray) then q2 else (bif a1 == (⟨#[100]⟩:ByteArray) then q3 else []))))).length:Nat):Int))) then (bif (decide (0≤((IntKind.wrap .i64 (y2.1.1 - 1)):Int)∧((IntKind.wrap .i64 (y2.1.1 - 1)):Int)<((((bif a1 == (⟨#[97]⟩:ByteArray) then q0 else (bif a1 == (⟨#[98]⟩:ByteArray) then q1 else (bif a1 == (⟨#[99]⟩:ByteArray) then q2 else (bif a1 == (⟨#[100]⟩:ByteArray) then q3 else []))))).length:Nat):Int))) then (some (((((bif a1 == (⟨#[97]⟩:ByteArray) then q0 else (bif a1 == (⟨#[98]⟩:ByteArray) then q1 else (bif a1 == (⟨#[99]⟩:ByteArray) then q2 else (bif a1 == (⟨#[100]⟩:ByteArray) then q3 else []))))).getD ((IntKind.wrap .i64 (y2.1.1 - 1)):Int).toNat zV).2.1,(!(((bif a1 == (⟨#[97]⟩:ByteArray) then q0 else (bif a1 == (⟨#[98]⟩:ByteArray) then q1 else (bif a1 == (⟨#[99]⟩:ByteArray) then q2 else (bif a1 == (⟨#[100]⟩:ByteArray) then q3 else []))))).getD ((IntKind.wrap .i64 (y2.1.1 - 1)):Int).toNat zV).2.2.1),0,()),(((),(),(),()),y0.2.1.1,((),(),(),(),(),()),y0.2.1.2.1,()),(q0,q1,q2,q3,()))) else none) else none))))))
def c16:Con:=⟨{ sl := [(0,.p 0 0),(1,.v .s),(2,.v (.p (.i .u64) (.p (.i .i64) .u)))],bx := [[.p 1 0,.x,.mv 2], [.mv 3,.sg 64 .b,.sg 64 .b,.v (.l (.i .u64)),.v (.i .u64),.v (.i .i64),.v (.i .u64)], [.mt [(⟨#[97]⟩:ByteArray),(⟨#[98]⟩:ByteArray),(⟨#[99]⟩:ByteArray),(⟨#[100]⟩:ByteArray)],.o 0,.o 1,.o 2,.o 3], [.ms Xe]],bf := [Xy,Xy,Xy,Xy] },(.ret { sl := [(0,.v Xe),(1,.v .b),(2,.v (.i .i64))],bx := [[.p 1 0,.x,.mv 2], [.mv 3,.sg 64 .b,.sg 64 .b,.v (.l (.i .u64)),.v (.i .u64),.v (.i .i64),.v (.i .u64)], [.mt [(⟨#[97]⟩:ByteArray),(⟨#[98]⟩:ByteArray),(⟨#[99]⟩:ByteArray),(⟨#[100]⟩:ByteArray)],.o 0,.o 1,.o 2,.o 3], [.ms Xe]],bf := [Xy,Xy,Xy,Xy] }),fun x=>F16 x.1.2.1 x.1.2.2.1 x.2.1.2.1.2.1 x.2.1.2.1.2.2.1 x.2.1.2.1.2.2.2.1 x.2.1.2.1.2.2.2.2.1 x.2.1.2.1.2.2.2.2.2.1 x.2.1.2.1.2.2.2.2.2.2.1 x.2.1.2.2.2.1.1 x.2.2.1 x.2.2.2.1 x.2.2.2.2.1 x.2.2.2.2.2.1⟩
theorem Jtz:Con.OK Try.prog 16 c16:=fnX [(27,c27),(35,c35),(46,c46),(47,c47),(3000035,c35)] ⟨JpS,Jtw,Jgz,c47_ok,Jlc,trivial⟩ Try.func16
def Jqe (a1:ByteArray) (a6:Int) (b0_0:(List (ByteArray × DCe))) (b0_1:(List Bool)) (b0_2:(List Bool)) (b0_3:(List Int)) (b0_4:Int) (b0_5:Int) (b0_6:Int):Option (((ByteArray × (Unit × (Int × Unit))) × (ZRt × Unit) × Unit) ⊕ ((Int × Unit) × (ZRt × Unit) × Unit)):=
 (bif (decide ((a6:Int)<(((b0_0).length:Nat):Int))) then (bif (decide (0≤(a6:Int)∧(a6:Int)<(((b0_0).length:Nat):Int))) then (bif (Op.bytesLess (((b0_0).getD (a6:Int).toNat zKc).1:ByteArray).toList (a1:ByteArray).toList) then (some (.inl ((a1,(),(IntKind.wrap .i64 (a6+1)),()),((b0_0,b0_1,b0_2,b0_3,b0_4,b0_5,b0_6,()),()),()))) else (some (.inr ((a6,()),((b0_0,b0_1,b0_2,b0_3,b0_4,b0_5,b0_6,()),()),())))) else none) else (some (.inr ((a6,()),((b0_0,b0_1,b0_2,b0_3,b0_4,b0_5,b0_6,()),()),()))))
def JnS (a1:ByteArray) (a6:Int) (b0_0:(List (ByteArray × DCe))) (b0_1:(List Bool)) (b0_2:(List Bool)) (b0_3:(List Int)) (b0_4:Int) (b0_5:Int) (b0_6:Int):Option ((Int × Unit) × (ZRt × Unit) × Unit):=Q4 (fun x:((ByteArray × (Unit × (Int × Unit))) × (ZRt × Unit) × Unit)=>Jqe x.1.1 x.1.2.2.1 x.2.1.1.1 x.2.1.1.2.1 x.2.1.1.2.2.1 x.2.1.1.2.2.2.1 x.2.1.1.2.2.2.2.1 x.2.1.1.2.2.2.2.2.1 x.2.1.1.2.2.2.2.2.2.1) ((a1,(),a6,()),((b0_0,b0_1,b0_2,b0_3,b0_4,b0_5,b0_6,()),()),())
theorem Jmk (a1:ByteArray) (a6:Int) (b0_0:(List (ByteArray × DCe))) (b0_1:(List Bool)) (b0_2:(List Bool)) (b0_3:(List Int)) (b0_4:Int) (b0_5:Int) (b0_6:Int):JnS a1 a6 b0_0 b0_1 b0_2 b0_3 b0_4 b0_5 b0_6=(Jqe a1 a6 b0_0 b0_1 b0_2 b0_3 b0_4 b0_5 b0_6).bind (Sum.elim (fun x=>JnS x.1.1 x.1.2.2.1 x.2.1.1.1 x.2.1.1.2.1 x.2.1.1.2.2.1 x.2.1.1.2.2.2.1 x.2.1.1.2.2.2.2.1 x.2.1.1.2.2.2.2.2.1 x.2.1.1.2.2.2.2.2.2.1) some):=Qg _ _
def k49_2:Con:=⟨{ sl := [(1,.v .s),(2,.p 0 0),(6,.v (.i .i64))],bx := [[.v (.l (.p .s Xe)),.v (.l .b),.v (.l .b),.v (.l (.i .u64)),.v (.i .u64),.v (.i .i64),.v (.i .u64)]] },(.exit 0 { sl := [(6,.v (.i .i64))],bx := [[.v (.l (.p .s Xe)),.v (.l .b),.v (.l .b),.v (.l (.i .u64)),.v (.i .u64),.v (.i .i64),.v (.i .u64)]] }),fun x=>JnS x.1.1 x.1.2.2.1 x.2.1.1.1 x.2.1.1.2.1 x.2.1.1.2.2.1 x.2.1.1.2.2.2.1 x.2.1.1.2.2.2.2.1 x.2.1.1.2.2.2.2.2.1 x.2.1.1.2.2.2.2.2.2.1⟩
theorem JrA:Con.LOK Try.prog Try.f49.ntmps (Jbv Try.f49 2) k49_2:=lpX [] [] [] (fun x=>Jqe x.1.1 x.1.2.2.1 x.2.1.1.1 x.2.1.1.2.1 x.2.1.1.2.2.1 x.2.1.1.2.2.2.1 x.2.1.1.2.2.2.2.1 x.2.1.1.2.2.2.2.2.1 x.2.1.1.2.2.2.2.2.2.1) trivial trivial
def F49 (a0:ZSt) (a1:ByteArray):Option ((Int × (Bool × Unit)) × Unit × Unit):=
 ((JnS a1 0 a0.1 a0.2.1 a0.2.2.1 a0.2.2.2.1 a0.2.2.2.2.1.1 a0.2.2.2.2.1.2.1 a0.2.2.2.2.2.1).bind fun y0=>(bif (decide ((y0.1.1:Int)<(((y0.2.1.1.1).length:Nat):Int))) then (bif (decide (0≤(y0.1.1:Int)∧(y0.1.1:Int)<(((y0.2.1.1.1).length:Nat):Int))) then (some ((y0.1.1,((((y0.2.1.1.1).getD (y0.1.1:Int).toNat zKc).1:ByteArray).toList == (a1:ByteArray).toList),()),(),())) else none) else (some ((y0.1.1,false,()),(),()))))
def c49:Con:=⟨{ sl := [(0,.v (.p (.l (.p .s Xe)) (.p (.l .b) (.p (.l .b) (.p (.l (.i .u64)) (.p (.p (.i .u64) (.p (.i .i64) .u)) (.p (.i .u64) .u))))))),(1,.v .s)] },(.ret { sl := [(0,.v (.i .i64)),(1,.v .b)] }),fun x=>F49 x.1.1 x.1.2.1⟩
theorem Jl8:Con.OK Try.prog 49 c49:=fnL [] [(2,k49_2)] [2] trivial ⟨JrA,trivial⟩ Try.func49
def F61 (a0:ZSt) (a1:(ByteArray × DCe)):Option ((ZSt × Unit) × Unit × Unit):=
 ((F49 a0 a1.1).bind fun y0=>(bif (decide (0≤(y0.1.1:Int)∧(y0.1.1:Int)≤(((a0.1).length:Nat):Int))) then (bif (decide ((((a0.1).take (y0.1.1:Int).toNat)).length<lim)) then (bif (decide ((((a0.1).take (y0.1.1:Int).toNat)).length+([a1]).length<lim)) then (bif y0.1.2.1 then (bif (decide (0≤((IntKind.wrap .i64 (y0.1.1+1)):Int)∧((IntKind.wrap .i64 (y0.1.1+1)):Int)≤(((a0.1).length:Nat):Int))) then (bif (decide (((((a0.1).take (y0.1.1:Int).toNat) ++ [a1])).length+(((a0.1).drop ((IntKind.wrap .i64 (y0.1.1+1)):Int).toNat)).length<lim)) then (some (((((((a0.1).take (y0.1.1:Int).toNat) ++ [a1])++((a0.1).drop ((IntKind.wrap .i64 (y0.1.1+1)):Int).toNat)),a0.2),()),(),())) else none) else none) else (bif (decide (0≤(y0.1.1:Int)∧(y0.1.1:Int)≤(((a0.1).length:Nat):Int))) then (bif (decide (((((a0.1).take (y0.1.1:Int).toNat) ++ [a1])).length+(((a0.1).drop (y0.1.1:Int).toNat)).length<lim)) then (some (((((((a0.1).take (y0.1.1:Int).toNat) ++ [a1])++((a0.1).drop (y0.1.1:Int).toNat)),a0.2),()),(),())) else none) else none)) else none) else none) else none))
def c61:Con:=⟨{ sl := [(0,.v (.p (.l (.p .s Xe)) (.p (.l .b) (.p (.l .b) (.p (.l (.i .u64)) (.p (.p (.i .u64) (.p (.i .i64) .u)) (.p (.i .u64) .u))))))),(1,.v (.p .s Xe))] },(.ret { sl := [(0,.v (.p (.l (.p .s Xe)) (.p (.l .b) (.p (.l .b) (.p (.l (.i .u64)) (.p (.p (.i .u64) (.p (.i .i64) .u)) (.p (.i .u64) .u)))))))] }),fun x=>F61 x.1.1 x.1.2.1⟩
theorem c61_ok:Con.OK Try.prog 61 c61:=fnX [(49,c49)] ⟨Jl8,trivial⟩ Try.func61
def F63 (a0:ZSt) (a1:ByteArray):Option ((ZSt × Unit) × Unit × Unit):=
 ((F49 a0 a1).bind fun y0=>(bif y0.1.2.1 then (bif (decide (0≤(y0.1.1:Int)∧(y0.1.1:Int)≤(((a0.1).length:Nat):Int))) then (bif (decide ((((a0.1).take (y0.1.1:Int).toNat)).length<lim)) then (bif (decide (0≤((IntKind.wrap .i64 (y0.1.1+1)):Int)∧((IntKind.wrap .i64 (y0.1.1+1)):Int)≤(((a0.1).length:Nat):Int))) then (bif (decide ((((a0.1).take (y0.1.1:Int).toNat)).length+(((a0.1).drop ((IntKind.wrap .i64 (y0.1.1+1)):Int).toNat)).length<lim)) then (some ((((((a0.1).take (y0.1.1:Int).toNat)++((a0.1).drop ((IntKind.wrap .i64 (y0.1.1+1)):Int).toNat)),a0.2),()),(),())) else none) else none) else none) else none) else (some ((a0,()),(),()))))
def c63:Con:=⟨{ sl := [(0,.v (.p (.l (.p .s Xe)) (.p (.l .b) (.p (.l .b) (.p (.l (.i .u64)) (.p (.p (.i .u64) (.p (.i .i64) .u)) (.p (.i .u64) .u))))))),(1,.v .s)] },(.ret { sl := [(0,.v (.p (.l (.p .s Xe)) (.p (.l .b) (.p (.l .b) (.p (.l (.i .u64)) (.p (.p (.i .u64) (.p (.i .i64) .u)) (.p (.i .u64) .u)))))))] }),fun x=>F63 x.1.1 x.1.2.1⟩
theorem c63_ok:Con.OK Try.prog 63 c63:=fnX [(49,c49)] ⟨Jl8,trivial⟩ Try.func63
def F64 (a0:(List Bool)) (a1:Int):Option (((List Bool) × Unit) × Unit × Unit):=
 (bif (decide ((a0).length<lim)) then (bif (decide (0≤(a1:Int)∧(a1:Int)<(((a0).length:Nat):Int))) then (bif (decide ((a1:Int).toNat<(a0).length)) then (some ((((a0).set (a1:Int).toNat true),()),(),())) else none) else none) else none)
def c64:Con:=⟨{ sl := [(0,.v (.l .b)),(1,.v (.i .i64))] },(.ret { sl := [(0,.v (.l .b))] }),fun x=>F64 x.1.1 x.1.2.1⟩
theorem c64_ok:Con.OK Try.prog 64 c64:=fnX [(900008,Jf5)] ⟨Q3,trivial⟩ Try.func64
def F21:Option ((ZSt × Unit) × Unit × Unit):=
 (bif ((decide (0≤(64:Int)∧(64:Int)=64∧(64:Int)<(lim:Int))) && (decide (0<(64:Int)))) then (bif ((decide (0≤(64:Int)∧(64:Int)=64∧(64:Int)<(lim:Int))) && true) then (bif ((decide (0≤(64:Int)∧(64:Int)=64∧(64:Int)<(lim:Int))) && true) then (bif (decide (0≤(0:Int)∧(0:Int)<((((List.replicate (64:Int).toNat (false:Bool))).length:Nat):Int))) then (bif (decide ((0:Int).toNat<((List.replicate (64:Int).toNat (false:Bool))).length)) then (bif (decide (0≤(1:Int)∧(1:Int)<((((((List.replicate (64:Int).toNat (false:Bool))).set (0:Int).toNat true)).length:Nat):Int))) then (bif (decide ((1:Int).toNat<((((List.replicate (64:Int).toNat (false:Bool))).set (0:Int).toNat true)).length)) then (bif (decide (0≤(2:Int)∧(2:Int)<((((((((List.replicate (64:Int).toNat (false:Bool))).set (0:Int).toNat true)).set (1:Int).toNat true)).length:Nat):Int))) then (bif (decide ((2:Int).toNat<((((((List.replicate (64:Int).toNat (false:Bool))).set (0:Int).toNat true)).set (1:Int).toNat true)).length)) then (some (((([]:List (ByteArray × DCe)),((((((((List.replicate (64:Int).toNat (false:Bool))).set (0:Int).toNat true)).set (1:Int).toNat true)).set (2:Int).toNat true),((List.replicate (64:Int).toNat (false:Bool)),((List.replicate (64:Int).toNat (0:Int)),((0,(0,())),(14695981039346656037,())))))),()),(),())) else none) else none) else none) else none) else none) else none) else none) else none) else none)
def c21:Con:=⟨{ sl := [(0,.ki .i64 3)] },(.ret { sl := [(0,.v (.p (.l (.p .s Xe)) (.p (.l .b) (.p (.l .b) (.p (.l (.i .u64)) (.p (.p (.i .u64) (.p (.i .i64) .u)) (.p (.i .u64) .u)))))))] }),fun x=>F21⟩
theorem c21_ok:Con.OK Try.prog 21 c21:=fnL [(900005,Jf5),(700003,Jf5)] [] [3] ⟨Q3,Q3,trivial⟩ trivial Try.func21
def Jjn (a8:(List Int)) (a9:Int) (b0_0:(List (ByteArray × DCe))) (b0_1:(List Bool)) (b0_2:(List Bool)) (b0_4:Int) (b0_5:Int) (b0_6:Int) (b1_0:(List Int)):Option (((Unit × ((List Int) × (Int × Unit))) × (((List (ByteArray × DCe)) × ((List Bool) × ((List Bool) × (Unit × (Int × (Int × (Int × Unit))))))) × (((List Int) × Unit) × Unit)) × Unit) ⊕ (Unit × (((List (ByteArray × DCe)) × ((List Bool) × ((List Bool) × (Unit × (Int × (Int × (Int × Unit))))))) × (((List Int) × Unit) × Unit)) × Unit)):=
 (bif (decide ((a9:Int)<(((a8).length:Nat):Int))) then (bif (decide (0≤(a9:Int)∧(a9:Int)<(((a8).length:Nat):Int))) then (some (.inl (((),a8,(IntKind.wrap .i64 (a9+1)),()),((b0_0,b0_1,b0_2,(),b0_4,b0_5,(IntKind.wrap .u64 ((iXor .u64 b0_6 (IntKind.wrap .u64 ((a8).getD (a9:Int).toNat (0:Int))))*1099511628211)),()),(b1_0,()),()),()))) else none) else (some (.inr ((),((b0_0,b0_1,b0_2,(),b0_4,b0_5,b0_6,()),(b1_0,()),()),()))))
def JgJ (a8:(List Int)) (a9:Int) (b0_0:(List (ByteArray × DCe))) (b0_1:(List Bool)) (b0_2:(List Bool)) (b0_4:Int) (b0_5:Int) (b0_6:Int) (b1_0:(List Int)):Option (Unit × (((List (ByteArray × DCe)) × ((List Bool) × ((List Bool) × (Unit × (Int × (Int × (Int × Unit))))))) × (((List Int) × Unit) × Unit)) × Unit):=Q4 (fun x:((Unit × ((List Int) × (Int × Unit))) × (((List (ByteArray × DCe)) × ((List Bool) × ((List Bool) × (Unit × (Int × (Int × (Int × Unit))))))) × (((List Int) × Unit) × Unit)) × Unit)=>Jjn x.1.2.1 x.1.2.2.1 x.2.1.1.1 x.2.1.1.2.1 x.2.1.1.2.2.1 x.2.1.1.2.2.2.2.1 x.2.1.1.2.2.2.2.2.1 x.2.1.1.2.2.2.2.2.2.1 x.2.1.2.1.1) (((),a8,a9,()),((b0_0,b0_1,b0_2,(),b0_4,b0_5,b0_6,()),(b1_0,()),()),())
theorem Jjw (a8:(List Int)) (a9:Int) (b0_0:(List (ByteArray × DCe))) (b0_1:(List Bool)) (b0_2:(List Bool)) (b0_4:Int) (b0_5:Int) (b0_6:Int) (b1_0:(List Int)):JgJ a8 a9 b0_0 b0_1 b0_2 b0_4 b0_5 b0_6 b1_0=(Jjn a8 a9 b0_0 b0_1 b0_2 b0_4 b0_5 b0_6 b1_0).bind (Sum.elim (fun x=>JgJ x.1.2.1 x.1.2.2.1 x.2.1.1.1 x.2.1.1.2.1 x.2.1.1.2.2.1 x.2.1.1.2.2.2.2.1 x.2.1.1.2.2.2.2.2.1 x.2.1.1.2.2.2.2.2.2.1 x.2.1.2.1.1) some):=Qg _ _
def Js4:Con:=⟨{ sl := [(2,.p 0 0),(8,.v (.l (.i .u8))),(9,.v (.i .i64))],bx := [[.v (.l (.p .s Xe)),.v (.l .b),.v (.l .b),.m (.i .u64) 1,.v (.i .u64),.v (.i .i64),.v (.i .u64)], [.r (.i .u64)]] },(.exit 0 { sl := [],bx := [[.v (.l (.p .s Xe)),.v (.l .b),.v (.l .b),.m (.i .u64) 1,.v (.i .u64),.v (.i .i64),.v (.i .u64)], [.r (.i .u64)]] }),fun x=>JgJ x.1.2.1 x.1.2.2.1 x.2.1.1.1 x.2.1.1.2.1 x.2.1.1.2.2.1 x.2.1.1.2.2.2.2.1 x.2.1.1.2.2.2.2.2.1 x.2.1.1.2.2.2.2.2.2.1 x.2.1.2.1.1⟩
theorem Jpd:Con.LOK Try.prog Try.f24.ntmps (Jbv Try.f24 15) Js4:=lpX [(900040,Jf5)] [] [] (fun x=>Jjn x.1.2.1 x.1.2.2.1 x.2.1.1.1 x.2.1.1.2.1 x.2.1.1.2.2.1 x.2.1.1.2.2.2.2.1 x.2.1.1.2.2.2.2.2.1 x.2.1.1.2.2.2.2.2.2.1 x.2.1.2.1.1) ⟨Q3,trivial⟩ trivial
def F24 (a0:ZSt) (a1:DEv):Option ((ZSt × (Int × Unit)) × Unit × Unit):=
 ((F59 (a1.1,(a1.2.1,(a1.2.2.1,(a1.2.2.2.1,(a1.2.2.2.2.1,(a1.2.2.2.2.2.1,(a1.2.2.2.2.2.2.1,(a1.2.2.2.2.2.2.2.1,()))))))))).bind fun y0=>(bif ((y0.1.1:Int) != 0) then (some (((a0.1,(a0.2.1,(a0.2.2.1,(a0.2.2.2.1,((a0.2.2.2.2.1.1,(a0.2.2.2.2.1.2.1,())),(a0.2.2.2.2.2.1,())))))),y0.1.1,()),(),())) else ((F12 (a1.1,(a1.2.1,(a1.2.2.1,(a1.2.2.2.1,(a1.2.2.2.2.1,(a1.2.2.2.2.2.1,(a1.2.2.2.2.2.2.1,(a1.2.2.2.2.2.2.2.1,()))))))))).bind fun y1=>((F14 (a0.2.2.2.2.1.1,(a0.2.2.2.2.1.2.1,())) (y1.1.1.1,(y1.1.1.2.1,()))).bind fun y2=>(bif (!y2.1.1) then (some (((a0.1,(a0.2.1,(a0.2.2.1,(a0.2.2.2.1,((a0.2.2.2.2.1.1,(a0.2.2.2.2.1.2.1,())),(a0.2.2.2.2.2.1,())))))),10,()),(),())) else (bif (decide (0≤(a1.1:Int)∧(a1.1:Int)<(((a0.2.2.2.1).length:Nat):Int))) then (bif ((a1.2.1:Int) != (IntKind.wrap .u64 (((a0.2.2.2.1).getD (a1.1:Int).toNat (0:Int))+1))) then (some (((a0.1,(a0.2.1,(a0.2.2.1,(a0.2.2.2.1,((a0.2.2.2.2.1.1,(a0.2.2.2.2.1.2.1,())),(a0.2.2.2.2.2.1,())))))),9,()),(),())) else (bif (decide ((a0.2.2.2.1).length<lim)) then (bif (decide (0≤(a1.1:Int)∧(a1.1:Int)<(((a0.2.2.2.1).length:Nat):Int))) then (bif (decide ((a1.1:Int).toNat<(a0.2.2.2.1).length)) then ((F12 (a1.1,(a1.2.1,(a1.2.2.1,(a1.2.2.2.1,(a1.2.2.2.2.1,(a1.2.2.2.2.2.1,(a1.2.2.2.2.2.2.1,(a1.2.2.2.2.2.2.2.1,()))))))))).bind fun y3=>((F60 (a1.1,(a1.2.1,(a1.2.2.1,(a1.2.2.2.1,(a1.2.2.2.2.1,(a1.2.2.2.2.2.1,(a1.2.2.2.2.2.2.1,(a1.2.2.2.2.2.2.2.1,()))))))))).bind fun y4=>((JgJ y4.2.2.1 0 a0.1 a0.2.1 a0.2.2.1 y3.1.1.1 y3.1.1.2.1 a0.2.2.2.2.2.1 ((a0.2.2.2.1).set (a1.1:Int).toNat a1.2.1)).bind fun y5=>(bif ((a1.2.2.2.1:Int) == 1) then ((F61 (y5.2.1.1.1,(y5.2.1.1.2.1,(y5.2.1.1.2.2.1,(y5.2.1.2.1.1,((y5.2.1.1.2.2.2.2.1,(y5.2.1.1.2.2.2.2.2.1,())),(y5.2.1.1.2.2.2.2.2.2.1,())))))) (a1.2.2.2.2.1,(1,(a1.2.2.2.2.2.1,(0,()))))).bind fun y6=>(some (((y6.1.1.1,(y6.1.1.2.1,(y6.1.1.2.2.1,(y6.1.1.2.2.2.1,((y6.1.1.2.2.2.2.1.1,(y6.1.1.2.2.2.2.1.2.1,())),(y6.1.1.2.2.2.2.2.1,())))))),0,()),(),()))) else (bif ((a1.2.2.2.1:Int) == 2) then ((F62 a1.2.2.2.2.2.2.1).bind fun y7=>((F61 (y5.2.1.1.1,(y5.2.1.1.2.1,(y5.2.1.1.2.2.1,(y5.2.1.2.1.1,((y5.2.1.1.2.2.2.2.1,(y5.2.1.1.2.2.2.2.2.1,())),(y5.2.1.1.2.2.2.2.2.2.1,())))))) (a1.2.2.2.2.1,(2,(([]:List Int),(y7.1.1,()))))).bind fun y8=>(some (((y8.1.1.1,(y8.1.1.2.1,(y8.1.1.2.2.1,(y8.1.1.2.2.2.1,((y8.1.1.2.2.2.2.1.1,(y8.1.1.2.2.2.2.1.2.1,())),(y8.1.1.2.2.2.2.2.1,())))))),0,()),(),())))) else (bif ((a1.2.2.2.1:Int) == 3) then ((F62 a1.2.2.2.2.2.2.1).bind fun y9=>((F49 (y5.2.1.1.1,(y5.2.1.1.2.1,(y5.2.1.1.2.2.1,(y5.2.1.2.1.1,((y5.2.1.1.2.2.2.2.1,(y5.2.1.1.2.2.2.2.2.1,())),(y5.2.1.1.2.2.2.2.2.2.1,())))))) a1.2.2.2.2.1).bind fun y10=>(bif y10.1.2.1 then (bif (decide (0≤(y10.1.1:Int)∧(y10.1.1:Int)<(((y5.2.1.1.1).length:Nat):Int))) then (bif ((((y5.2.1.1.1).getD (y10.1.1:Int).toNat zKc).2.1:Int) == 2) then (bif (decide (0≤(y10.1.1:Int)∧(y10.1.1:Int)<(((y5.2.1.1.1).length:Nat):Int))) then (bif (((FloatKind.f64).format.add (((y5.2.1.1.1).getD (y10.1.1:Int).toNat zKc).2.2.2.1) (a1.2.2.2.2.2.2.1))).isSome then ((F62 ((((FloatKind.f64).format.add (((y5.2.1.1.1).getD (y10.1.1:Int).toNat zKc).2.2.2.1) (a1.2.2.2.2.2.2.1))).getD 0)).bind fun y11=>((F61 (y5.2.1.1.1,(y5.2.1.1.2.1,(y5.2.1.1.2.2.1,(y5.2.1.2.1.1,((y5.2.1.1.2.2.2.2.1,(y5.2.1.1.2.2.2.2.2.1,())),(y5.2.1.1.2.2.2.2.2.2.1,())))))) (a1.2.2.2.2.1,(2,(([]:List Int),(y11.1.1,()))))).bind fun y12=>(some (((y12.1.1.1,(y12.1.1.2.1,(y12.1.1.2.2.1,(y12.1.1.2.2.2.1,((y12.1.1.2.2.2.2.1.1,(y12.1.1.2.2.2.2.1.2.1,())),(y12.1.1.2.2.2.2.2.1,())))))),0,()),(),())))) else none) else none) else ((F61 (y5.2.1.1.1,(y5.2.1.1.2.1,(y5.2.1.1.2.2.1,(y5.2.1.2.1.1,((y5.2.1.1.2.2.2.2.1,(y5.2.1.1.2.2.2.2.2.1,())),(y5.2.1.1.2.2.2.2.2.2.1,())))))) (a1.2.2.2.2.1,(2,(([]:List Int),(y9.1.1,()))))).bind fun y13=>(some (((y13.1.1.1,(y13.1.1.2.1,(y13.1.1.2.2.1,(y13.1.1.2.2.2.1,((y13.1.1.2.2.2.2.1.1,(y13.1.1.2.2.2.2.1.2.1,())),(y13.1.1.2.2.2.2.2.1,())))))),0,()),(),())))) else none) else ((F61 (y5.2.1.1.1,(y5.2.1.1.2.1,(y5.2.1.1.2.2.1,(y5.2.1.2.1.1,((y5.2.1.1.2.2.2.2.1,(y5.2.1.1.2.2.2.2.2.1,())),(y5.2.1.1.2.2.2.2.2.2.1,())))))) (a1.2.2.2.2.1,(2,(([]:List Int),(y9.1.1,()))))).bind fun y14=>(some (((y14.1.1.1,(y14.1.1.2.1,(y14.1.1.2.2.1,(y14.1.1.2.2.2.1,((y14.1.1.2.2.2.2.1.1,(y14.1.1.2.2.2.2.1.2.1,())),(y14.1.1.2.2.2.2.2.1,())))))),0,()),(),())))))) else (bif ((a1.2.2.2.1:Int) == 4) then ((F63 (y5.2.1.1.1,(y5.2.1.1.2.1,(y5.2.1.1.2.2.1,(y5.2.1.2.1.1,((y5.2.1.1.2.2.2.2.1,(y5.2.1.1.2.2.2.2.2.1,())),(y5.2.1.1.2.2.2.2.2.2.1,())))))) a1.2.2.2.2.1).bind fun y15=>(some (((y15.1.1.1,(y15.1.1.2.1,(y15.1.1.2.2.1,(y15.1.1.2.2.2.1,((y15.1.1.2.2.2.2.1.1,(y15.1.1.2.2.2.2.1.2.1,())),(y15.1.1.2.2.2.2.2.1,())))))),0,()),(),()))) else (bif ((a1.2.2.2.1:Int) == 5) then ((F64 y5.2.1.1.2.1 a1.2.2.2.2.2.2.2.1).bind fun y16=>(some (((y5.2.1.1.1,(y16.1.1,(y5.2.1.1.2.2.1,(y5.2.1.2.1.1,((y5.2.1.1.2.2.2.2.1,(y5.2.1.1.2.2.2.2.2.1,())),(y5.2.1.1.2.2.2.2.2.2.1,())))))),0,()),(),()))) else ((F64 y5.2.1.1.2.2.1 a1.1).bind fun y17=>(some (((y5.2.1.1.1,(y5.2.1.1.2.1,(y17.1.1,(y5.2.1.2.1.1,((y5.2.1.1.2.2.2.2.1,(y5.2.1.1.2.2.2.2.2.1,())),(y5.2.1.1.2.2.2.2.2.2.1,())))))),0,()),(),()))))))))))) else none) else none) else none)) else none))))))
def c24:Con:=⟨{ sl := [(0,.v (.p (.l (.p .s Xe)) (.p (.l .b) (.p (.l .b) (.p (.l (.i .u64)) (.p (.p (.i .u64) (.p (.i .i64) .u)) (.p (.i .u64) .u))))))),(1,.v Qi)] },(.ret { sl := [(0,.v (.p (.l (.p .s Xe)) (.p (.l .b) (.p (.l .b) (.p (.l (.i .u64)) (.p (.p (.i .u64) (.p (.i .i64) .u)) (.p (.i .u64) .u))))))),(1,.v (.i .i64))] }),fun x=>F24 x.1.1 x.1.2.1⟩
theorem Jtx:Con.OK Try.prog 24 c24:=fnL [(12,c12),(14,c14),(49,c49),(59,c59),(60,c60),(61,c61),(62,c62),(63,c63),(64,c64),(900040,Jf5)] [(15,Js4)] [15] ⟨Jl9,Jjj,Jl8,c59_ok,c60_ok,c61_ok,c62_ok,c63_ok,c64_ok,Q3,trivial⟩ ⟨Jpd,trivial⟩ Try.func24
def Jqn (a1:(List DEv)) (a6:Int) (b0_0:(List (ByteArray × DCe))) (b0_1:(List Bool)) (b0_2:(List Bool)) (b0_3:(List Int)) (b0_4:Int) (b0_5:Int) (b0_6:Int):Option ((((List DEv) × (Unit × (Int × Unit))) × (ZRt × Unit) × Unit) ⊕ (Unit × (ZRt × Unit) × Unit)):=
 (bif (decide ((a6:Int)<(((a1).length:Nat):Int))) then (bif (decide (0≤(a6:Int)∧(a6:Int)<(((a1).length:Nat):Int))) then ((F24 (b0_0,(b0_1,(b0_2,(b0_3,((b0_4,(b0_5,())),(b0_6,())))))) ((a1).getD (a6:Int).toNat zE)).bind fun y0=>(some (.inl ((a1,(),(IntKind.wrap .i64 (a6+1)),()),((y0.1.1.1,y0.1.1.2.1,y0.1.1.2.2.1,y0.1.1.2.2.2.1,y0.1.1.2.2.2.2.1.1,y0.1.1.2.2.2.2.1.2.1,y0.1.1.2.2.2.2.2.1,()),()),())))) else none) else (some (.inr ((),((b0_0,b0_1,b0_2,b0_3,b0_4,b0_5,b0_6,()),()),()))))
def JnY (a1:(List DEv)) (a6:Int) (b0_0:(List (ByteArray × DCe))) (b0_1:(List Bool)) (b0_2:(List Bool)) (b0_3:(List Int)) (b0_4:Int) (b0_5:Int) (b0_6:Int):Option (Unit × (ZRt × Unit) × Unit):=Q4 (fun x:(((List DEv) × (Unit × (Int × Unit))) × (ZRt × Unit) × Unit)=>Jqn x.1.1 x.1.2.2.1 x.2.1.1.1 x.2.1.1.2.1 x.2.1.1.2.2.1 x.2.1.1.2.2.2.1 x.2.1.1.2.2.2.2.1 x.2.1.1.2.2.2.2.2.1 x.2.1.1.2.2.2.2.2.2.1) ((a1,(),a6,()),((b0_0,b0_1,b0_2,b0_3,b0_4,b0_5,b0_6,()),()),())
theorem Jmt (a1:(List DEv)) (a6:Int) (b0_0:(List (ByteArray × DCe))) (b0_1:(List Bool)) (b0_2:(List Bool)) (b0_3:(List Int)) (b0_4:Int) (b0_5:Int) (b0_6:Int):JnY a1 a6 b0_0 b0_1 b0_2 b0_3 b0_4 b0_5 b0_6=(Jqn a1 a6 b0_0 b0_1 b0_2 b0_3 b0_4 b0_5 b0_6).bind (Sum.elim (fun x=>JnY x.1.1 x.1.2.2.1 x.2.1.1.1 x.2.1.1.2.1 x.2.1.1.2.2.1 x.2.1.1.2.2.2.1 x.2.1.1.2.2.2.2.1 x.2.1.1.2.2.2.2.2.1 x.2.1.1.2.2.2.2.2.2.1) some):=Qg _ _
def k15_3:Con:=⟨{ sl := [(1,.v (.l Qi)),(5,.p 0 0),(6,.v (.i .i64))],bx := [[.v (.l (.p .s Xe)),.v (.l .b),.v (.l .b),.v (.l (.i .u64)),.v (.i .u64),.v (.i .i64),.v (.i .u64)]] },(.exit 0 { sl := [],bx := [[.v (.l (.p .s Xe)),.v (.l .b),.v (.l .b),.v (.l (.i .u64)),.v (.i .u64),.v (.i .i64),.v (.i .u64)]] }),fun x=>JnY x.1.1 x.1.2.2.1 x.2.1.1.1 x.2.1.1.2.1 x.2.1.1.2.2.1 x.2.1.1.2.2.2.1 x.2.1.1.2.2.2.2.1 x.2.1.1.2.2.2.2.2.1 x.2.1.1.2.2.2.2.2.2.1⟩
theorem JrJ:Con.LOK Try.prog Try.f15.ntmps (Jbv Try.f15 3) k15_3:=lpX [(24,c24)] [] [] (fun x=>Jqn x.1.1 x.1.2.2.1 x.2.1.1.1 x.2.1.1.2.1 x.2.1.1.2.2.1 x.2.1.1.2.2.2.1 x.2.1.1.2.2.2.2.1 x.2.1.1.2.2.2.2.2.1 x.2.1.1.2.2.2.2.2.2.1) ⟨Jtx,trivial⟩ trivial
def F15 (a1:(List DEv)):Option ((ZSt × Unit) × Unit × Unit):=
 ((F21).bind fun y0=>((JnY a1 0 y0.1.1.1 y0.1.1.2.1 y0.1.1.2.2.1 y0.1.1.2.2.2.1 y0.1.1.2.2.2.2.1.1 y0.1.1.2.2.2.2.1.2.1 y0.1.1.2.2.2.2.2.1).bind fun y1=>(some (((y1.2.1.1.1,(y1.2.1.1.2.1,(y1.2.1.1.2.2.1,(y1.2.1.1.2.2.2.1,((y1.2.1.1.2.2.2.2.1,(y1.2.1.1.2.2.2.2.2.1,())),(y1.2.1.1.2.2.2.2.2.2.1,())))))),()),(),()))))
def c15:Con:=⟨{ sl := [(0,.ki .i64 3),(1,.v (.l Qi))] },(.ret { sl := [(0,.v (.p (.l (.p .s Xe)) (.p (.l .b) (.p (.l .b) (.p (.l (.i .u64)) (.p (.p (.i .u64) (.p (.i .i64) .u)) (.p (.i .u64) .u)))))))] }),fun x=>F15 x.1.2.1⟩
theorem c15_ok:Con.OK Try.prog 15 c15:=fnL [(21,c21),(24,c24)] [(3,k15_3)] [3] ⟨c21_ok,Jtx,trivial⟩ ⟨JrJ,trivial⟩ Try.func15
def F17 (a0:DCe) (a1:Bool) (a2:ZSt) (a3:ByteArray):Option ((Bool × Unit) × Unit × Unit):=
 ((F49 a2 a3).bind fun y0=>(bif (!(a1 == y0.1.2.1)) then (some ((false,()),(),())) else (bif (!a1) then (some ((true,()),(),())) else (bif (decide (0≤(y0.1.1:Int)∧(y0.1.1:Int)<(((a2.1).length:Nat):Int))) then (bif ((a0.1:Int) == ((a2.1).getD (y0.1.1:Int).toNat zKc).2.1) then (bif (decide (0≤(y0.1.1:Int)∧(y0.1.1:Int)<(((a2.1).length:Nat):Int))) then (bif (((Jke a0.2.1):ByteArray).toList == ((Jke ((a2.1).getD (y0.1.1:Int).toNat zKc).2.2.1):ByteArray).toList) then (bif (decide (0≤(y0.1.1:Int)∧(y0.1.1:Int)<(((a2.1).length:Nat):Int))) then ((F38 a0.2.2.1 (((a2.1).getD (y0.1.1:Int).toNat zKc).2.2.2.1)).bind fun y1=>(some (y1.1,(),()))) else none) else (some ((false,()),(),()))) else none) else (some ((false,()),(),()))) else none))))
def c17:Con:=⟨{ sl := [(0,.v Xe),(1,.v .b),(2,.v (.p (.l (.p .s Xe)) (.p (.l .b) (.p (.l .b) (.p (.l (.i .u64)) (.p (.p (.i .u64) (.p (.i .i64) .u)) (.p (.i .u64) .u))))))),(3,.v .s)] },(.ret { sl := [(0,.v .b)] }),fun x=>F17 x.1.1 x.1.2.1 x.1.2.2.1 x.1.2.2.2.1⟩
theorem Jty:Con.OK Try.prog 17 c17:=fnX [(38,c38),(49,c49)] ⟨c38_ok,Jl8,trivial⟩ Try.func17
def Jqm (a11:(List DEv)) (a15:Int) (b0_0:Int) (b0_1:Int) (b2_0:Int) (b2_1:Int) (b3_1:(List Bool)) (b3_2:(List Bool)) (b3_3:(List Int)) (b3_4:Int) (b3_5:Int) (b3_6:Int) (b5_0:(List (ByteArray × DCe))) (q0:(List DVn)) (q1:(List DVn)) (q2:(List DVn)) (q3:(List DVn)):Option (((Unit × ((List DEv) × (Unit × (Unit × (Int × Unit))))) × ((Int × (Int × Unit)) × (ZUt × ((Int × (Int × Unit)) × (ZFt × (ZMt × (ZKt × Unit)))))) × ZVt) ⊕ ((Int × Unit) × ((Int × (Int × Unit)) × (ZUt × ((Int × (Int × Unit)) × (ZFt × (ZMt × (ZKt × Unit)))))) × ZVt)):=
 (bif (decide ((a15:Int)<(((a11).length:Nat):Int))) then (bif (decide (0≤(a15:Int)∧(a15:Int)<(((a11).length:Nat):Int))) then ((F12 ((a11).getD (a15:Int).toNat zE)).bind fun y0=>((F14 (b0_0,(b0_1,())) y0.1.1).bind fun y1=>(bif (!y1.1.1) then (some (.inl (((),a11,(),(),(IntKind.wrap .i64 (a15+1)),()),((b0_0,b0_1,()),((),(),(),()),(b2_0,b2_1,()),((),b3_1,b3_2,b3_3,b3_4,b3_5,b3_6,()),((),(),(),(),(),()),(b5_0,()),()),(q0,q1,q2,q3,())))) else (some (.inr ((a15,()),((b0_0,b0_1,()),((),(),(),()),(b2_0,b2_1,()),((),b3_1,b3_2,b3_3,b3_4,b3_5,b3_6,()),((),(),(),(),(),()),(b5_0,()),()),(q0,q1,q2,q3,()))))))) else none) else (some (.inr ((a15,()),((b0_0,b0_1,()),((),(),(),()),(b2_0,b2_1,()),((),b3_1,b3_2,b3_3,b3_4,b3_5,b3_6,()),((),(),(),(),(),()),(b5_0,()),()),(q0,q1,q2,q3,())))))
def Jez (a11:(List DEv)) (a15:Int) (b0_0:Int) (b0_1:Int) (b2_0:Int) (b2_1:Int) (b3_1:(List Bool)) (b3_2:(List Bool)) (b3_3:(List Int)) (b3_4:Int) (b3_5:Int) (b3_6:Int) (b5_0:(List (ByteArray × DCe))) (q0:(List DVn)) (q1:(List DVn)) (q2:(List DVn)) (q3:(List DVn)):Option ((Int × Unit) × ((Int × (Int × Unit)) × (ZUt × ((Int × (Int × Unit)) × (ZFt × (ZMt × (ZKt × Unit)))))) × ZVt):=Q4 (fun x:((Unit × ((List DEv) × (Unit × (Unit × (Int × Unit))))) × ((Int × (Int × Unit)) × (ZUt × ((Int × (Int × Unit)) × (ZFt × (ZMt × (ZKt × Unit)))))) × ZVt)=>Jqm x.1.2.1 x.1.2.2.2.2.1 x.2.1.1.1 x.2.1.1.2.1 x.2.1.2.2.1.1 x.2.1.2.2.1.2.1 x.2.1.2.2.2.1.2.1 x.2.1.2.2.2.1.2.2.1 x.2.1.2.2.2.1.2.2.2.1 x.2.1.2.2.2.1.2.2.2.2.1 x.2.1.2.2.2.1.2.2.2.2.2.1 x.2.1.2.2.2.1.2.2.2.2.2.2.1 x.2.1.2.2.2.2.2.1.1 x.2.2.1 x.2.2.2.1 x.2.2.2.2.1 x.2.2.2.2.2.1) (((),a11,(),(),a15,()),((b0_0,b0_1,()),((),(),(),()),(b2_0,b2_1,()),((),b3_1,b3_2,b3_3,b3_4,b3_5,b3_6,()),((),(),(),(),(),()),(b5_0,()),()),(q0,q1,q2,q3,()))
theorem Jms (a11:(List DEv)) (a15:Int) (b0_0:Int) (b0_1:Int) (b2_0:Int) (b2_1:Int) (b3_1:(List Bool)) (b3_2:(List Bool)) (b3_3:(List Int)) (b3_4:Int) (b3_5:Int) (b3_6:Int) (b5_0:(List (ByteArray × DCe))) (q0:(List DVn)) (q1:(List DVn)) (q2:(List DVn)) (q3:(List DVn)):Jez a11 a15 b0_0 b0_1 b2_0 b2_1 b3_1 b3_2 b3_3 b3_4 b3_5 b3_6 b5_0 q0 q1 q2 q3=(Jqm a11 a15 b0_0 b0_1 b2_0 b2_1 b3_1 b3_2 b3_3 b3_4 b3_5 b3_6 b5_0 q0 q1 q2 q3).bind (Sum.elim (fun x=>Jez x.1.2.1 x.1.2.2.2.2.1 x.2.1.1.1 x.2.1.1.2.1 x.2.1.2.2.1.1 x.2.1.2.2.1.2.1 x.2.1.2.2.2.1.2.1 x.2.1.2.2.2.1.2.2.1 x.2.1.2.2.2.1.2.2.2.1 x.2.1.2.2.2.1.2.2.2.2.1 x.2.1.2.2.2.1.2.2.2.2.2.1 x.2.1.2.2.2.1.2.2.2.2.2.2.1 x.2.1.2.2.2.2.2.1.1 x.2.2.1 x.2.2.2.1 x.2.2.2.2.1 x.2.2.2.2.2.1) some):=Qg _ _
def k3_14:Con:=⟨{ sl := [(8,.p 0 0),(11,.v (.l Qi)),(13,.p 1 0),(14,.p 2 0),(15,.v (.i .i64))],bx := [[.v (.i .u64),.v (.i .i64)], [.p 3 0,.x,.mv 4], [.v (.i .u64),.v (.i .i64)], [.mv 5,.sg 64 .b,.sg 64 .b,.v (.l (.i .u64)),.v (.i .u64),.v (.i .i64),.v (.i .u64)], [.mt [(⟨#[97]⟩:ByteArray),(⟨#[98]⟩:ByteArray),(⟨#[99]⟩:ByteArray),(⟨#[100]⟩:ByteArray)],.o 0,.o 1,.o 2,.o 3], [.ms Xe]],bf := [Xy,Xy,Xy,Xy] },(.exit 0 { sl := [(15,.v (.i .i64))],bx := [[.v (.i .u64),.v (.i .i64)], [.p 3 0,.x,.mv 4], [.v (.i .u64),.v (.i .i64)], [.mv 5,.sg 64 .b,.sg 64 .b,.v (.l (.i .u64)),.v (.i .u64),.v (.i .i64),.v (.i .u64)], [.mt [(⟨#[97]⟩:ByteArray),(⟨#[98]⟩:ByteArray),(⟨#[99]⟩:ByteArray),(⟨#[100]⟩:ByteArray)],.o 0,.o 1,.o 2,.o 3], [.ms Xe]],bf := [Xy,Xy,Xy,Xy] }),fun x=>Jez x.1.2.1 x.1.2.2.2.2.1 x.2.1.1.1 x.2.1.1.2.1 x.2.1.2.2.1.1 x.2.1.2.2.1.2.1 x.2.1.2.2.2.1.2.1 x.2.1.2.2.2.1.2.2.1 x.2.1.2.2.2.1.2.2.2.1 x.2.1.2.2.2.1.2.2.2.2.1 x.2.1.2.2.2.1.2.2.2.2.2.1 x.2.1.2.2.2.1.2.2.2.2.2.2.1 x.2.1.2.2.2.2.2.1.1 x.2.2.1 x.2.2.2.1 x.2.2.2.2.1 x.2.2.2.2.2.1⟩
theorem JrI:Con.LOK Try.prog Try.f3.ntmps (Jbv Try.f3 14) k3_14:=lpX [(12,c12),(14,c14)] [] [] (fun x=>Jqm x.1.2.1 x.1.2.2.2.2.1 x.2.1.1.1 x.2.1.1.2.1 x.2.1.2.2.1.1 x.2.1.2.2.1.2.1 x.2.1.2.2.2.1.2.1 x.2.1.2.2.2.1.2.2.1 x.2.1.2.2.2.1.2.2.2.1 x.2.1.2.2.2.1.2.2.2.2.1 x.2.1.2.2.2.1.2.2.2.2.2.1 x.2.1.2.2.2.1.2.2.2.2.2.2.1 x.2.1.2.2.2.2.2.1.1 x.2.2.1 x.2.2.2.1 x.2.2.2.2.1 x.2.2.2.2.2.1) ⟨Jl9,Jjj,trivial⟩ trivial
def Jql (a17:Int) (b0_0:Int) (b0_1:Int) (b2_0:Int) (b2_1:Int) (b3_0:(List (ByteArray × DCe))) (b3_1:(List Bool)) (b3_2:(List Bool)) (b3_3:(List Int)) (b3_4:Int) (b3_5:Int) (b3_6:Int) (b4_1:(List Bool)) (b4_2:(List Bool)) (b4_3:(List Int)) (b4_4:Int) (b4_5:Int) (b4_6:Int) (b6_0:(List (ByteArray × DCe))) (q0:(List DVn)) (q1:(List DVn)) (q2:(List DVn)) (q3:(List DVn)):Option (((Unit × (Unit × (Unit × (Unit × (Int × Unit))))) × ((Int × (Int × Unit)) × (ZUt × ((Int × (Int × Unit)) × (ZRt × (ZFt × (ZMt × (ZKt × Unit))))))) × ZVt) ⊕ (((Bool × Unit) × ((Int × (Int × Unit)) × (ZUt × ((Int × (Int × Unit)) × (ZRt × (ZFt × (ZMt × (ZKt × Unit))))))) × ZVt) ⊕ (Unit × ((Int × (Int × Unit)) × (ZUt × ((Int × (Int × Unit)) × (ZRt × (ZFt × (ZMt × (ZKt × Unit))))))) × ZVt))):=
 (bif (decide ((a17:Int)<6)) then ((F16 (Jke [(IntKind.wrap .u8 (97+(IntKind.wrap .u8 a17)))]) (b0_0,(b0_1,())) b4_1 b4_2 b4_3 b4_4 b4_5 b4_6 b6_0 q0 q1 q2 q3).bind fun y0=>((F14 (b0_0,(b0_1,())) (b2_0,(b2_1,()))).bind fun y1=>(bif y1.1.1 then (bif ((y0.1.2.2.1:Int) != 13) then (some (.inr (.inl ((false,()),((b0_0,b0_1,()),((),(),(),()),(b2_0,b2_1,()),(b3_0,b3_1,b3_2,b3_3,b3_4,b3_5,b3_6,()),y0.2.1.2.1,((),(),(),(),(),()),y0.2.1.2.2.2.1,()),y0.2.2)))) else (bif y0.1.2.1 then (some (.inr (.inl ((false,()),((b0_0,b0_1,()),((),(),(),()),(b2_0,b2_1,()),(b3_0,b3_1,b3_2,b3_3,b3_4,b3_5,b3_6,()),y0.2.1.2.1,((),(),(),(),(),()),y0.2.1.2.2.2.1,()),y0.2.2)))) else (some (.inl (((),(),(),(),(IntKind.wrap .i64 (a17+1)),()),((b0_0,b0_1,()),((),(),(),()),(b2_0,b2_1,()),(b3_0,b3_1,b3_2,b3_3,b3_4,b3_5,b3_6,()),y0.2.1.2.1,((),(),(),(),(),()),y0.2.1.2.2.2.1,()),y0.2.2))))) else (bif ((y0.1.2.2.1:Int) != 0) then (some (.inr (.inl ((false,()),((b0_0,b0_1,()),((),(),(),()),(b2_0,b2_1,()),(b3_0,b3_1,b3_2,b3_3,b3_4,b3_5,b3_6,()),y0.2.1.2.1,((),(),(),(),(),()),y0.2.1.2.2.2.1,()),y0.2.2)))) else ((F17 y0.1.1 y0.1.2.1 (b3_0,(b3_1,(b3_2,(b3_3,((b3_4,(b3_5,())),(b3_6,())))))) (Jke [(IntKind.wrap .u8 (97+(IntKind.wrap .u8 a17)))])).bind fun y2=>(bif (!y2.1.1) then (some (.inr (.inl ((false,()),((b0_0,b0_1,()),((),(),(),()),(b2_0,b2_1,()),(b3_0,b3_1,b3_2,b3_3,b3_4,b3_5,b3_6,()),y0.2.1.2.1,((),(),(),(),(),()),y0.2.1.2.2.2.1,()),y0.2.2)))) else (some (.inl (((),(),(),(),(IntKind.wrap .i64 (a17+1)),()),((b0_0,b0_1,()),((),(),(),()),(b2_0,b2_1,()),(b3_0,b3_1,b3_2,b3_3,b3_4,b3_5,b3_6,()),y0.2.1.2.1,((),(),(),(),(),()),y0.2.1.2.2.2.1,()),y0.2.2))))))))) else (some (.inr (.inr ((),((b0_0,b0_1,()),((),(),(),()),(b2_0,b2_1,()),(b3_0,b3_1,b3_2,b3_3,b3_4,b3_5,b3_6,()),((),b4_1,b4_2,b4_3,b4_4,b4_5,b4_6,()),((),(),(),(),(),()),(b6_0,()),()),(q0,q1,q2,q3,()))))))
def Jey (a17:Int) (b0_0:Int) (b0_1:Int) (b2_0:Int) (b2_1:Int) (b3_0:(List (ByteArray × DCe))) (b3_1:(List Bool)) (b3_2:(List Bool)) (b3_3:(List Int)) (b3_4:Int) (b3_5:Int) (b3_6:Int) (b4_1:(List Bool)) (b4_2:(List Bool)) (b4_3:(List Int)) (b4_4:Int) (b4_5:Int) (b4_6:Int) (b6_0:(List (ByteArray × DCe))) (q0:(List DVn)) (q1:(List DVn)) (q2:(List DVn)) (q3:(List DVn)):Option (((Bool × Unit) × ((Int × (Int × Unit)) × (ZUt × ((Int × (Int × Unit)) × (ZRt × (ZFt × (ZMt × (ZKt × Unit))))))) × ZVt) ⊕ (Unit × ((Int × (Int × Unit)) × (ZUt × ((Int × (Int × Unit)) × (ZRt × (ZFt × (ZMt × (ZKt × Unit))))))) × ZVt)):=Q4 (fun x:((Unit × (Unit × (Unit × (Unit × (Int × Unit))))) × ((Int × (Int × Unit)) × (ZUt × ((Int × (Int × Unit)) × (ZRt × (ZFt × (ZMt × (ZKt × Unit))))))) × ZVt)=>Jql x.1.2.2.2.2.1 x.2.1.1.1 x.2.1.1.2.1 x.2.1.2.2.1.1 x.2.1.2.2.1.2.1 x.2.1.2.2.2.1.1 x.2.1.2.2.2.1.2.1 x.2.1.2.2.2.1.2.2.1 x.2.1.2.2.2.1.2.2.2.1 x.2.1.2.2.2.1.2.2.2.2.1 x.2.1.2.2.2.1.2.2.2.2.2.1 x.2.1.2.2.2.1.2.2.2.2.2.2.1 x.2.1.2.2.2.2.1.2.1 x.2.1.2.2.2.2.1.2.2.1 x.2.1.2.2.2.2.1.2.2.2.1 x.2.1.2.2.2.2.1.2.2.2.2.1 x.2.1.2.2.2.2.1.2.2.2.2.2.1 x.2.1.2.2.2.2.1.2.2.2.2.2.2.1 x.2.1.2.2.2.2.2.2.1.1 x.2.2.1 x.2.2.2.1 x.2.2.2.2.1 x.2.2.2.2.2.1) (((),(),(),(),a17,()),((b0_0,b0_1,()),((),(),(),()),(b2_0,b2_1,()),(b3_0,b3_1,b3_2,b3_3,b3_4,b3_5,b3_6,()),((),b4_1,b4_2,b4_3,b4_4,b4_5,b4_6,()),((),(),(),(),(),()),(b6_0,()),()),(q0,q1,q2,q3,()))
theorem Jmr (a17:Int) (b0_0:Int) (b0_1:Int) (b2_0:Int) (b2_1:Int) (b3_0:(List (ByteArray × DCe))) (b3_1:(List Bool)) (b3_2:(List Bool)) (b3_3:(List Int)) (b3_4:Int) (b3_5:Int) (b3_6:Int) (b4_1:(List Bool)) (b4_2:(List Bool)) (b4_3:(List Int)) (b4_4:Int) (b4_5:Int) (b4_6:Int) (b6_0:(List (ByteArray × DCe))) (q0:(List DVn)) (q1:(List DVn)) (q2:(List DVn)) (q3:(List DVn)):Jey a17 b0_0 b0_1 b2_0 b2_1 b3_0 b3_1 b3_2 b3_3 b3_4 b3_5 b3_6 b4_1 b4_2 b4_3 b4_4 b4_5 b4_6 b6_0 q0 q1 q2 q3=(Jql a17 b0_0 b0_1 b2_0 b2_1 b3_0 b3_1 b3_2 b3_3 b3_4 b3_5 b3_6 b4_1 b4_2 b4_3 b4_4 b4_5 b4_6 b6_0 q0 q1 q2 q3).bind (Sum.elim (fun x=>Jey x.1.2.2.2.2.1 x.2.1.1.1 x.2.1.1.2.1 x.2.1.2.2.1.1 x.2.1.2.2.1.2.1 x.2.1.2.2.2.1.1 x.2.1.2.2.2.1.2.1 x.2.1.2.2.2.1.2.2.1 x.2.1.2.2.2.1.2.2.2.1 x.2.1.2.2.2.1.2.2.2.2.1 x.2.1.2.2.2.1.2.2.2.2.2.1 x.2.1.2.2.2.1.2.2.2.2.2.2.1 x.2.1.2.2.2.2.1.2.1 x.2.1.2.2.2.2.1.2.2.1 x.2.1.2.2.2.2.1.2.2.2.1 x.2.1.2.2.2.2.1.2.2.2.2.1 x.2.1.2.2.2.2.1.2.2.2.2.2.1 x.2.1.2.2.2.2.1.2.2.2.2.2.2.1 x.2.1.2.2.2.2.2.2.1.1 x.2.2.1 x.2.2.2.1 x.2.2.2.2.1 x.2.2.2.2.2.1) some):=Qg _ _
def k3_18:Con:=⟨{ sl := [(8,.p 0 0),(13,.p 1 0),(14,.p 2 0),(16,.p 3 0),(17,.v (.i .i64))],bx := [[.v (.i .u64),.v (.i .i64)], [.p 4 0,.x,.mv 5], [.v (.i .u64),.v (.i .i64)], [.v (.l (.p .s Xe)),.v (.l .b),.v (.l .b),.v (.l (.i .u64)),.v (.i .u64),.v (.i .i64),.v (.i .u64)], [.mv 6,.sg 64 .b,.sg 64 .b,.v (.l (.i .u64)),.v (.i .u64),.v (.i .i64),.v (.i .u64)], [.mt [(⟨#[97]⟩:ByteArray),(⟨#[98]⟩:ByteArray),(⟨#[99]⟩:ByteArray),(⟨#[100]⟩:ByteArray)],.o 0,.o 1,.o 2,.o 3], [.ms Xe]],bf := [Xy,Xy,Xy,Xy] },(.two (.ret { sl := [(10,.v .b)],bx := [[.v (.i .u64),.v (.i .i64)], [.p 4 0,.x,.mv 5], [.v (.i .u64),.v (.i .i64)], [.v (.l (.p .s Xe)),.v (.l .b),.v (.l .b),.v (.l (.i .u64)),.v (.i .u64),.v (.i .i64),.v (.i .u64)], [.mv 6,.sg 64 .b,.sg 64 .b,.v (.l (.i .u64)),.v (.i .u64),.v (.i .i64),.v (.i .u64)], [.mt [(⟨#[97]⟩:ByteArray),(⟨#[98]⟩:ByteArray),(⟨#[99]⟩:ByteArray),(⟨#[100]⟩:ByteArray)],.o 0,.o 1,.o 2,.o 3], [.ms Xe]],bf := [Xy,Xy,Xy,Xy] }) (.exit 2 { sl := [],bx := [[.v (.i .u64),.v (.i .i64)], [.p 4 0,.x,.mv 5], [.v (.i .u64),.v (.i .i64)], [.v (.l (.p .s Xe)),.v (.l .b),.v (.l .b),.v (.l (.i .u64)),.v (.i .u64),.v (.i .i64),.v (.i .u64)], [.mv 6,.sg 64 .b,.sg 64 .b,.v (.l (.i .u64)),.v (.i .u64),.v (.i .i64),.v (.i .u64)], [.mt [(⟨#[97]⟩:ByteArray),(⟨#[98]⟩:ByteArray),(⟨#[99]⟩:ByteArray),(⟨#[100]⟩:ByteArray)],.o 0,.o 1,.o 2,.o 3], [.ms Xe]],bf := [Xy,Xy,Xy,Xy] })),fun x=>Jey x.1.2.2.2.2.1 x.2.1.1.1 x.2.1.1.2.1 x.2.1.2.2.1.1 x.2.1.2.2.1.2.1 x.2.1.2.2.2.1.1 x.2.1.2.2.2.1.2.1 x.2.1.2.2.2.1.2.2.1 x.2.1.2.2.2.1.2.2.2.1 x.2.1.2.2.2.1.2.2.2.2.1 x.2.1.2.2.2.1.2.2.2.2.2.1 x.2.1.2.2.2.1.2.2.2.2.2.2.1 x.2.1.2.2.2.2.1.2.1 x.2.1.2.2.2.2.1.2.2.1 x.2.1.2.2.2.2.1.2.2.2.1 x.2.1.2.2.2.2.1.2.2.2.2.1 x.2.1.2.2.2.2.1.2.2.2.2.2.1 x.2.1.2.2.2.2.1.2.2.2.2.2.2.1 x.2.1.2.2.2.2.2.2.1.1 x.2.2.1 x.2.2.2.1 x.2.2.2.2.1 x.2.2.2.2.2.1⟩
theorem JrH:Con.LOK Try.prog Try.f3.ntmps (Jbv Try.f3 18) k3_18:=lpX [(14,c14),(16,c16),(17,c17)] [] [] (fun x=>Jql x.1.2.2.2.2.1 x.2.1.1.1 x.2.1.1.2.1 x.2.1.2.2.1.1 x.2.1.2.2.1.2.1 x.2.1.2.2.2.1.1 x.2.1.2.2.2.1.2.1 x.2.1.2.2.2.1.2.2.1 x.2.1.2.2.2.1.2.2.2.1 x.2.1.2.2.2.1.2.2.2.2.1 x.2.1.2.2.2.1.2.2.2.2.2.1 x.2.1.2.2.2.1.2.2.2.2.2.2.1 x.2.1.2.2.2.2.1.2.1 x.2.1.2.2.2.2.1.2.2.1 x.2.1.2.2.2.2.1.2.2.2.1 x.2.1.2.2.2.2.1.2.2.2.2.1 x.2.1.2.2.2.2.1.2.2.2.2.2.1 x.2.1.2.2.2.2.1.2.2.2.2.2.2.1 x.2.1.2.2.2.2.2.2.1.1 x.2.2.1 x.2.2.2.1 x.2.2.2.2.1 x.2.2.2.2.2.1) ⟨Jjj,Jtz,Jty,trivial⟩ trivial
def F3 (a0:(List Int)) (a1:Int) (a2:Int) (a3:(Int × (Int × Unit))) (a4:Bool):Option ((Bool × Unit) × Unit × Unit):=
 ((F8).bind fun y0=>(bif (!y0.1.1) then ((F8).bind fun y1=>(some (y1.1,(),()))) else (bif (decide (((((a0).length:Nat):Int):Int) > 50)) then ((F8).bind fun y2=>(some (y2.1,(),()))) else ((F10t a0).bind fun y3=>((F9 y3.1.1).bind fun y4=>(bif (decide (((IntKind.wrap .i64 ((((y4.1.1).length:Nat):Int)+1)):Int)≠0)) then ((F11 y4.1.1 (((IntKind.wrap .i64 a1):Int).tmod (IntKind.wrap .i64 ((((y4.1.1).length:Nat):Int)+1)))).bind fun y5=>(bif a4 then (bif (decide (((((y4.1.1).length:Nat):Int):Int) > 0)) then (bif (decide (((((y4.1.1).length:Nat):Int):Int)≠0)) then (bif (decide (0≤((((IntKind.wrap .i64 a2):Int).tmod (((y4.1.1).length:Nat):Int)):Int)∧((((IntKind.wrap .i64 a2):Int).tmod (((y4.1.1).length:Nat):Int)):Int)<(((y4.1.1).length:Nat):Int))) then ((F12 ((y4.1.1).getD ((((IntKind.wrap .i64 a2):Int).tmod (((y4.1.1).length:Nat):Int)):Int).toNat zE)).bind fun y6=>(bif (decide (((((IntKind.wrap .i64 a1):Int).tmod (IntKind.wrap .i64 ((((y4.1.1).length:Nat):Int)+1))):Int) > 0)) then (bif (decide (0≤((IntKind.wrap .i64 ((((IntKind.wrap .i64 a1):Int).tmod (IntKind.wrap .i64 ((((y4.1.1).length:Nat):Int)+1))) - 1)):Int)∧((IntKind.wrap .i64 ((((IntKind.wrap .i64 a1):Int).tmod (IntKind.wrap .i64 ((((y4.1.1).length:Nat):Int)+1))) - 1)):Int)<(((y4.1.1).length:Nat):Int))) then ((F12 ((y4.1.1).getD ((IntKind.wrap .i64 ((((IntKind.wrap .i64 a1):Int).tmod (IntKind.wrap .i64 ((((y4.1.1).length:Nat):Int)+1))) - 1)):Int).toNat zE)).bind fun y7=>((F13 y5.2.1.2.1.2.1 y5.2.1.2.1.2.2.1 y5.2.1.2.1.2.2.2.1 y5.2.1.2.1.2.2.2.2.1 y5.2.1.2.1.2.2.2.2.2.1 y5.2.1.2.1.2.2.2.2.2.2.1 y5.2.1.2.2.2.1.1 y5.2.2.1 y5.2.2.2.1 y5.2.2.2.2.1 y5.2.2.2.2.2.1).bind fun y8=>(bif (!(((y8.1.1.1:Int) == y7.1.1.1) && ((y8.1.1.2.1:Int) == y7.1.1.2.1))) then (some ((false,()),(),())) else ((Jez y4.1.1 0 y6.1.1.1 y6.1.1.2.1 y7.1.1.1 y7.1.1.2.1 y8.2.1.2.1.2.1 y8.2.1.2.1.2.2.1 y8.2.1.2.1.2.2.2.1 y8.2.1.2.1.2.2.2.2.1 y8.2.1.2.1.2.2.2.2.2.1 y8.2.1.2.1.2.2.2.2.2.2.1 y8.2.1.2.2.2.1.1 y8.2.2.1 y8.2.2.2.1 y8.2.2.2.2.1 y8.2.2.2.2.2.1).bind fun y9=>(bif (decide (0≤(y9.1.1:Int)∧(y9.1.1:Int)≤(((y4.1.1).length:Nat):Int))) then ((F15 ((y4.1.1).take (y9.1.1:Int).toNat)).bind fun y10=>((Jey 0 y9.2.1.1.1 y9.2.1.1.2.1 y9.2.1.2.2.1.1 y9.2.1.2.2.1.2.1 y10.1.1.1 y10.1.1.2.1 y10.1.1.2.2.1 y10.1.1.2.2.2.1 y10.1.1.2.2.2.2.1.1 y10.1.1.2.2.2.2.1.2.1 y10.1.1.2.2.2.2.2.1 y9.2.1.2.2.2.1.2.1 y9.2.1.2.2.2.1.2.2.1 y9.2.1.2.2.2.1.2.2.2.1 y9.2.1.2.2.2.1.2.2.2.2.1 y9.2.1.2.2.2.1.2.2.2.2.2.1 y9.2.1.2.2.2.1.2.2.2.2.2.2.1 y9.2.1.2.2.2.2.2.1.1 y9.2.2.1 y9.2.2.2.1 y9.2.2.2.2.1 y9.2.2.2.2.2.1).bind fun y11=>(Sum.elim (fun y12=>(some (y12.1,(),()))) (fun y12=>(some ((true,()),(),()))) y11))) else none))))) else none) else ((F13 y5.2.1.2.1.2.1 y5.2.1.2.1.2.2.1 y5.2.1.2.1.2.2.2.1 y5.2.1.2.1.2.2.2.2.1 y5.2.1.2.1.2.2.2.2.2.1 y5.2.1.2.1.2.2.2.2.2.2.1 y5.2.1.2.2.2.1.1 y5.2.2.1 y5.2.2.2.1 y5.2.2.2.2.1 y5.2.2.2.2.2.1).bind fun y13=>(bif (!(((y13.1.1.1:Int) == 0) && ((y13.1.1.2.1:Int) == 0))) then (some ((false,()),(),())) else ((Jez y4.1.1 0 y6.1.1.1 y6.1.1.2.1 0 0 y13.2.1.2.1.2.1 y13.2.1.2.1.2.2.1 y13.2.1.2.1.2.2.2.1 y13.2.1.2.1.2.2.2.2.1 y13.2.1.2.1.2.2.2.2.2.1 y13.2.1.2.1.2.2.2.2.2.2.1 y13.2.1.2.2.2.1.1 y13.2.2.1 y13.2.2.2.1 y13.2.2.2.2.1 y13.2.2.2.2.2.1).bind fun y14=>(bif (decide (0≤(y14.1.1:Int)∧(y14.1.1:Int)≤(((y4.1.1).length:Nat):Int))) then ((F15 ((y4.1.1).take (y14.1.1:Int).toNat)).bind fun y15=>((Jey 0 y14.2.1.1.1 y14.2.1.1.2.1 y14.2.1.2.2.1.1 y14.2.1.2.2.1.2.1 y15.1.1.1 y15.1.1.2.1 y15.1.1.2.2.1 y15.1.1.2.2.2.1 y15.1.1.2.2.2.2.1.1 y15.1.1.2.2.2.2.1.2.1 y15.1.1.2.2.2.2.2.1 y14.2.1.2.2.2.1.2.1 y14.2.1.2.2.2.1.2.2.1 y14.2.1.2.2.2.1.2.2.2.1 y14.2.1.2.2.2.1.2.2.2.2.1 y14.2.1.2.2.2.1.2.2.2.2.2.1 y14.2.1.2.2.2.1.2.2.2.2.2.2.1 y14.2.1.2.2.2.2.2.1.1 y14.2.2.1 y14.2.2.2.1 y14.2.2.2.2.1 y14.2.2.2.2.2.1).bind fun y16=>(Sum.elim (fun y17=>(some (y17.1,(),()))) (fun y17=>(some ((true,()),(),()))) y16))) else none)))))) else none) else none) else (bif (decide (((((IntKind.wrap .i64 a1):Int).tmod (IntKind.wrap .i64 ((((y4.1.1).length:Nat):Int)+1))):Int) > 0)) then (bif (decide (0≤((IntKind.wrap .i64 ((((IntKind.wrap .i64 a1):Int).tmod (IntKind.wrap .i64 ((((y4.1.1).length:Nat):Int)+1))) - 1)):Int)∧((IntKind.wrap .i64 ((((IntKind.wrap .i64 a1):Int).tmod (IntKind.wrap .i64 ((((y4.1.1).length:Nat):Int)+1))) - 1)):Int)<(((y4.1.1).length:Nat):Int))) then ((F12 ((y4.1.1).getD ((IntKind.wrap .i64 ((((IntKind.wrap .i64 a1):Int).tmod (IntKind.wrap .i64 ((((y4.1.1).length:Nat):Int)+1))) - 1)):Int).toNat zE)).bind fun y18=>((F13 y5.2.1.2.1.2.1 y5.2.1.2.1.2.2.1 y5.2.1.2.1.2.2.2.1 y5.2.1.2.1.2.2.2.2.1 y5.2.1.2.1.2.2.2.2.2.1 y5.2.1.2.1.2.2.2.2.2.2.1 y5.2.1.2.2.2.1.1 y5.2.2.1 y5.2.2.2.1 y5.2.2.2.2.1 y5.2.2.2.2.2.1).bind fun y19=>(bif (!(((y19.1.1.1:Int) == y18.1.1.1) && ((y19.1.1.2.1:Int) == y18.1.1.2.1))) then (some ((false,()),(),())) else ((Jez y4.1.1 0 a3.1 a3.2.1 y18.1.1.1 y18.1.1.2.1 y19.2.1.2.1.2.1 y19.2.1.2.1.2.2.1 y19.2.1.2.1.2.2.2.1 y19.2.1.2.1.2.2.2.2.1 y19.2.1.2.1.2.2.2.2.2.1 y19.2.1.2.1.2.2.2.2.2.2.1 y19.2.1.2.2.2.1.1 y19.2.2.1 y19.2.2.2.1 y19.2.2.2.2.1 y19.2.2.2.2.2.1).bind fun y20=>(bif (decide (0≤(y20.1.1:Int)∧(y20.1.1:Int)≤(((y4.1.1).length:Nat):Int))) then ((F15 ((y4.1.1).take (y20.1.1:Int).toNat)).bind fun y21=>((Jey 0 y20.2.1.1.1 y20.2.1.1.2.1 y20.2.1.2.2.1.1 y20.2.1.2.2.1.2.1 y21.1.1.1 y21.1.1.2.1 y21.1.1.2.2.1 y21.1.1.2.2.2.1 y21.1.1.2.2.2.2.1.1 y21.1.1.2.2.2.2.1.2.1 y21.1.1.2.2.2.2.2.1 y20.2.1.2.2.2.1.2.1 y20.2.1.2.2.2.1.2.2.1 y20.2.1.2.2.2.1.2.2.2.1 y20.2.1.2.2.2.1.2.2.2.2.1 y20.2.1.2.2.2.1.2.2.2.2.2.1 y20.2.1.2.2.2.1.2.2.2.2.2.2.1 y20.2.1.2.2.2.2.2.1.1 y20.2.2.1 y20.2.2.2.1 y20.2.2.2.2.1 y20.2.2.2.2.2.1).bind fun y22=>(Sum.elim (fun y23=>(some (y23.1,(),()))) (fun y23=>(some ((true,()),(),()))) y22))) else none))))) else none) else ((F13 y5.2.1.2.1.2.1 y5.2.1.2.1.2.2.1 y5.2.1.2.1.2.2.2.1 y5.2.1.2.1.2.2.2.2.1 y5.2.1.2.1.2.2.2.2.2.1 y5.2.1.2.1.2.2.2.2.2.2.1 y5.2.1.2.2.2.1.1 y5.2.2.1 y5.2.2.2.1 y5.2.2.2.2.1 y5.2.2.2.2.2.1).bind fun y24=>(bif (!(((y24.1.1.1:Int) == 0) && ((y24.1.1.2.1:Int) == 0))) then (some ((false,()),(),())) else ((Jez y4.1.1 0 a3.1 a3.2.1 0 0 y24.2.1.2.1.2.1 y24.2.1.2.1.2.2.1 y24.2.1.2.1.2.2.2.1 y24.2.1.2.1.2.2.2.2.1 y24.2.1.2.1.2.2.2.2.2.1 y24.2.1.2.1.2.2.2.2.2.2.1 y24.2.1.2.2.2.1.1 y24.2.2.1 y24.2.2.2.1 y24.2.2.2.2.1 y24.2.2.2.2.2.1).bind fun y25=>(bif (decide (0≤(y25.1.1:Int)∧(y25.1.1:Int)≤(((y4.1.1).length:Nat):Int))) then ((F15 ((y4.1.1).take (y25.1.1:Int).toNat)).bind fun y26=>((Jey 0 y25.2.1.1.1 y25.2.1.1.2.1 y25.2.1.2.2.1.1 y25.2.1.2.2.1.2.1 y26.1.1.1 y26.1.1.2.1 y26.1.1.2.2.1 y26.1.1.2.2.2.1 y26.1.1.2.2.2.2.1.1 y26.1.1.2.2.2.2.1.2.1 y26.1.1.2.2.2.2.2.1 y25.2.1.2.2.2.1.2.1 y25.2.1.2.2.2.1.2.2.1 y25.2.1.2.2.2.1.2.2.2.1 y25.2.1.2.2.2.1.2.2.2.2.1 y25.2.1.2.2.2.1.2.2.2.2.2.1 y25.2.1.2.2.2.1.2.2.2.2.2.2.1 y25.2.1.2.2.2.2.2.1.1 y25.2.2.1 y25.2.2.2.1 y25.2.2.2.2.1 y25.2.2.2.2.2.1).bind fun y27=>(Sum.elim (fun y28=>(some (y28.1,(),()))) (fun y28=>(some ((true,()),(),()))) y27))) else none)))))) else (bif (decide (((((IntKind.wrap .i64 a1):Int).tmod (IntKind.wrap .i64 ((((y4.1.1).length:Nat):Int)+1))):Int) > 0)) then (bif (decide (0≤((IntKind.wrap .i64 ((((IntKind.wrap .i64 a1):Int).tmod (IntKind.wrap .i64 ((((y4.1.1).length:Nat):Int)+1))) - 1)):Int)∧((IntKind.wrap .i64 ((((IntKind.wrap .i64 a1):Int).tmod (IntKind.wrap .i64 ((((y4.1.1).length:Nat):Int)+1))) - 1)):Int)<(((y4.1.1).length:Nat):Int))) then ((F12 ((y4.1.1).getD ((IntKind.wrap .i64 ((((IntKind.wrap .i64 a1):Int).tmod (IntKind.wrap .i64 ((((y4.1.1).length:Nat):Int)+1))) - 1)):Int).toNat zE)).bind fun y29=>((F13 y5.2.1.2.1.2.1 y5.2.1.2.1.2.2.1 y5.2.1.2.1.2.2.2.1 y5.2.1.2.1.2.2.2.2.1 y5.2.1.2.1.2.2.2.2.2.1 y5.2.1.2.1.2.2.2.2.2.2.1 y5.2.1.2.2.2.1.1 y5.2.2.1 y5.2.2.2.1 y5.2.2.2.2.1 y5.2.2.2.2.2.1).bind fun y30=>(bif (!(((y30.1.1.1:Int) == y29.1.1.1) && ((y30.1.1.2.1:Int) == y29.1.1.2.1))) then (some ((false,()),(),())) else ((Jez y4.1.1 0 a3.1 a3.2.1 y29.1.1.1 y29.1.1.2.1 y30.2.1.2.1.2.1 y30.2.1.2.1.2.2.1 y30.2.1.2.1.2.2.2.1 y30.2.1.2.1.2.2.2.2.1 y30.2.1.2.1.2.2.2.2.2.1 y30.2.1.2.1.2.2.2.2.2.2.1 y30.2.1.2.2.2.1.1 y30.2.2.1 y30.2.2.2.1 y30.2.2.2.2.1 y30.2.2.2.2.2.1).bind fun y31=>(bif (decide (0≤(y31.1.1:Int)∧(y31.1.1:Int)≤(((y4.1.1).length:Nat):Int))) then ((F15 ((y4.1.1).take (y31.1.1:Int).toNat)).bind fun y32=>((Jey 0 y31.2.1.1.1 y31.2.1.1.2.1 y31.2.1.2.2.1.1 y31.2.1.2.2.1.2.1 y32.1.1.1 y32.1.1.2.1 y32.1.1.2.2.1 y32.1.1.2.2.2.1 y32.1.1.2.2.2.2.1.1 y32.1.1.2.2.2.2.1.2.1 y32.1.1.2.2.2.2.2.1 y31.2.1.2.2.2.1.2.1 y31.2.1.2.2.2.1.2.2.1 y31.2.1.2.2.2.1.2.2.2.1 y31.2.1.2.2.2.1.2.2.2.2.1 y31.2.1.2.2.2.1.2.2.2.2.2.1 y31.2.1.2.2.2.1.2.2.2.2.2.2.1 y31.2.1.2.2.2.2.2.1.1 y31.2.2.1 y31.2.2.2.1 y31.2.2.2.2.1 y31.2.2.2.2.2.1).bind fun y33=>(Sum.elim (fun y34=>(some (y34.1,(),()))) (fun y34=>(some ((true,()),(),()))) y33))) else none))))) else none) else ((F13 y5.2.1.2.1.2.1 y5.2.1.2.1.2.2.1 y5.2.1.2.1.2.2.2.1 y5.2.1.2.1.2.2.2.2.1 y5.2.1.2.1.2.2.2.2.2.1 y5.2.1.2.1.2.2.2.2.2.2.1 y5.2.1.2.2.2.1.1 y5.2.2.1 y5.2.2.2.1 y5.2.2.2.2.1 y5.2.2.2.2.2.1).bind fun y35=>(bif (!(((y35.1.1.1:Int) == 0) && ((y35.1.1.2.1:Int) == 0))) then (some ((false,()),(),())) else ((Jez y4.1.1 0 a3.1 a3.2.1 0 0 y35.2.1.2.1.2.1 y35.2.1.2.1.2.2.1 y35.2.1.2.1.2.2.2.1 y35.2.1.2.1.2.2.2.2.1 y35.2.1.2.1.2.2.2.2.2.1 y35.2.1.2.1.2.2.2.2.2.2.1 y35.2.1.2.2.2.1.1 y35.2.2.1 y35.2.2.2.1 y35.2.2.2.2.1 y35.2.2.2.2.2.1).bind fun y36=>(bif (decide (0≤(y36.1.1:Int)∧(y36.1.1:Int)≤(((y4.1.1).length:Nat):Int))) then ((F15 ((y4.1.1).take (y36.1.1:Int).toNat)).bind fun y37=>((Jey 0 y36.2.1.1.1 y36.2.1.1.2.1 y36.2.1.2.2.1.1 y36.2.1.2.2.1.2.1 y37.1.1.1 y37.1.1.2.1 y37.1.1.2.2.1 y37.1.1.2.2.2.1 y37.1.1.2.2.2.2.1.1 y37.1.1.2.2.2.2.1.2.1 y37.1.1.2.2.2.2.2.1 y36.2.1.2.2.2.1.2.1 y36.2.1.2.2.2.1.2.2.1 y36.2.1.2.2.2.1.2.2.2.1 y36.2.1.2.2.2.1.2.2.2.2.1 y36.2.1.2.2.2.1.2.2.2.2.2.1 y36.2.1.2.2.2.1.2.2.2.2.2.2.1 y36.2.1.2.2.2.2.2.1.1 y36.2.2.1 y36.2.2.2.1 y36.2.2.2.2.1 y36.2.2.2.2.2.1).bind fun y38=>(Sum.elim (fun y39=>(some (y39.1,(),()))) (fun y39=>(some ((true,()),(),()))) y38))) else none))))))) else none))))))
def c3:Con:=⟨{ sl := [(0,.v (.l (.i .u16))),(1,.v (.i .u8)),(2,.v (.i .u8)),(3,.v (.p (.i .u64) (.p (.i .i64) .u))),(4,.v .b)] },(.ret { sl := [(0,.v .b)] }),fun x=>F3 x.1.1 x.1.2.1 x.1.2.2.1 x.1.2.2.2.1 x.1.2.2.2.2.1⟩
theorem c3_ok:Con.OK Try.prog 3 c3:=fnL [(8,c8),(9,c9),(10,c10t),(11,c11),(12,c12),(13,c13),(14,c14),(15,c15),(16,c16),(17,c17),(3000013,c13)] [(14,k3_14),(18,k3_18)] [14,18] ⟨c8_ok,c9_ok,JuX,c11_ok,Jl9,c13_ok,Jjj,c15_ok,Jtz,Jty,JpU,trivial⟩ ⟨JrI,JrH,trivial⟩ Try.func3
end
end Go.IM.V
set_option linter.unusedSimpArgs false
namespace Go.IM.V
open Go Go.IM Go.Proofs
def Jsc (l:List DEv) (w:Int):Nat:=(l.filter (fun e=>e.1 == w)).length
structure GdL (r:List DEv):Prop where
 ev : ∀e∈r,EvH e
 er:r.Pairwise Er
 sq : ∀(i:Nat) (e:DEv),r[i]? = some e→e.2.1=(Jsc (r.take i) e.1:Int)+1
 len:r.length≤1000
def Jnl (l:List DEv):Pl:=match l.getLast? with
 | some e=>pl e
 | none=>(0,(0,()))
def J0:List Bool:=((((((List.replicate 64 (false:Bool))).set (0:Int).toNat true)).set (1:Int).toNat true)).set (2:Int).toNat true
def R0:List Bool:=List.replicate 64 (false:Bool)
structure FOK (l:List DEv) (v:List Int) (t w:Int) (ms:Cs):Prop where
 vl:v.length≤64
 vg : ∀k:Nat,gv v k=Jsc l (k:Int)
 sp:(t,(w,()))=Jnl l
 nd:(ms.map (·.1)).Nodup
 mf : ∀q,QA q ms=cel q l
theorem X3 {α:Type} {r:List α} {i:Nat} {e:α} (h:r[i]? = some e):r.take (i+1)=r.take i ++ [e]:=by
 rw [List.take_add_one,h];rfl
theorem Jl4 (l:List DEv) (e:DEv) (w:Int):Jsc (l ++ [e]) w=Jsc l w+if e.1=w then 1 else 0:=by
 unfold Jsc;rw [List.filter_append,Jz];by_cases h:e.1=w
 ·rw [Jf h];simp [h]
 ·rw [Jd h];simp [h]
theorem Jcd (l:List DEv) (e:DEv):Jnl (l ++ [e])=pl e:=by unfold Jnl;rw [List.getLast?_append];rfl
theorem FOK.nil:FOK [] [] 0 0 []:=⟨by simp,fun k=>rfl,rfl,List.nodup_nil,fun q=>rfl⟩
theorem Jo9 {r:List DEv} (hg:GdL r) {i:Nat} {e:DEv} (hi:r[i]? = some e):kl (Jnl (r.take i)) (pl e)=true:=by
 have hel:=hg.ev e (JW hi);rcases Nat.eq_zero_or_pos i with h0 | h0
 ·subst h0;show kl (0,(0,())) (pl e)=true;rw [Jdg];left;show (0:Int)<e.2.2.1;have:=hel.t;omega
 ·obtain ⟨j,rfl⟩ : ∃j,i=j+1:=⟨i - 1,by omega⟩;have hl:=XL hi;have hj:r[j]? = some r[j]:=Jj (by omega);rw [X3 hj,Jcd];have:=List.pairwise_iff_getElem.1 hg.er j (j+1) (by omega) hl (by omega)
  rw [Jj hl] at hi;cases hi;exact this
theorem GdL.evf {r:List DEv} (hg:GdL r) (k:Nat) : ∀e∈r.take k,EvF e:=fun e he=>(hg.ev e (List.mem_of_mem_take he)).g.f
theorem FOK.step {r:List DEv} (hg:GdL r) {i:Nat} {e:DEv} (hi:r[i]? = some e) {v:List Int} {t w:Int} {ms:Cs} (h:FOK (r.take i) v t w ms) (J R:List Bool) (mk:Int) :
  ∃v' t' w' mk' ms',F23 e J R v t w mk ms=some ((0,()),(((),J,R,v',t',w',mk',()),(ms',()),()),())∧FOK (r.take (i+1)) v' t' w' ms':=by
 have hel:=hg.ev e (JW hi);have hw0:=hel.g.w0;have hw1:(e.1.toNat:Int)=e.1:=by omega
 obtain ⟨mk',hF⟩:=F23_eq e J R v t w mk ms hel (by rw [h.sp];exact Jo9 hg hi) h.vl (by rw [h.vg,hw1];exact hg.sq i e hi) (fun c hc=>Jds (hg.evf i) c (by rw [←h.mf];exact hc))
 refine ⟨_,_,_,mk',_,hF, ?_⟩;rw [X3 hi];refine ⟨Jn7 (by have:=hel.w;omega) h.vl,fun k => ?_, ?_,JmO h.nd,fun q => ?_⟩
 ·rw [Juv,Jl4];by_cases hk:k=e.1.toNat
  ·subst hk;rw [Jf rfl,Jf (by omega),hg.sq i e hi,hw1];omega
  ·rw [Jd hk,Jd (by omega),h.vg];omega
 ·rw [Jcd];rfl
 ·have hk:=hel.g.f.1;rw [JmP h.nd ⟨hk.1,hk.2⟩,Jk9,h.mf]
theorem Jve (r:List DEv) (hg:GdL r) (n:Nat) (hn:n≤r.length) (J R:List Bool) : ∀(d k:Nat) (v:List Int) (t w mk:Int) (ms:Cs),k+d=n→FOK (r.take k) v t w ms →
  ∃v' t' w' mk' ms',JnU r (n:Nat) (k:Nat) J R v t w mk ms=some ((),(((),J,R,v',t',w',mk',()),(ms',()),()),())∧FOK (r.take n) v' t' w' ms':=by
 intro d;induction d with
 | zero=>
  intro k v t w mk ms hk h;obtain rfl:k=n:=by omega
  rw [Jmm];unfold Jqg;rw [Js (by omega)];exact ⟨v,t,w,mk,ms,rfl,h⟩
 | succ d ih=>
  intro k v t w mk ms hk h;have hl:=hg.len;have hkl:k<r.length:=by omega
  have hi:r[k]? = some r[k]:=Jj hkl;obtain ⟨v1,t1,w1,mk1,ms1,hF,h1⟩:=h.step hg hi J R mk;rw [Jmm];unfold Jqg;rw [Jc (show (k:Int)<(n:Int) by omega),Jc (show 0≤(k:Int)∧(k:Int)<((r.length:Nat):Int) by omega)];simp only [Jk,JbG,Ji];rw [Qo hkl,hF];simp only [Jb,Sum.elim_inl]
  rw [show IntKind.wrap .i64 ((k:Int)+1)=((k+1:Nat):Int) by rw [wz (by omega) (by omega)];rfl]
  exact ih (k+1) v1 t1 w1 mk1 ms1 (by omega) h1
theorem F45_eq (r:List DEv) (hg:GdL r) (n:Nat) (hn:n≤r.length) : ∃v t w mk ms,F45 r (n:Nat)=some (((),()),(((),J0,R0,v,t,w,mk,()),(ms,()),()),())∧FOK (r.take n) v t w ms:=by
 obtain ⟨v,t,w,mk,ms,h1,h2⟩:=Jve r hg n hn J0 R0 n 0 [] 0 0 14695981039346656037 [] (by omega) FOK.nil;refine ⟨v,t,w,mk,ms, ?_,h2⟩;unfold F45 F20;simp only [Jb];rw [show JnU r (n:Nat) 0 (((((((List.replicate 64 (false:Bool))).set (0:Int).toNat true)).set (1:Int).toNat true)).set (2:Int).toNat true) (List.replicate 64 (false:Bool)) ([]:List Int) 0 0 14695981039346656037 ([]:List (ByteArray × DCe))=_ from h1]
 rfl
theorem J0_len:J0.length=64:=by decide
theorem R0_len:R0.length=64:=by decide
theorem Jli (v:List Int) (t w mk:Int) (ms:Cs):F25 J0 R0 v t w mk ms=some (((),()),(((),J0,R0,v,t,w,mk,()),(ms,()),((),J0,R0,v,t,w,mk,()),(ms,()),()),()):=by
 unfold F25 F65;simp only [Jb];rw [Jto J0_len,Jto R0_len];rfl
theorem Jvf (r:List DEv) (hg:GdL r) (n:Nat) (hn:n≤r.length) (b1:List Bool) (b2:List Bool) (b3:List Int) (b4 b5 b6:Int) (b7:Cs) (lv:List DEv) (J R:List Bool) : ∀(d k:Nat) (v:List Int) (t w mk:Int) (ms:Cs),n+k+d=r.length→FOK (r.take (n+k)) v t w ms →
  ∃v' t' w' mk' ms',JnV (r.drop n) (((r.drop n).length:Nat):Int) (k:Nat) lv b1 b2 b3 b4 b5 b6 J R v t w mk b7 ms=some (.inr ((),(((),lv,(),()),((),b1,b2,b3,b4,b5,b6,()),((),J,R,v',t',w',mk',()),(b7,()),(ms',()),()),()))∧FOK r v' t' w' ms':=by
 intro d;induction d with
 | zero=>
  intro k v t w mk ms hk h;have hl:=hg.len;rw [Jmn];unfold Jqh;rw [Js (by rw [JI];omega)]
  rw [List.take_of_length_le (by omega)] at h;exact ⟨v,t,w,mk,ms,rfl,h⟩
 | succ d ih=>
  intro k v t w mk ms hk h;have hl:=hg.len;have hkl:k<(r.drop n).length:=by rw [JI];omega
  have hi:r[n+k]? = some (r.drop n)[k]:=by rw [←List.getElem?_drop,Jj hkl]
  obtain ⟨v1,t1,w1,mk1,ms1,hF,h1⟩:=h.step hg hi J R mk;rw [Jmn];unfold Jqh;rw [Jc (show (k:Int)<(((r.drop n).length:Nat):Int) by omega),Jc (show 0≤(k:Int)∧(k:Int)<(((r.drop n).length:Nat):Int) by omega)];simp only [Jk,JbG,Ji];rw [Qo hkl,hF];simp only [Jb,show ((0:Int) != 0)=false from rfl,Jl,Sum.elim_inl]
  rw [JI] at hkl;rw [show IntKind.wrap .i64 ((k:Int)+1)=((k+1:Nat):Int) by rw [wz (by omega) (by omega)];rfl]
  exact ih (k+1) v1 t1 w1 mk1 ms1 (by omega) h1
theorem F44_eq (r:List DEv) (hg:GdL r) (n:Nat) (hn:n≤r.length) (v:List Int) (t w mk:Int) (ms:Cs) (h:FOK (r.take n) v t w ms) :
  ∃v' t' w' mk' ms',F44 [r.drop n] J0 R0 v t w mk ms=some (((),0,()),(((),J0,R0,v,t,w,mk,()),(ms,()),((),r.drop n,(),()),((),J0,R0,v',t',w',mk',()),(ms',()),()),()):=by
 have hl:=hg.len;have hp:(r.drop n).Pairwise Er:=hg.er.sublist (List.drop_sublist n r);obtain ⟨v',t',w',mk',ms',h1,_⟩:=Jvf r hg n hn J0 R0 v t w mk ms (r.drop n) J0 R0 (r.length - n) 0 v t w mk ms (by omega) h;refine ⟨v',t',w',mk',ms', ?_⟩;unfold F44;rw [F85_eq [r.drop n] (r.drop n) (by simp) (by simpa using hp) hp (by simp) (by rw [JI];omega) (fun e he=>by
  have:=(hg.ev e (List.mem_of_mem_drop he)).g
  exact ⟨this.w0,this.t0⟩)]
 simp only [Jb];rw [Jli];simp only [Jb];rw [show JnV (r.drop n) (((r.drop n).length:Nat):Int) 0 (r.drop n) J0 R0 v t w mk J0 R0 v t w mk ms ms=_ from h1];rfl
end Go.IM.V
namespace Go.IM.V
noncomputable section
open Go Go.IM Go.Proofs
theorem JtC (lv:List DEv) (J R:List Bool) (v:List Int) (t w mk:Int) (ms:Cs):F82 lv J R v t w mk ms=some (((((lv.length:Nat):Int)),()),(((),lv,(),()),((),J,R,v,t,w,mk,()),(ms,()),()),()):=rfl
theorem F83_eq (lv:List DEv) (k:Nat) (hk:k<lv.length) (J R:List Bool) (v:List Int) (t w mk:Int) (ms:Cs):F83 (k:Nat) lv J R v t w mk ms=some ((lv[k],true,()),(((),lv,(),()),((),J,R,v,t,w,mk,()),(ms,()),()),()):=by
 unfold F83;rw [Js (show ¬(k:Int)<0 by omega),JtC];simp only [Jl,Jb];rw [Js (show ¬(k:Int)≥((lv.length:Nat):Int) by omega),Jc (show 0≤(k:Int)∧(k:Int)<((lv.length:Nat):Int) by omega)];simp only [Jl,Jk,JbG,Ji];rw [Qo hk]
theorem F84_eq (lv:List DEv) (v:List Int) (t w mk:Int) (ms:Cs):F84 lv J0 R0 v t w mk ms=some (((),()),(((),lv,(),()),((),J0,R0,v,t,w,mk,()),(ms,()),((),J0,R0,v,t,w,mk,()),(ms,()),()),()):=by
 unfold F84;rw [Jli];rfl
theorem Jsv (lv:List DEv) (hl:lv.length≤1000) (J R:List Bool) (v:List Int) (t w mk:Int) (ms:Cs) (q1 q2 q3 q4:List DVn) : ∀(d k:Nat),k+d=lv.length →
  JnX ((lv.length:Nat):Int) (k:Nat) lv J R v t w mk ms (lv.take k) q1 q2 q3 q4=some ((),(((),lv,(),()),((),(),(),()),((),J,R,v,t,w,mk,()),((),(),(),(),(),()),(ms,()),()),(lv,q1,q2,q3,q4,())):=by
 intro d;induction d with
 | zero=>
  intro k hk;rw [Jmq];unfold Jqk;rw [Js (by omega),List.take_of_length_le (by omega)];rfl
 | succ d ih=>
  intro k hk;have hkl:k<lv.length:=by omega
  rw [Jmq];unfold Jqk;rw [Jc (show (k:Int)<((lv.length:Nat):Int) by omega),F83_eq lv k hkl];simp only [Jk,Jb,JbG];rw [Jc (by rw [Jdf,JE];simp only [Ju,JD];omega)]
  simp only [Jk,Jb,Sum.elim_inl];rw [show IntKind.wrap .i64 ((k:Int)+1)=((k+1:Nat):Int) by rw [wz (by omega) (by omega)];rfl,←X3 (Jj hkl)]
  exact ih (k+1) (by omega)
abbrev dvn0:DVn:=(((0:Int),((0:Int),())),(((0:Int),([],((0:Nat),()))),(false,())))
def Jj3 (c:Option DCe) (e:DEv):DVn:=(pl e,(c.getD cd0,(!c.isSome,())))
def Qj (r:List DEv) (q:ByteArray) (n:Nat):Nat→List DVn
 | 0 => []
 | k+1=>match r[n+k]? with
  | some e=>if XX e=q then Qj r q n k ++ [Jj3 (cel q (r.take (n+k+1))) e] else Qj r q n k
  | none=>Qj r q n k
theorem Jc7 (r:List DEv) (q:ByteArray) (n:Nat) : ∀k,(Qj r q n k).length≤k:=by
 intro k;induction k with
 | zero=>exact Je _
 | succ k ih=>
  simp only [Qj];split
  ·split
   ·simp;omega
   ·omega
  ·omega
def kA:ByteArray:=⟨#[97]⟩
def kB:ByteArray:=⟨#[98]⟩
def kC:ByteArray:=⟨#[99]⟩
def kD:ByteArray:=⟨#[100]⟩
theorem Js1 {e:DEv} (h:EvF e):XX e=kA∨XX e=kB∨XX e=kC∨XX e=kD:=by
 obtain ⟨_,⟨c,c0,c1,hc⟩,_⟩:=h;have:c=97∨c=98∨c=99∨c=100:=by omega
 rcases this with rfl | rfl | rfl | rfl
 ·exact .inl (hc.trans rfl)
 ·exact .inr (.inl (hc.trans rfl))
 ·exact .inr (.inr (.inl (hc.trans rfl)))
 ·exact .inr (.inr (.inr (hc.trans rfl)))
theorem bne (a b:ByteArray) (h:a≠b):(a == b)=false:=by
 cases hq:a == b with
 | false=>rfl
 | true=>exact absurd (Jaz.1 hq) h
theorem nAB:kA≠kB:=by decide
theorem nAC:kA≠kC:=by decide
theorem nAD:kA≠kD:=by decide
theorem nBC:kB≠kC:=by decide
theorem nBD:kB≠kD:=by decide
theorem nCD:kC≠kD:=by decide
theorem JqG (q:ByteArray) (J R:List Bool) (v:List Int) (t w mk:Int) (ms:Cs) (h : ∀c,QA q ms=some c→Gc c) :
  F27 q J R v t w mk ms=some ((((QA q ms).getD cd0),(QA q ms).isSome,()),(((),J,R,v,t,w,mk,()),(ms,()),()),()):=by
 unfold F27;rw [Jmv (a:=((QA q ms).getD (0,(([]:List Int),(0,())))).2.1) (by
  cases hq:QA q ms with
  | none=>show ([]:List Int).length<1000000;simp
  | some c=>have:=(h c hq).2.2;show c.2.1.length<1000000;omega)]
 rfl
theorem JhI {α:Type} (q:List α) (x:α):(!(List.isEmpty (q ++ [x])))=true:=by cases q <;> rfl
theorem Jba {r:List DEv} {q:ByteArray} {n k:Nat} {e:DEv} (h:r[n+k]? = some e):Qj r q n (k+1)=if XX e=q then Qj r q n k ++ [Jj3 (cel q (r.take (n+k+1))) e] else Qj r q n k:=by
 simp only [Qj,h]
theorem Jsr (ls : List DEv) (k : Nat) (e : DEv) (hkl : k < ls.length) (he : ls.getD k dv0 = e) (hk9 : k ≤ 1000) (lv : List DEv) (b1 : List Bool) (b2 : List Bool) (b3 : List Int) (b4 b5 b6 : Int) (b7 : Cs) (J R : List Bool) (v v1 : List Int) (t w mk t1 w1 mk1 : Int) (ms ms1 : Cs)
  (hF:F23 e J R v t w mk ms=some ((0,()),(((),J,R,v1,t1,w1,mk1,()),(ms1,()),()),())) (c:Option DCe) (hc:F27 (XX e) J R v1 t1 w1 mk1 ms1=some (((c.getD cd0),c.isSome,()),(((),J,R,v1,t1,w1,mk1,()),(ms1,()),()),()))
  (hf:EvF e) (qA qB qC qD:List DVn) (lA:qA.length≤k) (lB:qB.length≤k) (lC:qC.length≤k) (lD:qD.length≤k) :
  JgE ls ((ls.length:Nat):Int) (k:Nat) lv J R v t w mk b1 b2 b3 b4 b5 b6 ms b7 qA qB qC qD =
   some (.inl (((),(),ls,((ls.length:Nat):Int),((k+1:Nat):Int),()),(((),lv,(),()),((),J,R,v1,t1,w1,mk1,()),((),b1,b2,b3,b4,b5,b6,()),((),(),(),(),(),()),(ms1,()),(b7,()),()),
    (if XX e=kA then qA ++ [Jj3 c e] else qA,if XX e=kB then qB ++ [Jj3 c e] else qB,if XX e=kC then qC ++ [Jj3 c e] else qC,if XX e=kD then qD ++ [Jj3 c e] else qD,()))):=by
 have hkey:=Js1 hf;have hk14:=hf.1;have hw:IntKind.wrap .i64 ((k:Int)+1)=((k+1:Nat):Int):=by rw [wz (by omega) (by omega)];rfl
 have he':ls.getD k (0,(0,(0,(0,(ByteArray.empty,([],(0,(0,()))))))))=e:=he
 have c1:decide ((k:Int)<((ls.length:Nat):Int))=true:=Jc (by omega);have c2:decide (0≤(k:Int)∧(k:Int)<((ls.length:Nat):Int))=true:=Jc (by omega);unfold JgE;simp only [c1,c2,Jk,Ji,he',JbG,hF,Jb];have d1:decide (e.2.2.2.1<1)=false:=Js (by omega);have d2:decide (e.2.2.2.1 > 4)=false:=Js (by omega)
 have hcell':F27 e.2.2.2.2.1 J R v1 t1 w1 mk1 ms1=_:=hc
 have h52:F52 e=some (((pl e),()),(),()):=rfl;simp only [d1,d2,Jl,hcell',Jb,h52];have fA:(⟨#[97]⟩:ByteArray)=kA:=rfl;have fB:(⟨#[98]⟩:ByteArray)=kB:=rfl;have fC:(⟨#[99]⟩:ByteArray)=kC:=rfl;have fD:(⟨#[100]⟩:ByteArray)=kD:=rfl;have lm : ∀{m:Nat},m≤k→decide (m+1<lim)=true:=fun hm=>Jc (by rw [Jdf];omega)
 have sA : ∀q:ByteArray,(q == q)=true:=fun q=>Jaz.2 rfl
 have hq':XX e=e.2.2.2.2.1:=rfl
 rw [hq'] at hkey ⊢;generalize e.2.2.2.2.1=key at hkey ⊢;simp only [fA,fB,fC,fD];rcases hkey with rfl | rfl | rfl | rfl
 ·rw [Jf rfl,Jd nAB,Jd nAC,Jd nAD];simp only [sA,Jk,Jl,Ju,JD,JG,lm lA,JhI,hw];rfl
 ·rw [Jd nAB.symm,Jf rfl,Jd nBC,Jd nBD];simp only [sA,bne _ _ nAB.symm,Jk,Jl,Ju,JD,JG,lm lB,JhI,hw];rfl
 ·rw [Jd nAC.symm,Jd nBC.symm,Jf rfl,Jd nCD];simp only [sA,bne _ _ nAC.symm,bne _ _ nBC.symm,Jk,Jl,Ju,JD,JG,lm lC,JhI,hw];rfl
 ·rw [Jd nAD.symm,Jd nBD.symm,Jd nCD.symm,Jf rfl];simp only [sA,bne _ _ nAD.symm,bne _ _ nBD.symm,bne _ _ nCD.symm,Jk,Jl,Ju,JD,JG,lm lD,JhI,hw];rfl
theorem Jsu (r:List DEv) (hg:GdL r) (n:Nat) (hn:n≤r.length) (lv:List DEv) (b1:List Bool) (b2:List Bool) (b3:List Int) (b4 b5 b6:Int) (b7:Cs) (J R:List Bool) : ∀(d k:Nat) (v:List Int) (t w mk:Int) (ms:Cs),n+k+d=r.length→FOK (r.take (n+k)) v t w ms →
  ∃v' t' w' mk' ms',JgI (r.drop n) (((r.drop n).length:Nat):Int) (k:Nat) lv J R v t w mk b1 b2 b3 b4 b5 b6 ms b7 (Qj r kA n k) (Qj r kB n k) (Qj r kC n k) (Qj r kD n k)=some ((),(((),lv,(),()),((),J,R,v',t',w',mk',()),((),b1,b2,b3,b4,b5,b6,()),((),(),(),(),(),()),(ms',()),(b7,()),()),(Qj r kA n (r.length - n),Qj r kB n (r.length - n),Qj r kC n (r.length - n),Qj r kD n (r.length - n),())):=by
 intro d;induction d with
 | zero=>
  intro k v t w mk ms hk h;have hl:=hg.len;rw [Jjv];unfold JgE;rw [Js (by rw [JI];omega),show r.length - n=k by omega]
  exact ⟨v,t,w,mk,ms,rfl⟩
 | succ d ih=>
  intro k v t w mk ms hk h;have hl:=hg.len;have hkl:k<(r.drop n).length:=by rw [JI];omega
  have hi:r[n+k]? = some (r.drop n)[k]:=by rw [←List.getElem?_drop,Jj hkl]
  obtain ⟨v1,t1,w1,mk1,ms1,hF,h1⟩:=h.step hg hi J R mk;have hcell:=JqG (XX (r.drop n)[k]) J R v1 t1 w1 mk1 ms1 (fun c hc=>Jds (hg.evf (n+k+1)) c (by rw [←h1.mf];exact hc))
  rw [h1.mf] at hcell;have hst:=Jsr (r.drop n) k _ hkl (Qo hkl _) (by rw [JI] at hkl;omega) lv b1 b2 b3 b4 b5 b6 b7 J R v v1 t w mk t1 w1 mk1 ms ms1 hF _ hcell (hg.ev _ (JW hi)).g.f (Qj r kA n k) (Qj r kB n k) (Qj r kC n k) (Qj r kD n k) (Jc7 ..) (Jc7 ..) (Jc7 ..) (Jc7 ..)
  have ihk:=ih (k+1) v1 t1 w1 mk1 ms1 (by omega) h1;rw [Jba (q:=kA) hi,Jba (q:=kB) hi,Jba (q:=kC) hi,Jba (q:=kD) hi] at ihk;have fix : ∀(q:ByteArray),XX (r.drop n)[k]=q→cel q (r.take (n+k+1))=cel (XX (r.drop n)[k]) (r.take (n+k+1)):=fun q hq=>by rw [hq]
  have cA:(if XX (r.drop n)[k]=kA then Qj r kA n k ++ [Jj3 (cel (XX (r.drop n)[k]) (r.take (n+k+1))) (r.drop n)[k]] else Qj r kA n k)=(if XX (r.drop n)[k]=kA then Qj r kA n k ++ [Jj3 (cel kA (r.take (n+k+1))) (r.drop n)[k]] else Qj r kA n k):=by split <;> first | (rename_i hq;rw [hq]) | rfl
  have cB:(if XX (r.drop n)[k]=kB then Qj r kB n k ++ [Jj3 (cel (XX (r.drop n)[k]) (r.take (n+k+1))) (r.drop n)[k]] else Qj r kB n k)=(if XX (r.drop n)[k]=kB then Qj r kB n k ++ [Jj3 (cel kB (r.take (n+k+1))) (r.drop n)[k]] else Qj r kB n k):=by split <;> first | (rename_i hq;rw [hq]) | rfl
  have cC:(if XX (r.drop n)[k]=kC then Qj r kC n k ++ [Jj3 (cel (XX (r.drop n)[k]) (r.take (n+k+1))) (r.drop n)[k]] else Qj r kC n k)=(if XX (r.drop n)[k]=kC then Qj r kC n k ++ [Jj3 (cel kC (r.take (n+k+1))) (r.drop n)[k]] else Qj r kC n k):=by split <;> first | (rename_i hq;rw [hq]) | rfl
  have cD:(if XX (r.drop n)[k]=kD then Qj r kD n k ++ [Jj3 (cel (XX (r.drop n)[k]) (r.take (n+k+1))) (r.drop n)[k]] else Qj r kD n k)=(if XX (r.drop n)[k]=kD then Qj r kD n k ++ [Jj3 (cel kD (r.take (n+k+1))) (r.drop n)[k]] else Qj r kD n k):=by split <;> first | (rename_i hq;rw [hq]) | rfl
  rw [cA,cB,cC,cD] at hst;rw [Jjv,hst];exact ihk
theorem F42_eq (r:List DEv) (hg:GdL r) (n:Nat) (hn:n≤r.length) (v:List Int) (t w mk:Int) (ms:Cs) (h:FOK (r.take n) v t w ms) :
  F42 (r.drop n) J0 R0 v t w mk ms=some (((),()),(((),r.drop n,(),()),((),J0,R0,v,t,w,mk,()),(ms,()),((),(),(),()),((),J0,R0,v,t,w,mk,()),((),(),(),(),(),()),(ms,()),()),(Qj r kA n (r.length - n),Qj r kB n (r.length - n),Qj r kC n (r.length - n),Qj r kD n (r.length - n),())):=by
 have hl:=hg.len;have h1:=Jsv (r.drop n) (by rw [JI];omega) J0 R0 v t w mk ms [] [] [] [] (r.drop n).length 0 (by omega)
 obtain ⟨v',t',w',mk',ms',h2⟩:=Jsu r hg n hn (r.drop n) J0 R0 v t w mk ms J0 R0 (r.length - n) 0 v t w mk ms (by omega) h;unfold F42;rw [JtC];simp only [Jb];rw [show JnX (((r.drop n).length:Nat):Int) 0 (r.drop n) J0 R0 v t w mk ms ([]:List DEv) ([]:List DVn) ([]:List DVn) ([]:List DVn) ([]:List DVn)=_ from h1];simp only [Jb];rw [F84_eq]
 simp only [Jb];rw [Jli];simp only [Jb];rw [show JgI (r.drop n) (((r.drop n).length:Nat):Int) 0 (r.drop n) J0 R0 v t w mk J0 R0 v t w mk ms ms ([]:List DVn) ([]:List DVn) ([]:List DVn) ([]:List DVn)=_ from h2];rfl
theorem F11_eq (r:List DEv) (hg:GdL r) (n:Nat) (hn:n≤r.length) : ∃v t w mk ms,FOK (r.take n) v t w ms ∧
  F11 r (n:Nat)=some (((),()),(((),(),(),()),((),J0,R0,v,t,w,mk,()),((),(),(),(),(),()),(ms,()),()),(Qj r kA n (r.length - n),Qj r kB n (r.length - n),Qj r kC n (r.length - n),Qj r kD n (r.length - n),())):=by
 obtain ⟨v,t,w,mk,ms,h1,h2⟩:=F45_eq r hg n hn;obtain ⟨v',t',w',mk',ms',h3⟩:=F44_eq r hg n hn v t w mk ms h2;refine ⟨v,t,w,mk,ms,h2, ?_⟩;unfold F11;rw [h1];simp only [Jb];rw [Jc (show 0≤(n:Int)∧(n:Int)≤((r.length:Nat):Int) by omega)];simp only [Jk,Ji];rw [h3];simp only [Jb,show ((0:Int) != 0)=false from rfl,Jl]
 rw [F42_eq r hg n hn v t w mk ms h2];rfl
end
end Go.IM.V
namespace Go.IM.V
open Go Go.IM Go.Proofs
theorem shr1 {n:Int} (h:0≤n):Jf3 .u64 n 1=n / 2:=by
 unfold Jf3;show n.fdiv (2 ^ 1)=_;rw [Int.fdiv_eq_ediv_of_nonneg _ (by omega)];rfl
theorem JpC (x:DVn):((x.1.1,(x.1.2.1,())),((x.2.1.1,(x.2.1.2.1,(x.2.1.2.2.1,()))),(x.2.2.1,())))=x:=rfl
theorem JtF (x:DVn) (s:Pl):F48 x s=some (((if kl s x.1=true then 1 else -1),()),(),()):=by
 unfold F48;have:F46 (x.1.1,(x.1.2.1,())) (s.1,(s.2.1,()))=some ((Jn3 x.1 s,()),(),()):=JgQ _ _
 rw [this];simp only [Jb,JpI];cases h:kl s x.1 <;> rfl
theorem Jvd (l : List DVn) (s : Pl) (c : Nat) (hl : l.length ≤ 1000000) (hc : ∀ (i : Nat) (h : i < l.length), (kl s l[i].1 = false ↔ i < c)) (hcl : c ≤ l.length) : ∀ (d i j : Nat), j ≤ i + d → i ≤ c → c ≤ j → j ≤ l.length →
  JnT l (l.length:Nat) (i:Nat) (j:Nat) s.1 s.2.1=some ((((c:Nat):Int),()),((s.1,s.2.1,()),()),()):=by
 intro d;induction d with
 | zero=>
  intro i j h1 h2 h3 h4;rw [Jml];unfold Jqf;rw [Js (by omega)];simp only [Jl,Jb,Sum.elim_inr];rw [show i=c by omega]
 | succ d ih=>
  intro i j h1 h2 h3 h4;rw [Jml];unfold Jqf;by_cases hij:i<j
  ·have hm:IntKind.wrap .i64 (Jf3 .u64 (IntKind.wrap .u64 (IntKind.wrap .i64 ((i:Int)+(j:Int)))) 1)=(((i+j) / 2:Nat):Int):=by
    rw [wz (n:=(i:Int)+j) (by omega) (by omega),Jmy (by omega) (by omega),shr1 (by omega),wz (by omega) (by omega)];omega
   rw [hm];have hlt:(i+j) / 2<l.length:=by omega
   have hge:l.getD ((i+j) / 2) dvn0=l[(i+j) / 2]:=Qo hlt _;have h48:=JtF l[(i+j) / 2] s;rw [Jc (show (i:Int)<(j:Int) by omega),Jc (show 0≤(((i+j) / 2:Nat):Int)∧(((i+j) / 2:Nat):Int)<(l.length:Int) by omega)];simp only [Jk,Ji];have hge':l.getD ((i+j) / 2) (((0:Int),((0:Int),())),(((0:Int),([],((0:Nat),()))),(false,())))=l[(i+j) / 2]:=hge
   simp only [hge',JpC];have h48':F48 l[(i+j) / 2] (s.1,(s.2.1,()))=_:=h48
   rw [h48'];simp only [Jb];have hcc:=hc ((i+j) / 2) hlt;cases hq:kl s l[(i+j) / 2].1 with
   | false=>
    rw [Jd (by simp),show decide ((-1:Int)<0)=true from rfl];simp only [Jk,Jb,Sum.elim_inl];rw [show IntKind.wrap .i64 ((((i+j) / 2:Nat):Int)+1)=(((i+j) / 2+1:Nat):Int) by rw [wz (by omega) (by omega)];rfl]
    have:=hcc.1 hq
    exact ih _ _ (by omega) (by omega) h3 h4
   | true=>
    rw [Jf rfl,show decide ((1:Int)<0)=false from rfl];simp only [Jl,Jb,Sum.elim_inl];have : ¬(i+j) / 2<c:=fun h=>by rw [hcc.2 h] at hq;cases hq
    exact ih _ _ (by omega) h2 (by omega) (by omega)
  ·rw [Js (by omega)];simp only [Jl,Jb,Sum.elim_inr];rw [show i=c by omega]
theorem F47_eq (l:List DVn) (s:Pl) (c:Nat) (hl:l.length≤1000000) (hc : ∀(i:Nat) (h:i<l.length),(kl s l[i].1=false↔i<c)) (hcl:c≤l.length) : ∃b,F47 l s=some ((((c:Nat):Int),b,()),(),()):=by
 unfold F47;rw [show JnT l (l.length:Nat) 0 (l.length:Nat) s.1 s.2.1=_ from Jvd l s c hl hc hcl l.length 0 l.length (by omega) (Nat.zero_le _) hcl (Je _)];simp only [Jb];by_cases h:((c:Nat):Int)<(l.length:Int)
 ·rw [Jc h,Jc (show 0≤((c:Nat):Int)∧((c:Nat):Int)<(l.length:Int) by omega)];simp only [Jk,Ji];have hlt:c<l.length:=by omega
  have hge':l.getD c (((0:Int),((0:Int),())),(((0:Int),([],((0:Nat),()))),(false,())))=l[c]:=Qo hlt _
  simp only [hge',JpC];have h48':F48 l[c] (s.1,(s.2.1,()))=_:=JtF l[c] s
  rw [h48'];exact ⟨_,rfl⟩
 ·rw [Js h];exact ⟨_,rfl⟩
theorem Jlp (r : List DEv) (q : ByteArray) (n : Nat) (k' : Nat) : ∀ k, k' ≤ k → ∃ rest, Qj r q n k = Qj r q n k' ++ rest ∧ ∀ x ∈ rest, ∃ (i : Nat) (e : DEv), k' ≤ i ∧ i < k ∧ r[n + i]? = some e ∧ x.1 = pl e := by
 intro k;induction k with
 | zero=>
  intro h;obtain rfl:k'=0:=by omega
  exact ⟨[],by simp,fun x hx=>by cases hx⟩
 | succ k ih =>
  intro h;rcases JB k k' with hk | hk
  ·obtain rfl:k'=k+1:=by omega
   exact ⟨[],by simp,fun x hx=>by cases hx⟩
  ·obtain ⟨rest,h1,h2⟩:=ih hk;have up : ∀x∈rest,∃(i:Nat) (e:DEv),k'≤i∧i<k+1∧r[n+i]? = some e∧x.1=pl e:=fun x hx=>by
    obtain ⟨i,e,a,b,c,d⟩:=h2 x hx;exact ⟨i,e,a,by omega,c,d⟩
   cases he:r[n+k]? with
   | none=>
    refine ⟨rest, ?_,up⟩;simp only [Qj,he];exact h1
   | some e=>
    rw [Jba he];by_cases hq:XX e=q
    ·rw [Jf hq];refine ⟨rest ++ [Jj3 (cel q (r.take (n+k+1))) e],by rw [h1,List.append_assoc],fun x hx => ?_⟩;rcases List.mem_append.1 hx with hx | hx
     ·exact up x hx
     ·rw [List.mem_singleton] at hx;subst hx;exact ⟨k,e,hk,by omega,he,rfl⟩
    ·rw [Jd hq];exact ⟨rest,h1,up⟩
theorem Jol (r : List DEv) (q : ByteArray) (n : Nat) : ∀ k, n + k ≤ r.length → match (Qj r q n k).getLast? with
  | none=>cel q (r.take (n+k))=cel q (r.take n)
  | some x=>x.2=((cel q (r.take (n+k))).getD cd0,(!(cel q (r.take (n+k))).isSome,())):=by
 intro k;induction k with
 | zero=>intro _;rfl
 | succ k ih=>
  intro h;have hi:r[n+k]? = some r[n+k]:=Jj (by omega);rw [Jba hi];by_cases hq:XX r[n+k]=q
  ·rw [Jf hq,List.getLast?_concat];rfl
  ·rw [Jd hq];have:=ih (by omega)
   have hc:cel q (r.take (n+(k+1)))=cel q (r.take (n+k)):=by
    rw [show n+(k+1)=(n+k)+1 by omega,X3 hi,Jk9,Jd hq]
   rw [hc];exact this
def Upto (r:List DEv) (s:Pl) (m:Nat):Prop:=m≤r.length ∧ ∀(i:Nat) (e:DEv),r[i]? = some e→(kl s (pl e)=false↔i<m)
theorem Jok {r:List DEv} {s:Pl} {m n:Nat} (h:Upto r s m) (hn:n≤m) (q:ByteArray) :
  ∃rest,Qj r q n (r.length - n)=Qj r q n (m - n)++rest ∧ ∀(i:Nat) (hi:i<(Qj r q n (r.length - n)).length),(kl s (Qj r q n (r.length - n))[i].1=false↔i<(Qj r q n (m - n)).length):=by
 obtain ⟨hm,hk⟩:=h;obtain ⟨rest,h1,h2⟩:=Jlp r q n (m - n) (r.length - n) (by omega);obtain ⟨r0,h3,h4⟩:=Jlp r q n 0 (m - n) (Nat.zero_le _);refine ⟨rest,h1,fun i hi => ?_⟩;have hget:(Qj r q n (r.length - n))[i]? = some (Qj r q n (r.length - n))[i]:=Jj hi;generalize (Qj r q n (r.length - n))[i]=x at hget;rw [h1] at hget;rcases JB i (Qj r q n (m - n)).length with hl | hl
 ·rw [JF hl,h3] at hget;have hx:x∈r0:=by
   have:x∈Qj r q n 0++r0:=JW hget
   simpa [Qj] using this
  obtain ⟨j,e,_,a,b,c⟩:=h4 x hx;rw [c,hk _ e b];exact ⟨fun _=>hl,fun _=>by omega⟩
 ·rw [JN hl] at hget;obtain ⟨j,e,a,_,b,c⟩:=h2 x (JW hget);rw [c,hk _ e b];exact ⟨fun h=>by omega,fun h=>by omega⟩
theorem JmG {r : List DEv} (hg : GdL r) {q : ByteArray} (h : q ≠ kA ∧ q ≠ kB ∧ q ≠ kC ∧ q ≠ kD) (n : Nat) : ∀ k, Qj r q n k = [] := by
 intro k;induction k with
 | zero=>rfl
 | succ k ih=>
  simp only [Qj];split
  ·rename_i e he;have:=Js1 (hg.ev _ (JW he)).g.f
   rw [Jd (fun hq=>by
    rw [hq] at this;rcases this with e | e | e | e
    ·exact h.1 e
    ·exact h.2.1 e
    ·exact h.2.2.1 e
    ·exact h.2.2.2 e)]
   exact ih
  ·exact ih
theorem Jt8 {r : List DEv} (hg : GdL r) (q : ByteArray) (n k : Nat) : (bif q == (⟨#[97]⟩ : ByteArray) then Qj r kA n k else (bif q == (⟨#[98]⟩ : ByteArray) then Qj r kB n k else (bif q == (⟨#[99]⟩ : ByteArray) then Qj r kC n k else (bif q == (⟨#[100]⟩ : ByteArray) then Qj r kD n k else [])))) = Qj r q n k := by
 have fA:(⟨#[97]⟩:ByteArray)=kA:=rfl;have fB:(⟨#[98]⟩:ByteArray)=kB:=rfl;have fC:(⟨#[99]⟩:ByteArray)=kC:=rfl;have fD:(⟨#[100]⟩:ByteArray)=kD:=rfl;rw [fA,fB,fC,fD];by_cases h1:q=kA
 ·rw [h1,Jaz.2 rfl];rfl
 ·rw [bne _ _ h1,Jl];by_cases h2:q=kB
  ·rw [h2,Jaz.2 rfl];rfl
  ·rw [bne _ _ h2,Jl];by_cases h3:q=kC
   ·rw [h3,Jaz.2 rfl];rfl
   ·rw [bne _ _ h3,Jl];by_cases h4:q=kD
    ·rw [h4,Jaz.2 rfl];rfl
    ·rw [bne _ _ h4,Jl,JmG hg ⟨h1,h2,h3,h4⟩]
abbrev bx16 (v:List Int) (t w mk:Int) (ms:Cs):(Unit × (Unit × (Unit × Unit))) × ((Unit × ((List Bool) × ((List Bool) × ((List Int) × (Int × (Int × (Int × Unit))))))) × ((Unit × (Unit × (Unit × (Unit × (Unit × Unit))))) × (((List (ByteArray × DCe)) × Unit) × Unit))):=(((),(),(),()),((),J0,R0,v,t,w,mk,()),((),(),(),(),(),()),(ms,()),())
theorem Jvx (q:ByteArray) (s:Pl) (v:List Int) (t w mk:Int) (ms:Cs) (qA qB qC qD:List DVn) (h:kl s (t,(w,()))=true) :
  F16 q s J0 R0 v t w mk ms qA qB qC qD=some ((cd0,false,13,()),bx16 v t w mk ms,(qA,qB,qC,qD,())):=by
 unfold F16 F35;simp only [Jb];have:F46 (s.1,(s.2.1,())) (t,(w,()))=some ((Jn3 s (t,(w,())),()),(),()):=JgQ _ _
 rw [this];simp only [Jb,JpH,h,Jk]
theorem Jvy {r:List DEv} (hg:GdL r) {n m:Nat} (hnm:n≤m) {s:Pl} (hu:Upto r s m) (q:ByteArray) (v:List Int) (t w mk:Int) (ms:Cs) (hf:FOK (r.take n) v t w ms) (h:kl s (t,(w,()))=false) :
  F16 q s J0 R0 v t w mk ms (Qj r kA n (r.length - n)) (Qj r kB n (r.length - n)) (Qj r kC n (r.length - n)) (Qj r kD n (r.length - n)) =
   some (((cel q (r.take m)).getD cd0,(cel q (r.take m)).isSome,0,()),bx16 v t w mk ms,(Qj r kA n (r.length - n),Qj r kB n (r.length - n),Qj r kC n (r.length - n),Qj r kD n (r.length - n),())):=by
 have hl:=hg.len;obtain ⟨rest,h1,h2⟩:=Jok hu hnm q;have hvl:=Jc7 r q n (r.length - n);have hcl:(Qj r q n (m - n)).length≤(Qj r q n (r.length - n)).length:=by rw [h1,Jz];omega
 obtain ⟨b,hb⟩:=F47_eq (Qj r q n (r.length - n)) s (Qj r q n (m - n)).length (by omega) h2 hcl;have hlast:=Jol r q n (m - n) (by have:=hu.1;omega)
 rw [show n+(m - n)=m by omega] at hlast;unfold F16 F35;simp only [Jb];have h46:F46 (s.1,(s.2.1,())) (t,(w,()))=some ((Jn3 s (t,(w,())),()),(),()):=JgQ _ _;rw [h46];simp only [Jb,JpH,h,Jl,Jt8 hg];have hb':F47 (Qj r q n (r.length - n)) (s.1,(s.2.1,()))=_:=hb
 rw [hb'];simp only [Jb];cases hq:(Qj r q n (m - n)).getLast? with
 | none=>
  rw [hq] at hlast;have h0:Qj r q n (m - n) = []:=List.getLast?_eq_none_iff.1 hq;rw [h0];simp only [JD,show ((((0:Nat):Int)) == 0)=true from rfl,Jk];rw [JqG q J0 R0 v t w mk ms (fun c hc=>Jds (hg.evf n) c (by rw [←hf.mf];exact hc)),hf.mf]
  simp only [Jb];rw [hlast]
 | some x=>
  rw [hq] at hlast;have hne:Qj r q n (m - n) ≠ []:=fun e=>by rw [e] at hq;cases hq
  have hpos:=JR.2 hne;have hx:(Qj r q n (m - n))[(Qj r q n (m - n)).length - 1]? = some x:=by rw [←List.getLast?_eq_getElem?];exact hq
  have hx2:(Qj r q n (r.length - n))[(Qj r q n (m - n)).length - 1]? = some x:=by rw [h1,JF (by omega)];exact hx
  have hw:IntKind.wrap .i64 ((((Qj r q n (m - n)).length:Nat):Int) - 1)=(((Qj r q n (m - n)).length - 1:Nat):Int):=by rw [wz (by omega) (by omega)];omega
  have hz:((((Qj r q n (m - n)).length:Nat):Int) == 0)=false:=by simp;omega
  rw [hz,hw];have hget:(Qj r q n (r.length - n)).getD ((Qj r q n (m - n)).length - 1) (((0:Int),((0:Int),())),(((0:Int),([],((0:Nat),()))),(false,())))=x:=by rw [Jo,hx2];rfl
  have hd:decide (0≤(((Qj r q n (m - n)).length - 1:Nat):Int)∧(((Qj r q n (m - n)).length - 1:Nat):Int)<(((Qj r q n (r.length - n)).length:Nat):Int))=true:=Jc (by omega);simp only [Jl,Jk,hd,Ji,hget];have e1:x.2.1=(cel q (r.take m)).getD cd0:=by rw [hlast]
  have e2:x.2.2.1 = !(cel q (r.take m)).isSome:=by rw [hlast]
  rw [e2,Bool.not_not];show some (((x.2.1,_,0,()),_,_))=_;rw [e1]
end Go.IM.V
namespace Go.IM.V
open Go Go.IM Go.Proofs
theorem JdY {q:List DEv} {w:Int} (h : ∀e∈q,e.1=w):q.filter (fun e=>e.1 == w)=q:=List.filter_eq_self.2 fun e he=>by simp [h e he]
theorem Jab {q:List DEv} {w w':Int} (h : ∀e∈q,e.1=w) (hn:w≠w'):q.filter (fun e=>e.1 == w') = []:=List.filter_eq_nil_iff.2 fun e he=>by simp [h e he,hn]
theorem JbR.whoE {w:Int} {q:List Ev} {t:Int} (h:JbR w 60 q t) : ∀e∈q,e.1=w∧1≤e.2.1∧1≤e.2.2.1:=by
 intro e he;obtain ⟨i,hi,rfl⟩:=List.getElem_of_mem he;obtain ⟨h1,h2,h3,h4,h5⟩:=h.who i _ (Jj hi);exact ⟨h1,by omega,h3⟩
theorem JvG {a b:DEv} (h:Er a b) (h2:Er b a):False:=by
 have:=Jfk h
 unfold Er at h2;rw [h2] at this;cases this
theorem Joz {r q:List DEv} {w t:Int} (hw:r.filter (fun e=>e.1 == w)=q) (f:JbR w 60 q t) {i:Nat} {e:DEv} (hi:r[i]? = some e) (he:e.1=w):e.2.1=(Jsc (r.take i) w:Int)+1:=by
 have hl:=XL hi;have hr:r=r.take i++e::r.drop (i+1):=by
  rw [Jj hl] at hi;cases hi;rw [←List.drop_eq_getElem_cons hl,List.take_append_drop]
 have hq:q[Jsc (r.take i) w]? = some e:=by
  rw [←hw]
  conv=>lhs;arg 1;rw [hr]
  rw [List.filter_append,List.filter_cons_of_pos (by simp [he])];unfold Jsc;rw [JN (Je _),Nat.sub_self];rfl
 exact (f.who _ e hq).2.1
theorem JqS {q0 q1 q2:List DEv} {t0 t1 t2:Int} (f0:JbR 0 60 q0 t0) (f1:JbR 1 60 q1 t1) (f2:JbR 2 60 q2 t2) : ∃r,F9 [q0,q1,q2]=some ((r,()),(),())∧GdL r:=by
 have hF:FdL 0 [q0,q1,q2]:=⟨⟨_,f0⟩,⟨_,f1⟩,⟨_,f2⟩,trivial⟩;obtain ⟨r,h1,h2,h3,h4,h5⟩:=F9_fds (hF.fds (by simp));have w0:=f0.whoE;have w1:=f1.whoE;have w2:=f2.whoE;have hp:(q0++(q1++q2)).Perm r:=by simpa using h3
 have hmem : ∀e∈r,(e.1=0∨e.1=1∨e.1=2)∧1≤e.2.1∧1≤e.2.2.1:=fun e he=>by
  have:=hp.mem_iff.2 he
  simp only [List.mem_append] at this;rcases this with h | h | h
  ·have:=w0 e h;exact ⟨.inl this.1,this.2⟩
  ·have:=w1 e h;exact ⟨.inr (.inl this.1),this.2⟩
  ·have:=w2 e h;exact ⟨.inr (.inr this.1),this.2⟩
 have hfil : ∀{w:Int} {q:List DEv},(q0++(q1++q2)).filter (fun e=>e.1 == w)=q→q.Pairwise Er→r.filter (fun e=>e.1 == w)=q:=fun {w q} hq hs=>
  List.Perm.eq_of_pairwise (le:=Er) (fun a b _ _ x y=>(JvG x y).elim) (h2.sublist List.filter_sublist) hs (by rw [←hq];exact (hp.symm).filter _)
 refine ⟨r,h1,⟨fun e he=>⟨h4 e he,by have:=(hmem e he).1;omega,(hmem e he).2.1,(hmem e he).2.2⟩,h2,fun i e hi => ?_,h5⟩⟩
 have m0 : ∀e∈q0,e.1=0:=fun e he=>(w0 e he).1
 have m1 : ∀e∈q1,e.1=1:=fun e he=>(w1 e he).1
 have m2 : ∀e∈q2,e.1=2:=fun e he=>(w2 e he).1
 rcases (hmem e (JW hi)).1 with he | he | he
 ·rw [he];exact Joz (hfil (by rw [List.filter_append,List.filter_append,JdY m0,Jab m1 (by omega),Jab m2 (by omega)];simp) f0.srt) f0 hi he
 ·rw [he];exact Joz (hfil (by rw [List.filter_append,List.filter_append,Jab m0 (by omega),JdY m1,Jab m2 (by omega)];simp) f1.srt) f1 hi he
 ·rw [he];exact Joz (hfil (by rw [List.filter_append,List.filter_append,Jab m0 (by omega),Jab m1 (by omega),JdY m2];simp) f2.srt) f2 hi he
theorem evs_of (a0:List Int) (ha:U16s a0) : ∃qs r,F10t a0=some ((qs,()),(),())∧F9 qs=some ((r,()),(),())∧GdL r:=by
 obtain ⟨b,q0,q1,q2,e,f0,f1,f2⟩:=Jn0 a0 ha;obtain ⟨r,h1,h2⟩:=JqS f0 f1 f2;exact ⟨_,r,e,h1,h2⟩
theorem Juc {a:Int} {L:Nat} (h0:0≤a) (h1:a<256) (hL:L≤1000) : ∃n:Nat,n≤L∧((IntKind.wrap .i64 a):Int).tmod (IntKind.wrap .i64 (((L:Nat):Int)+1))=(n:Int):=by
 rw [wz (by omega) (by omega),wz (by omega) (by omega),Int.tmod_eq_emod_of_nonneg h0];have e1:=Int.emod_nonneg a (show (L:Int)+1≠0 by omega);have e2:=Int.emod_lt_of_pos a (show (0:Int)<(L:Int)+1 by omega);exact ⟨(a % ((L:Int)+1)).toNat,by omega,by omega⟩
theorem Jrl {a:Int} {L:Nat} (h0:0≤a) (h1:a<256) (hL:L≤1000) (hp:0<L) : ∃n:Nat,n<L∧((IntKind.wrap .i64 a):Int).tmod ((L:Nat):Int)=(n:Int):=by
 rw [wz (by omega) (by omega),Int.tmod_eq_emod_of_nonneg h0];have e1:=Int.emod_nonneg a (show (L:Int)≠0 by omega);have e2:=Int.emod_lt_of_pos a (show (0:Int)<(L:Int) by omega);exact ⟨(a % (L:Int)).toNat,by omega,by omega⟩
end Go.IM.V
namespace Go.IM.V
open Go Go.IM Go.Proofs
def kc (c:Int):ByteArray:=Jke [c]
theorem kc_lt : ∀a b:Fin 8,Op.bytesLess (kc (97+(a.val:Int))).toList (kc (97+(b.val:Int))).toList=decide (a.val<b.val):=by decide +kernel
theorem kc_eq : ∀a b:Fin 8,((kc (97+(a.val:Int))).toList == (kc (97+(b.val:Int))).toList)=decide (a.val=b.val):=by decide +kernel
theorem Jpb {a b:Int} (ha:97≤a∧a≤104) (hb:97≤b∧b≤104):Op.bytesLess (kc a).toList (kc b).toList=decide (a<b):=by
 have:=kc_lt ⟨(a - 97).toNat,by omega⟩ ⟨(b - 97).toNat,by omega⟩
 simp only [show (97:Int)+(((a - 97).toNat:Nat):Int)=a by omega,show (97:Int)+(((b - 97).toNat:Nat):Int)=b by omega] at this;rw [this];exact decide_eq_decide.2 (by omega)
theorem Jpa {a b:Int} (ha:97≤a∧a≤104) (hb:97≤b∧b≤104):((kc a).toList == (kc b).toList)=decide (a=b):=by
 have:=kc_eq ⟨(a - 97).toNat,by omega⟩ ⟨(b - 97).toNat,by omega⟩
 simp only [show (97:Int)+(((a - 97).toNat:Nat):Int)=a by omega,show (97:Int)+(((b - 97).toNat:Nat):Int)=b by omega] at this;rw [this];exact decide_eq_decide.2 (by omega)
theorem kc_inj {a b:Int} (ha:97≤a∧a≤104) (hb:97≤b∧b≤104) (h:kc a=kc b):a=b:=by
 have:=Jpa ha hb
 rw [h] at this;have h2:((kc b).toList == (kc b).toList)=true:=beq_self_eq_true _;rw [h2] at this;exact of_decide_eq_true this.symm
def Rs (l:List (Int × DCe)):Prop:=l.Pairwise (fun a b=>a.1<b.1) ∧ ∀a∈l,97≤a.1∧a.1≤104
def kl' (l:List (Int × DCe)):Cs:=l.map fun a=>(kc a.1,a.2)
def lkp (c:Int):List (Int × DCe)→Option DCe
 | []=>none
 | a::l=>if a.1=c then some a.2 else lkp c l
def ixL (c:Int) (l:List (Int × DCe)):Nat:=(l.takeWhile fun a=>decide (a.1<c)).length
theorem Jgo (c:Int) (l:List (Int × DCe)):ixL c l≤l.length:=(List.takeWhile_prefix _).length_le
theorem Rs.tail {a:Int × DCe} {l:List (Int × DCe)} (h:Rs (a::l)):Rs l:=⟨(List.pairwise_cons.1 h.1).2,fun b hb=>h.2 b (J5 _ hb)⟩
theorem lkp_gt {c:Int} : ∀{l:List (Int × DCe)},(∀a∈l,c<a.1)→lkp c l=none:=by
 intro l;induction l with
 | nil=>intro _;rfl
 | cons a l ih=>
  intro h;unfold lkp;rw [Jd (by have:=h a (List.mem_cons_self ..);omega)]
  exact ih fun b hb=>h b (J5 _ hb)
theorem JnL {c : Int} : ∀ {l : List (Int × DCe)}, Rs l → match l[ixL c l]? with
  | some a=>(a.1=c∧lkp c l=some a.2)∨(c<a.1∧lkp c l=none)
  | none=>lkp c l=none:=by
 intro l;induction l with
 | nil=>intro _;rfl
 | cons a l ih=>
  intro h;unfold ixL;by_cases ha:a.1<c
  ·rw [List.takeWhile_cons_of_pos (by simpa using ha)];show match (a::l)[(l.takeWhile fun a=>decide (a.1<c)).length+1]? with | some _=>_ | none=>_
   rw [List.getElem?_cons_succ];have:=ih h.tail
   unfold ixL at this;unfold lkp;rw [Jd (by omega)];exact this
  ·rw [List.takeWhile_cons_of_neg (by simpa using ha)];show (a.1=c∧lkp c (a::l)=some a.2)∨(c<a.1∧lkp c (a::l)=none);by_cases hc:a.1=c
   ·left;refine ⟨hc, ?_⟩;unfold lkp;rw [Jf hc]
   ·right;refine ⟨by omega, ?_⟩;unfold lkp;rw [Jd hc];refine lkp_gt fun b hb => ?_
    have:=(List.pairwise_cons.1 h.1).1 b hb
    omega
theorem mem_tw {α:Type} {p:α→Bool} : ∀{l:List α} {a:α},a∈l.takeWhile p→p a=true:=by
 intro l;induction l with
 | nil=>intro a h;cases h
 | cons b l ih=>
  intro a h;rw [List.takeWhile_cons] at h;split at h
  ·rename_i hb;rcases JJ.1 h with rfl | h
   ·exact hb
   ·exact ih h
  ·cases h
theorem Jmc {c:Int} {l:List (Int × DCe)} {i:Nat} (hi:i<ixL c l) : ∃a,l[i]? = some a∧a.1<c:=by
 unfold ixL at hi;have hm:(l.takeWhile fun a=>decide (a.1<c))[i]? = some ((l.takeWhile fun a=>decide (a.1<c))[i]):=Jj hi;refine ⟨(l.takeWhile fun a=>decide (a.1<c))[i], ?_, ?_⟩
 ·rw [←hm];have hp:=List.takeWhile_prefix (l:=l) (fun a=>decide (a.1<c));obtain ⟨t,ht⟩:=hp
  conv=>lhs;rw [←ht]
  rw [JF hi]
 ·have:=mem_tw (p:=fun a:Int × DCe=>decide (a.1<c)) (List.getElem_mem hi)
  simpa using this
theorem JhE (l:List (Int × DCe)) (i:Nat):(kl' l)[i]? = (l[i]?).map fun a=>(kc a.1,a.2):=by unfold kl';rw [List.getElem?_map]
theorem JdU (l:List (Int × DCe)):(kl' l).length=l.length:=by unfold kl';simp
theorem Jvc (l : List (Int × DCe)) (hl : l.length ≤ 1000000) (hr : Rs l) (c : Int) (hc : 97 ≤ c ∧ c ≤ 104) (J R : List Bool) (v : List Int) (t w mk : Int) : ∀ (d i : Nat), i + d = ixL c l →
  JnS (kc c) (i:Nat) (kl' l) J R v t w mk=some ((((ixL c l:Nat):Int),()),((kl' l,J,R,v,t,w,mk,()),()),()):=by
 intro d;have hle:=Jgo c l;have hn:=JdU l;induction d with
 | zero=>
  intro i hi;obtain rfl:i=ixL c l:=by omega
  rw [Jmk];unfold Jqe;have hat:=JnL (c:=c) hr;cases hg:l[ixL c l]? with
  | none=>
   have:l.length≤ixL c l:=by simpa using hg
   rw [Js (by omega)];rfl
  | some a=>
   rw [hg] at hat;have hlt:=XL hg;rw [Jc (show ((ixL c l:Nat):Int)<(((kl' l).length:Nat):Int) by omega),Jc (show 0≤((ixL c l:Nat):Int)∧((ixL c l:Nat):Int)<(((kl' l).length:Nat):Int) by omega)];have hget:(kl' l).getD (ixL c l) zKc=(kc a.1,a.2):=by rw [Jo,JhE,hg];rfl
   have ha:=hr.2 a (JW hg);have hls:Op.bytesLess (kc a.1).toList (kc c).toList=false:=by
    rw [Jpb ha hc];refine Js ?_;rcases hat with ⟨h,_⟩|⟨h,_⟩ <;> omega
   simp only [Jk,Ji,hget,hls,Jl];rfl
 | succ d ih=>
  intro i hi;rw [Jmk];unfold Jqe;obtain ⟨a,hg,hac⟩:=Jmc (c:=c) (l:=l) (i:=i) (by omega);have hlt:=XL hg;rw [Jc (show ((i:Nat):Int)<(((kl' l).length:Nat):Int) by omega),Jc (show 0≤((i:Nat):Int)∧((i:Nat):Int)<(((kl' l).length:Nat):Int) by omega)];have hget:(kl' l).getD i zKc=(kc a.1,a.2):=by rw [Jo,JhE,hg];rfl
  have ha:=hr.2 a (JW hg);have hls:Op.bytesLess (kc a.1).toList (kc c).toList=true:=by
   rw [Jpb ha hc];exact Jc hac
  simp only [Jk,Ji,hget,hls,Jb,Sum.elim_inl];rw [show IntKind.wrap .i64 ((i:Int)+1)=((i+1:Nat):Int) by rw [wz (by omega) (by omega)];rfl]
  exact ih (i+1) (by omega)
theorem Jie (l:List (Int × DCe)) (hl:l.length≤1000000) (hr:Rs l) (c:Int) (hc:97≤c∧c≤104) (f:List Bool × (List Bool × (List Int × ((Int × (Int × Unit)) × (Int × Unit))))) :
  F49 (kl' l,f) (kc c)=some ((((ixL c l:Nat):Int),(lkp c l).isSome,()),(),()):=by
 obtain ⟨J,R,v,⟨t,w,⟨⟩⟩,mk,⟨⟩⟩:=f;have hn:=JdU l;unfold F49;rw [show JnS (kc c) 0 (kl' l) J R v t w mk=_ from Jvc l hl hr c hc J R v t w mk (ixL c l) 0 (by omega)];simp only [Jb];have hat:=JnL (c:=c) hr;have hle:=Jgo c l;cases hg:l[ixL c l]? with
 | none=>
  rw [hg] at hat;have:l.length≤ixL c l:=by simpa using hg
  rw [Js (by omega),hat];rfl
 | some a=>
  rw [hg] at hat;have hlt:=XL hg;have ha:=hr.2 a (JW hg);have hget:(kl' l).getD (ixL c l) zKc=(kc a.1,a.2):=by rw [Jo,JhE,hg];rfl
  rw [Jc (show ((ixL c l:Nat):Int)<(((kl' l).length:Nat):Int) by omega),Jc (show 0≤((ixL c l:Nat):Int)∧((ixL c l:Nat):Int)<(((kl' l).length:Nat):Int) by omega)];simp only [Jk,Ji,hget,Jpa ha hc];rcases hat with ⟨h1,h2⟩|⟨h1,h2⟩
  ·rw [h2,Jc h1];rfl
  ·rw [h2,Js (by omega)];rfl
def JlE (c:Int) (x:DCe) (l:List (Int × DCe)):List (Int × DCe):=l.take (ixL c l)++(c,x)::l.drop (ixL c l+if (lkp c l).isSome then 1 else 0)
def JnE (c:Int) (l:List (Int × DCe)):List (Int × DCe):=if (lkp c l).isSome then l.take (ixL c l)++l.drop (ixL c l+1) else l
theorem Jhh {c:Int} {l:List (Int × DCe)} : ∀a∈l.take (ixL c l),a.1<c:=by
 intro a ha;obtain ⟨i,hi⟩:=List.getElem?_of_mem ha;have hil:=XL hi;rw [JE] at hil;obtain ⟨b,hb,hbc⟩:=Jmc (c:=c) (l:=l) (i:=i) (by omega);rw [List.getElem?_take,Jf (by omega),hb] at hi;cases hi;exact hbc
theorem JhY {c:Int} {l:List (Int × DCe)} (hr:Rs l) : ∀a∈l.drop (ixL c l+if (lkp c l).isSome then 1 else 0),c<a.1:=by
 intro a ha;have hat:=JnL (c:=c) hr;cases hg:l[ixL c l]? with
 | none=>
  have:l.length≤ixL c l:=by simpa using hg
  rw [List.drop_eq_nil_of_le (by omega)] at ha;cases ha
 | some b=>
  rw [hg] at hat;have hlt:=XL hg;have hd:l.drop (ixL c l)=b::l.drop (ixL c l+1):=by
   rw [List.drop_eq_getElem_cons hlt];rw [Jj hlt] at hg;cases hg;rfl
  have hp:(l.drop (ixL c l)).Pairwise (fun a b=>a.1<b.1):=hr.1.sublist (List.drop_sublist _ _);rw [hd,List.pairwise_cons] at hp;rcases hat with ⟨h1,h2⟩|⟨h1,h2⟩
  ·rw [h2] at ha;have:=hp.1 a ha
   omega
  ·rw [h2] at ha;have ha':a∈l.drop (ixL c l):=ha
   rw [hd] at ha';rcases JJ.1 ha' with rfl | h
   ·exact h1
   ·have:=hp.1 a h;omega
theorem Jt6 {c:Int} {x:DCe} {l:List (Int × DCe)} (hr:Rs l) (hc:97≤c∧c≤104):Rs (JlE c x l):=by
 unfold JlE;refine ⟨List.pairwise_append.2 ⟨hr.1.sublist (List.take_sublist _ _),List.pairwise_cons.2 ⟨fun a ha=>JhY hr a ha,hr.1.sublist (List.drop_sublist _ _)⟩,fun a ha b hb => ?_⟩,fun a ha => ?_⟩
 ·have h1:=Jhh a ha;rcases JJ.1 hb with rfl | hb
  ·exact h1
  ·have:=JhY hr b hb;omega
 ·rcases List.mem_append.1 ha with h | h
  ·exact hr.2 a (List.mem_of_mem_take h)
  ·rcases JJ.1 h with rfl | h
   ·exact hc
   ·exact hr.2 a (List.mem_of_mem_drop h)
theorem JuE {c:Int} {l:List (Int × DCe)} (hr:Rs l):Rs (JnE c l):=by
 unfold JnE;split
 ·rename_i hs;have hd:=JhY (c:=c) hr;rw [Jf hs] at hd;refine ⟨List.pairwise_append.2 ⟨hr.1.sublist (List.take_sublist _ _),hr.1.sublist (List.drop_sublist _ _),fun a ha b hb => ?_⟩,fun a ha => ?_⟩
  ·have h1:=Jhh a ha;have:=hd b hb;omega
  ·rcases List.mem_append.1 ha with h | h
   ·exact hr.2 a (List.mem_of_mem_take h)
   ·exact hr.2 a (List.mem_of_mem_drop h)
 ·exact hr
theorem Jfi (c:Int) (l r:List (Int × DCe)):lkp c (l++r)=(lkp c l).or (lkp c r):=by
 induction l with
 | nil=>rfl
 | cons a l ih=>
  show (if a.1=c then some a.2 else lkp c (l++r))=(if a.1=c then some a.2 else lkp c l).or (lkp c r);split
  ·rfl
  ·exact ih
theorem Jo5 {c:Int} : ∀{l:List (Int × DCe)},(∀a∈l,a.1≠c)→lkp c l=none:=by
 intro l;induction l with
 | nil=>intro _;rfl
 | cons a l ih=>
  intro h;unfold lkp;rw [Jd (h a (List.mem_cons_self ..))];exact ih fun b hb=>h b (J5 _ hb)
theorem JiU {c c':Int} (hne:c'≠c) {l:List (Int × DCe)} (hr:Rs l):lkp c' l=(lkp c' (l.take (ixL c l))).or (lkp c' (l.drop (ixL c l+if (lkp c l).isSome then 1 else 0))):=by
 have hat:=JnL (c:=c) hr
 conv=>lhs;rw [←List.take_append_drop (ixL c l) l]
 rw [Jfi]
 congr 1
 cases hg:l[ixL c l]? with
 | none=>
  have:l.length≤ixL c l:=by simpa using hg
  rw [List.drop_eq_nil_of_le this,List.drop_eq_nil_of_le (by omega)]
 | some b=>
  rw [hg] at hat;have hlt:=XL hg;have hd:l.drop (ixL c l)=b::l.drop (ixL c l+1):=by
   rw [List.drop_eq_getElem_cons hlt];rw [Jj hlt] at hg;cases hg;rfl
  rcases hat with ⟨h1,h2⟩|⟨h1,h2⟩
  ·rw [h2,hd];show lkp c' (b::l.drop (ixL c l+1))=lkp c' (l.drop (ixL c l+1))
   conv=>lhs;unfold lkp
   rw [Jd (by omega)]
  ·rw [h2];rfl
theorem Jug {c c':Int} {x:DCe} {l:List (Int × DCe)} (hr:Rs l):lkp c' (JlE c x l)=if c'=c then some x else lkp c' l:=by
 unfold JlE;by_cases h:c'=c
 ·subst h;rw [Jf rfl,Jfi,Jo5 (fun a ha=>by have:=Jhh a ha;omega)]
  show lkp c' ((c',x)::_)=_;unfold lkp;rw [Jf rfl]
 ·rw [Jd h,JiU h hr,Jfi]
  congr 1
  show lkp c' ((c,x)::_)=_
  conv=>lhs;unfold lkp
  rw [Jd (fun q=>h q.symm)]
theorem Juh {c c':Int} {l:List (Int × DCe)} (hr:Rs l):lkp c' (JnE c l)=if c'=c then none else lkp c' l:=by
 unfold JnE;split
 ·rename_i hs;have hd:=JhY (c:=c) hr;rw [Jf hs] at hd;by_cases h:c'=c
  ·subst h;rw [Jf rfl,Jfi,Jo5 (fun a ha=>by have:=Jhh a ha;omega),Jo5 (fun a ha=>by have:=hd a ha;omega)]
   rfl
  ·rw [Jd h,JiU h hr,Jfi,Jf hs]
 ·rename_i hs;by_cases h:c'=c
  ·subst h;rw [Jf rfl];cases hq:lkp c' l with
   | none=>rfl
   | some x=>rw [hq] at hs;exact absurd rfl hs
  ·rw [Jd h]
theorem Jra (c:Int) (x:DCe) (l:List (Int × DCe)):(JlE c x l).length≤l.length+1:=by
 unfold JlE;rw [Jz,Ju,JE,JI];have:=Jgo c l
 split <;> omega
theorem Jr7 (c:Int) (l:List (Int × DCe)):(JnE c l).length≤l.length:=by
 unfold JnE;have:=Jgo c l
 split
 ·rw [Jz,JE,JI];omega
 ·exact Je _
theorem ix_lt {c:Int} {l:List (Int × DCe)} (hr:Rs l) (h:(lkp c l).isSome=true):ixL c l<l.length:=by
 have hat:=JnL (c:=c) hr;cases hg:l[ixL c l]? with
 | none=>rw [hg] at hat;rw [hat] at h;cases h
 | some a=>exact XL hg
theorem Jvs (l:List (Int × DCe)) (hl:l.length≤100000) (hr:Rs l) (c:Int) (hc:97≤c∧c≤104) (x:DCe) (f:List Bool × (List Bool × (List Int × ((Int × (Int × Unit)) × (Int × Unit))))) :
  F61 (kl' l,f) (kc c,x)=some (((kl' (JlE c x l),f),()),(),()):=by
 have hn:=JdU l;have hle:=Jgo c l;have hF:=Jie l (by omega) hr c hc f;have e1:(kl' l).take (ixL c l) ++ [(kc c,x)]++(kl' l).drop (ixL c l+if (lkp c l).isSome then 1 else 0)=kl' (JlE c x l):=by
  unfold JlE kl';rw [List.map_append,List.map_cons,List.map_take,List.map_drop,List.append_assoc];rfl
 unfold F61;rw [hF];simp only [Jb];rw [Jc (show 0≤((ixL c l:Nat):Int)∧((ixL c l:Nat):Int)≤(((kl' l).length:Nat):Int) by omega)];simp only [Jk,Ji];rw [Jc (show ((kl' l).take (ixL c l)).length<lim by rw [Jdf,JE];omega)]
 rw [Jc (show ((kl' l).take (ixL c l)).length + [(kc c,x)].length<lim by rw [Jdf,JE];simp only [Ju,JD];omega)]
 simp only [Jk];cases hs:(lkp c l).isSome with
 | true=>
  have hlt:=ix_lt hr hs;rw [hs,Jf rfl] at e1;have hw:IntKind.wrap .i64 (((ixL c l:Nat):Int)+1)=((ixL c l+1:Nat):Int):=by rw [wz (by omega) (by omega)];rfl
  rw [hw];simp only [Jk,Ji];rw [Jc (show 0≤((ixL c l+1:Nat):Int)∧((ixL c l+1:Nat):Int)≤(((kl' l).length:Nat):Int) by omega)];rw [Jc (show ((kl' l).take (ixL c l) ++ [(kc c,x)]).length+((kl' l).drop (ixL c l+1)).length<lim by rw [Jdf,Jz,JE,JI];simp only [Ju,JD];omega)]
  simp only [Jk];rw [e1]
 | false=>
  rw [hs,Jd (by simp)] at e1;simp only [Jl];rw [Jc (show ((kl' l).take (ixL c l) ++ [(kc c,x)]).length+((kl' l).drop (ixL c l)).length<lim by rw [Jdf,Jz,JE,JI];simp only [Ju,JD];omega)]
  simp only [Jk];rw [Nat.add_zero] at e1;rw [e1]
theorem Jvr (l:List (Int × DCe)) (hl:l.length≤100000) (hr:Rs l) (c:Int) (hc:97≤c∧c≤104) (f:List Bool × (List Bool × (List Int × ((Int × (Int × Unit)) × (Int × Unit))))) :
  F63 (kl' l,f) (kc c)=some (((kl' (JnE c l),f),()),(),()):=by
 have hn:=JdU l;have hle:=Jgo c l;have hF:=Jie l (by omega) hr c hc f;unfold F63;rw [hF];simp only [Jb];cases hs:(lkp c l).isSome with
 | true=>
  have hlt:=ix_lt hr hs;have e1:(kl' l).take (ixL c l)++(kl' l).drop (ixL c l+1)=kl' (JnE c l):=by
   unfold JnE kl';rw [Jf hs,List.map_append,List.map_take,List.map_drop]
  have hw:IntKind.wrap .i64 (((ixL c l:Nat):Int)+1)=((ixL c l+1:Nat):Int):=by rw [wz (by omega) (by omega)];rfl
  rw [hw];simp only [Jk,Ji];rw [Jc (show 0≤((ixL c l:Nat):Int)∧((ixL c l:Nat):Int)≤(((kl' l).length:Nat):Int) by omega),Jc (show ((kl' l).take (ixL c l)).length<lim by rw [Jdf,JE];omega),Jc (show 0≤((ixL c l+1:Nat):Int)∧((ixL c l+1:Nat):Int)≤(((kl' l).length:Nat):Int) by omega)]
  rw [Jc (show ((kl' l).take (ixL c l)).length+((kl' l).drop (ixL c l+1)).length<lim by rw [Jdf,JE,JI];omega)]
  simp only [Jk];rw [e1]
 | false=>
  have:JnE c l=l:=by unfold JnE;rw [Jd (by rw [hs];simp)]
  rw [this];rfl
end Go.IM.V
namespace Go.IM.V
open Go Go.IM Go.Proofs
theorem F59_eq (e:Ev) (h:EvH e):F59 e=some ((0,()),(),()):=by
 obtain ⟨⟨h1,h2,h3,h4,h5,h6,⟨k1,k2⟩,⟨c,c0,c1,hc⟩,htx,hnum,hsub⟩,hw,hs,ht⟩:=h;have hsz:e.2.2.2.2.1.size=1:=by rw [hc,Jc8];rfl
 have htl:e.2.2.2.2.2.1.length≤1:=by
  rcases htx with hx|⟨_,c,_,_,hx⟩ <;> rw [hx] <;> simp
 have e5:(e.2.2.2.1 == 5)=false:=by simp;omega
 have s0:(e.2.1 == 0)=false:=by simp;omega
 have t0:(e.2.2.1 == 0)=false:=by simp;omega
 unfold F59;rw [hsz];simp only [Js (show ¬e.1<0 by omega),Js (show ¬e.1 > 63 by omega),Jl,s0,t0,Js (show ¬e.2.2.2.1<1 by omega),Js (show ¬e.2.2.2.1 > 6 by omega),e5,Jc (show e.2.2.2.1≤4 by omega),Jk,show (((1:Nat):Int) == 0)=false from rfl,show decide (((1:Nat):Int) > 64)=false from rfl,
  Js (show ¬(((e.2.2.2.2.2.1.length:Nat):Int) > 1048576) by omega),Js (show ¬(e.2.1≥9223372036854775808) by omega),Js (show ¬(e.2.2.1≥9223372036854775808) by omega)]
 cases (e.2.2.2.1 == 1) <;> rfl
theorem JsD (e:Ev) (h:EvG e) : ∃q,F60 e=some (((),()),(),(q,()))∧q.length<100000:=by
 obtain ⟨h1,h2,h3,h4,h5,h6,⟨k1,k2⟩,⟨c,c0,c1,hc⟩,htx,hnum,hsub⟩:=h;have hsz:(XS e.2.2.2.2.1).length<1000:=by rw [JgB,hc,Jc8];simp
 have htl:e.2.2.2.2.2.1.length<1000:=by
  rcases htx with hx|⟨_,c,_,_,hx⟩ <;> rw [hx] <;> simp
 unfold F60;rw [Jmy (n:=e.1) (by omega) (by omega)];obtain ⟨q1,e1,l1⟩:=Jic e.1 [] (by omega) (by omega) (by simp);simp only [JD] at l1;rw [e1];simp only [Jb];obtain ⟨q2,e2,l2⟩:=Jic e.2.1 q1 (by omega) (by omega) (by omega);rw [e2];simp only [Jb];obtain ⟨q3,e3,l3⟩:=Jic e.2.2.1 q2 (by omega) (by omega) (by omega);rw [e3];simp only [Jb]
 obtain ⟨q4,e4,l4⟩:=JqC (XS e.2.2.2.2.1) (q3 ++ [e.2.2.2.1]) hsz (by simp;omega)
 rw [Jc (show q3.length + [e.2.2.2.1].length<lim by rw [Jdf];simp only [Ju,JD];omega),Jc (show e.2.2.2.1≤4 by omega),e4]
 simp only [Jk,Jb];simp only [Jz,Ju,JD] at l4;obtain ⟨q5,e5,l5⟩:=JqC e.2.2.2.2.2.1 q4 htl (by omega);obtain ⟨x,ex⟩:=Jvq e.2.2.2.2.2.2.1;obtain ⟨q6,e6,l6⟩:=Jvm x q4 (by omega);generalize e.2.2.2.1=kd at *;have hk:kd=1∨kd=2∨kd=3∨kd=4:=by omega
 rcases hk with rfl | rfl | rfl | rfl
 ·simp only [show ((1:Int) == 1)=true from rfl,show ((1:Int) == 2)=false from rfl,show ((1:Int) == 3)=false from rfl,show ((1:Int) == 5)=false from rfl,Jk,Jl,e5,Jb];exact ⟨_,rfl,by omega⟩
 ·simp only [show ((2:Int) == 1)=false from rfl,show ((2:Int) == 2)=true from rfl,show ((2:Int) == 5)=false from rfl,Jk,Jl,ex,e6,Jb];exact ⟨_,rfl,by omega⟩
 ·simp only [show ((3:Int) == 1)=false from rfl,show ((3:Int) == 2)=false from rfl,show ((3:Int) == 3)=true from rfl,show ((3:Int) == 5)=false from rfl,Jk,Jl,ex,e6,Jb];exact ⟨_,rfl,by omega⟩
 ·simp only [show ((4:Int) == 1)=false from rfl,show ((4:Int) == 2)=false from rfl,show ((4:Int) == 3)=false from rfl,show ((4:Int) == 5)=false from rfl,Jk,Jl,Jb];exact ⟨_,rfl,by omega⟩
theorem Jvg (p:List Int) (L:Cs) (J R:List Bool) (t w:Int) (H:List Int) (hp:p.length<1000000) : ∀(d k:Nat) (mk:Int),k+d=p.length →
  ∃mk',JgJ p (k:Nat) L J R t w mk H=some ((),((L,J,R,(),t,w,mk',()),(H,()),()),()):=by
 intro d;induction d with
 | zero=>
  intro k mk hk;rw [Jjw];unfold Jjn;rw [Js (by omega)];exact ⟨mk,rfl⟩
 | succ d ih=>
  intro k mk hk;rw [Jjw];unfold Jjn;rw [Jc (show (k:Int)<((p.length:Nat):Int) by omega),Jc (show 0≤(k:Int)∧(k:Int)<((p.length:Nat):Int) by omega)];simp only [Jk,Jb,Sum.elim_inl];rw [show IntKind.wrap .i64 ((k:Int)+1)=((k+1:Nat):Int) by rw [wz (by omega) (by omega)];rfl]
  exact ih (k+1) _ (by omega)
structure ROK (l:List DEv) (cs:List (Int × DCe)) (H:List Int) (t w:Int):Prop where
 rs:Rs cs
 len:cs.length≤l.length
 lk : ∀c,97≤c→c≤104→lkp c cs=cel (kc c) l
 hl:H.length=64
 hg : ∀k:Nat,k<64→H.getD k 0=Jsc l (k:Int)
 sp:(t,(w,()))=Jnl l
noncomputable def JcP (c:Int) (cs:List (Int × DCe)) (e:DEv):List (Int × DCe):=if kdE e=4 then JnE c cs else JlE c ((Jbw (lkp c cs) e).getD cd0) cs
theorem Jq2 {c c':Int} {cs:List (Int × DCe)} {e:DEv} (hr:Rs cs) (hk:1≤kdE e∧kdE e≤4):lkp c' (JcP c cs e)=if c'=c then Jbw (lkp c cs) e else lkp c' cs:=by
 unfold JcP;by_cases h4:kdE e=4
 ·rw [Jf h4,Juh hr];by_cases e1:c'=c
  ·rw [Jf e1,Jf e1];unfold Jbw;rw [Jd (by omega),Jd (by omega),Jd (by omega)]
  ·rw [Jd e1,Jd e1]
 ·rw [Jd h4,Jug hr];by_cases e1:c'=c
  ·rw [Jf e1,Jf e1];obtain ⟨x,hx⟩:=Jge (c:=lkp c cs) (e:=e) (by omega);rw [hx];rfl
  ·rw [Jd e1,Jd e1]
theorem Jq1 {c:Int} {cs:List (Int × DCe)} {e:DEv} (hr:Rs cs) (hc:97≤c∧c≤104):Rs (JcP c cs e):=by
 unfold JcP;split
 ·exact JuE hr
 ·exact Jt6 hr hc
theorem Jou (c:Int) (cs:List (Int × DCe)) (e:DEv):(JcP c cs e).length≤cs.length+1:=by
 unfold JcP;split
 ·exact Nat.le_succ_of_le (Jr7 c cs)
 ·exact Jra c _ cs
theorem Jtd {c:Int} {cs:List (Int × DCe)} {x:DCe} (hr:Rs cs) (h:lkp c cs=some x):ixL c cs<cs.length∧(kl' cs).getD (ixL c cs) zKc=(kc c,x):=by
 have hat:=JnL (c:=c) hr;cases hg:cs[ixL c cs]? with
 | none=>rw [hg] at hat;rw [hat] at h;cases h
 | some a=>
  rw [hg] at hat;refine ⟨XL hg, ?_⟩;rw [Jo,JhE,hg];rcases hat with ⟨h1,h2⟩|⟨h1,h2⟩
  ·rw [h2] at h;cases h;rw [←h1];rfl
  ·rw [h2] at h;cases h
theorem F24_eq (e : Ev) (cs : List (Int × DCe)) (hcs : cs.length ≤ 10000) (hr : Rs cs) (J R : List Bool) (H : List Int) (t w mk : Int) (h : EvH e) (c : Int) (hc : 97 ≤ c ∧ c ≤ 104) (hkey : XX e = kc c) (hk : kl (t, (w, ())) (pl e) = true) (hH : H.length = 64) (hs : e.2.1 = H.getD e.1.toNat 0 + 1) (hm : ∀ x, lkp c cs = some x → Gc x) :
  ∃mk',F24 (kl' cs,(J,(R,(H,((t,(w,())),(mk,())))))) e=some (((kl' (JcP c cs e),(J,(R,(H.set e.1.toNat e.2.1,(pl e,(mk',())))))),0,()),(),()):=by
 obtain ⟨q,hq,hql⟩:=JsD e h.g;have hg:=h.g;have hf:=hg.f;have hw0:=hg.w0;have hw:=h.w;have hgn:Gf (nuE e):=by
  obtain ⟨_,_,_,hnum,_⟩:=hf;rcases hnum with h|⟨_,i,h0,h1,h⟩
  ·show Gf e.2.2.2.2.2.2.1;rw [h];exact Jfy
  ·show Gf e.2.2.2.2.2.2.1;rw [h];exact Jpw h0 h1
 obtain ⟨mk',hL⟩:=Jvg q (kl' cs) J R e.2.2.1 e.1 (H.set e.1.toNat e.2.1) (by omega) q.length 0 mk (by omega);refine ⟨mk', ?_⟩;have h12:F12 e=some (((pl e),()),(),()):=rfl;have h14:F14 (t,(w,())) (pl e)=some ((kl (t,(w,())) (pl e),()),(),()):=Jmw _ _;rw [hk] at h14;have hws:IntKind.wrap .u64 (H.getD e.1.toNat 0+1)=e.2.1:=by rw [←hs];exact Jmy hg.s0 (by have:=hg.s1;omega)
 have hne:(e.2.1 != IntKind.wrap .u64 (H.getD e.1.toNat 0+1))=false:=by rw [hws];simp
 have hL':JgJ q 0 (kl' cs) J R (pl e).1 (pl e).2.1 mk (H.set e.1.toNat e.2.1)=_:=hL
 unfold F24;dsimp only;simp only [JbG];rw [F59_eq e h];simp only [Jb,show ((0:Int) != 0)=false from rfl,Jl];rw [h12];simp only [Jb];rw [show ((pl e).1,(pl e).2.1,())=pl e from rfl,h14];simp only [Jb,Bool.not_true,Jl];rw [Jc (show 0≤e.1∧e.1<((H.length:Nat):Int) by omega),hne,Jc (show H.length<lim by rw [Jdf];omega),Jc (show e.1.toNat<H.length by omega)]
 simp only [Jk,Jl];rw [hq];simp only [Jb];rw [hL'];simp only [Jb];have hk14:=hf.1;have hkey':e.2.2.2.2.1=kc c:=hkey
 rw [hkey'];have hcase:kdE e=1∨kdE e=2∨kdE e=3∨kdE e=4:=by show e.2.2.2.1=1∨e.2.2.2.1=2∨e.2.2.2.1=3∨e.2.2.2.1=4;omega
 have hP : ∀x f,F61 (kl' cs,f) (kc c,x)=some (((kl' (JlE c x cs),f),()),(),()):=fun x f=>Jvs cs (by omega) hr c hc x f
 rcases hcase with hkd | hkd | hkd | hkd
 ·have hM:JcP c cs e=JlE c (1,(txE e,(0,()))) cs:=by unfold JcP Jbw;rw [Jd (by omega),Jf hkd];rfl
  rw [hM,show e.2.2.2.1=1 from hkd];simp only [show ((1:Int) == 1)=true from rfl,Jk];rw [hP];rfl
 ·have hM:JcP c cs e=JlE c (2,([],(nuE e,()))) cs:=by unfold JcP Jbw;rw [Jd (by omega),Jd (by omega),Jf hkd];rfl
  rw [hM,show e.2.2.2.1=2 from hkd,JqE (x:=e.2.2.2.2.2.2.1) hgn];simp only [show ((2:Int) == 1)=false from rfl,show ((2:Int) == 2)=true from rfl,Jk,Jl,Jb];rw [hP];rfl
 ·have hM:JcP c cs e=JlE c (2,([],((if ((lkp c cs).getD cd0).1=2 then Ju3 ((lkp c cs).getD cd0).2.2.1 (nuE e) else nuE e),()))) cs:=by unfold JcP Jbw;rw [Jd (by omega),Jd (by omega),Jd (by omega),Jf hkd];rfl
  rw [hM,show e.2.2.2.1=3 from hkd,JqE (x:=e.2.2.2.2.2.2.1) hgn];simp only [show ((3:Int) == 1)=false from rfl,show ((3:Int) == 2)=false from rfl,show ((3:Int) == 3)=true from rfl,Jk,Jl,Jb];rw [Jie cs (by omega) hr c hc];simp only [Jb];cases hq2:lkp c cs with
  | none=>
   simp only [Option.isSome_none,Jl];rw [hP];rfl
  | some x=>
   obtain ⟨hix,hget⟩:=Jtd hr hq2;have hn:=JdU cs;have hgc:=(hm x hq2).2.1;rw [Jc (show 0≤((ixL c cs:Nat):Int)∧((ixL c cs:Nat):Int)<(((kl' cs).length:Nat):Int) by omega)];simp only [Option.isSome_some,Jk,Ji,hget,Option.getD_some];by_cases h2:x.1=2
   ·have hb:(x.1 == 2)=true:=by rw [h2];rfl
    obtain ⟨ha,hag⟩:=Jh9 hgc hgn;have ha':(FloatKind.f64.format.add x.2.2.1 e.2.2.2.2.2.2.1).isSome=true:=ha
    rw [Jf h2,hb,ha'];simp only [Jk];have h62:F62 ((FloatKind.f64.format.add x.2.2.1 e.2.2.2.2.2.2.1).getD 0)=_:=JqE hag;rw [h62];simp only [Jb];rw [hP];rfl
   ·have hb:(x.1 == 2)=false:=by simpa using h2
    rw [Jd h2,hb];simp only [Jl];rw [hP];rfl
 ·have hM:JcP c cs e=JnE c cs:=by unfold JcP;rw [Jf hkd]
  rw [hM,show e.2.2.2.1=4 from hkd];simp only [show ((4:Int) == 1)=false from rfl,show ((4:Int) == 2)=false from rfl,show ((4:Int) == 3)=false from rfl,show ((4:Int) == 4)=true from rfl,Jk,Jl];rw [Jvr cs (by omega) hr c hc];rfl
theorem ROK.step {r:List DEv} (hg:GdL r) {i:Nat} {e:DEv} (hi:r[i]? = some e) {cs:List (Int × DCe)} {H:List Int} {t w:Int} (h:ROK (r.take i) cs H t w) (J R:List Bool) (mk:Int) :
  ∃cs' H' t' w' mk',F24 (kl' cs,(J,(R,(H,((t,(w,())),(mk,())))))) e=some (((kl' cs',(J,(R,(H',((t',(w',())),(mk',())))))),0,()),(),())∧ROK (r.take (i+1)) cs' H' t' w':=by
 have hel:=hg.ev e (JW hi);have hil:=XL hi;have hl:=hg.len;have hw0:=hel.g.w0;have hw:=hel.w;have hw1:(e.1.toNat:Int)=e.1:=by omega
 have hk:=hel.g.f.1;obtain ⟨c,c0,c1,hc⟩:=hel.g.f.2.1;have hcs:cs.length≤10000:=by have:=h.len;rw [JE] at this;omega
 obtain ⟨mk',hF⟩:=F24_eq e cs hcs h.rs J R H t w mk hel c ⟨c0,by omega⟩ hc (by rw [h.sp];exact Jo9 hg hi) h.hl (by rw [h.hg _ (by omega),hw1];exact hg.sq i e hi)
  (fun x hx=>Jds (hg.evf i) x (by rw [←h.lk c c0 (by omega)];exact hx))
 refine ⟨_,_,_,_,mk',hF, ?_⟩;rw [X3 hi];refine ⟨Jq1 h.rs ⟨c0,by omega⟩, ?_,fun c' h0 h1 => ?_,by rw [JZ];exact h.hl,fun k hk' => ?_, ?_⟩
 ·have:=Jou c cs e
  have:=h.len
  rw [Jz,List.length_singleton];omega
 ·rw [Jq2 h.rs ⟨hk.1,hk.2⟩,Jk9,show XX e=kc c from hc];by_cases hcc:c'=c
  ·subst hcc;rw [Jf rfl,Jf rfl,h.lk c' h0 h1]
  ·rw [Jd hcc,Jd (fun q=>hcc (kc_inj ⟨c0,by omega⟩ ⟨h0,h1⟩ q).symm),h.lk c' h0 h1]
 ·rw [Jl4,Jo,List.getElem?_set];have hhl:=h.hl;by_cases hkk:e.1.toNat=k
  ·rw [Jf hkk,Jf (by omega),Jf (by omega),Option.getD_some,hg.sq i e hi];rw [show e.1=(k:Int) by omega];omega
  ·rw [Jd hkk,Jd (by omega),←List.getD_eq_getElem?_getD,h.hg k hk'];omega
 ·rw [Jcd];rfl
theorem Jvj {r:List DEv} (hg:GdL r) (n:Nat) (hn:n≤r.length) (J R:List Bool) : ∀(d k:Nat) (cs:List (Int × DCe)) (H:List Int) (t w mk:Int),k+d=n→ROK (r.take k) cs H t w →
  ∃cs' H' t' w' mk',JnY (r.take n) (k:Nat) (kl' cs) J R H t w mk=some ((),((kl' cs',J,R,H',t',w',mk',()),()),())∧ROK (r.take n) cs' H' t' w':=by
 intro d;have hl:=hg.len;have hnl:(r.take n).length=n:=by rw [JE];omega
 induction d with
 | zero=>
  intro k cs H t w mk hk h;obtain rfl:k=n:=by omega
  rw [Jmt];unfold Jqn;rw [Js (by omega)];exact ⟨cs,H,t,w,mk,rfl,h⟩
 | succ d ih=>
  intro k cs H t w mk hk h;have hi:r[k]? = some r[k]:=Jj (by omega);obtain ⟨cs1,H1,t1,w1,mk1,hF,h1⟩:=h.step hg hi J R mk;rw [Jmt];unfold Jqn;rw [Jc (show (k:Int)<(((r.take n).length:Nat):Int) by omega),Jc (show 0≤(k:Int)∧(k:Int)<(((r.take n).length:Nat):Int) by omega)];simp only [Jk,Ji]
  rw [Qo (show k<(r.take n).length by omega),List.getElem_take,hF];simp only [Jb,Sum.elim_inl];rw [show IntKind.wrap .i64 ((k:Int)+1)=((k+1:Nat):Int) by rw [wz (by omega) (by omega)];rfl]
  exact ih (k+1) cs1 H1 t1 w1 mk1 (by omega) h1
theorem F21_eq:F21=some ((([],(J0,(R0,(List.replicate 64 0,((0,(0,())),(14695981039346656037,())))))),()),(),()):=by
 unfold F21;simp only [Jdf];rfl
theorem ROK.nil:ROK [] [] (List.replicate 64 0) 0 0:=by
 refine ⟨⟨List.Pairwise.nil,fun a h=>by cases h⟩,Je _,fun c _ _=>rfl,rfl,fun k hk => ?_,rfl⟩;rw [Jo,List.getElem?_replicate,Jf hk];rfl
theorem Jvz {r:List DEv} (hg:GdL r) (n:Nat) (hn:n≤r.length) : ∃cs H t w mk,F15 (r.take n)=some (((kl' cs,(J0,(R0,(H,((t,(w,())),(mk,())))))),()),(),())∧ROK (r.take n) cs H t w:=by
 obtain ⟨cs,H,t,w,mk,h1,h2⟩:=Jvj hg n hn J0 R0 n 0 [] (List.replicate 64 0) 0 0 14695981039346656037 (by omega) ROK.nil;refine ⟨cs,H,t,w,mk, ?_,h2⟩;unfold F15;rw [F21_eq];simp only [Jb];rw [show JnY (r.take n) 0 [] J0 R0 (List.replicate 64 0) 0 0 14695981039346656037=_ from h1];rfl
theorem JsF {l:List DEv} (hl:l.length≤1000) (hev : ∀e∈l,EvF e) {cs:List (Int × DCe)} {H:List Int} {t w:Int} (h:ROK l cs H t w) (mk:Int) (c:Int) (hc:97≤c∧c≤104) :
  F17 ((cel (kc c) l).getD cd0) (cel (kc c) l).isSome (kl' cs,(J0,(R0,(H,((t,(w,())),(mk,())))))) (kc c)=some ((true,()),(),()):=by
 have hcs:=h.len;unfold F17;rw [Jie cs (by omega) h.rs c hc,h.lk c hc.1 hc.2];simp only [Jb,beq_self_eq_true,Bool.not_true,Jl];cases hq:cel (kc c) l with
 | none=>rfl
 | some x=>
  obtain ⟨hix,hget⟩:=Jtd h.rs ((h.lk c hc.1 hc.2).trans hq);have hn:=JdU cs;have hx:=(Jds hev x hq).2.1;simp only [Option.isSome_some,Bool.not_true,Jl,Option.getD_some];rw [Jc (show 0≤((ixL c cs:Nat):Int)∧((ixL c cs:Nat):Int)<(((kl' cs).length:Nat):Int) by omega)];simp only [Jk,Ji,hget,beq_self_eq_true];rw [JsE hx]
  rfl
theorem Jvk {r : List DEv} (hg : GdL r) (s : Pl) (t w : Int) (v : List Int) (t1 w1 mk : Int) (ms : Cs) (qs : ZVt) : ∀ (d k : Nat), k + d = r.length → (∀ (i : Nat) (e : DEv), r[i]? = some e → i < k → kl s (pl e) = false) →
  ∃m,Upto r s m∧Jez r (k:Nat) s.1 s.2.1 t w J0 R0 v t1 w1 mk ms qs.1 qs.2.1 qs.2.2.1 qs.2.2.2.1=some (((m:Int),()),((s.1,s.2.1,()),((),(),(),()),(t,w,()),((),J0,R0,v,t1,w1,mk,()),((),(),(),(),(),()),(ms,()),()),(qs.1,qs.2.1,qs.2.2.1,qs.2.2.2.1,())):=by
 intro d;have hl:=hg.len;induction d with
 | zero=>
  intro k hk h;refine ⟨k,⟨by omega,fun i e hi=>⟨fun _=>by have:=XL hi;omega,fun q=>h i e hi q⟩⟩, ?_⟩
  rw [Jms];unfold Jqm;rw [Js (by omega)];rfl
 | succ d ih=>
  intro k hk h;have hkl:k<r.length:=by omega
  have hi:r[k]? = some r[k]:=Jj hkl;rw [Jms];unfold Jqm;rw [Jc (show (k:Int)<((r.length:Nat):Int) by omega),Jc (show 0≤(k:Int)∧(k:Int)<((r.length:Nat):Int) by omega)];simp only [Jk,Ji];rw [Qo hkl,JjG];simp only [Jb];rw [Jmw];simp only [Jb,JoO];cases hs:kl s (pl r[k]) with
  | true=>
   refine ⟨k,⟨by omega,fun i e hie=>⟨fun q => ?_,fun q=>h i e hie q⟩⟩,rfl⟩;rcases Nat.lt_trichotomy i k with hlt | rfl | hlt
   ·exact hlt
   ·rw [hi] at hie;cases hie;rw [hs] at q;cases q
   ·have hil:=XL hie;rw [Jj hil] at hie;cases hie;have hE:=List.pairwise_iff_getElem.1 hg.er k i hkl hil hlt;unfold Er at hE;rw [Jdg] at hE hs;rw [JiY] at q;omega
  | false=>
   simp only [Bool.not_false,Jk,Jb,Sum.elim_inl];rw [show IntKind.wrap .i64 ((k:Int)+1)=((k+1:Nat):Int) by rw [wz (by omega) (by omega)];rfl]
   refine ih (k+1) (by omega) fun i e hie hik => ?_
   rcases JB i k with hlt | hge
   ·exact h i e hie hlt
   ·obtain rfl:i=k:=by omega
    rw [hi] at hie;cases hie;exact hs
theorem JtP {r:List DEv} {s:Pl} {m n:Nat} (hu:Upto r s m) (hn:n≤r.length) (h:kl s (Jnl (r.take n))=false):n≤m:=by
 rcases Nat.eq_zero_or_pos n with h0 | h0
 ·omega
 ·obtain ⟨j,rfl⟩ : ∃j,n=j+1:=⟨n - 1,by omega⟩;have hj:r[j]? = some r[j]:=Jj (by omega);rw [X3 hj,Jcd] at h;have:=(hu.2 j _ hj).1 h
  omega
theorem Jvi {r : List DEv} (hg : GdL r) {n m : Nat} (hn : n ≤ r.length) {s : Pl} (hu : Upto r s m) (v : List Int) (t w mk : Int) (ms : Cs) (hf : FOK (r.take n) v t w ms) (cs : List (Int × DCe)) (H : List Int) (t' w' mk' : Int) (hr : ROK (r.take m) cs H t' w') : ∀ (d k : Nat), k + d = 6 →
  ∃x,Jey (k:Nat) s.1 s.2.1 t w (kl' cs) J0 R0 H t' w' mk' J0 R0 v t w mk ms (Qj r kA n (r.length - n)) (Qj r kB n (r.length - n)) (Qj r kC n (r.length - n)) (Qj r kD n (r.length - n))=some (.inr x):=by
 intro d;have hl:=hg.len;induction d with
 | zero=>
  intro k hk;rw [Jmr];unfold Jql;rw [Js (by omega)];exact ⟨_,rfl⟩
 | succ d ih=>
  intro k hk;rw [Jmr];unfold Jql;rw [Jc (show (k:Int)<6 by omega)];have hw:IntKind.wrap .i64 ((k:Int)+1)=((k+1:Nat):Int):=by rw [wz (by omega) (by omega)];rfl
  have hwk:IntKind.wrap .u8 (97+IntKind.wrap .u8 (k:Int))=97+(k:Int):=by
   have w8 : ∀n:Int,0≤n→n<256→IntKind.wrap .u8 n=n:=fun n h0 h1=>by
    have:IntKind.wrap .u8 n=n % 256:=by simp [IntKind.wrap,IntKind.bits,IntKind.signed]
    rw [this];omega
   rw [w8 (k:Int) (by omega) (by omega),w8 _ (by omega) (by omega)]
  rw [hwk,show Jke [97+(k:Int)]=kc (97+(k:Int)) from rfl];obtain ⟨x,hx⟩:=ih (k+1) (by omega);refine ⟨x, ?_⟩;simp only [Jk];rw [show F14 (s.1,(s.2.1,())) (t,(w,()))=some ((kl s (t,(w,())),()),(),()) from Jmw _ _];cases hs:kl s (t,(w,())) with
  | true=>
   have h1:F16 (kc (97+(k:Int))) (s.1,(s.2.1,())) J0 R0 v t w mk ms (Qj r kA n (r.length - n)) (Qj r kB n (r.length - n)) (Qj r kC n (r.length - n)) (Qj r kD n (r.length - n))=_:=Jvx _ s v t w mk ms _ _ _ _ hs;rw [h1];simp only [Jk,Jb,show ((13:Int) != 13)=false from rfl,Jl,Sum.elim_inl,hw];exact hx
  | false=>
   have hnm:=JtP hu hn (by rw [←hf.sp];exact hs)
   have h1:F16 (kc (97+(k:Int))) (s.1,(s.2.1,())) J0 R0 v t w mk ms (Qj r kA n (r.length - n)) (Qj r kB n (r.length - n)) (Qj r kC n (r.length - n)) (Qj r kD n (r.length - n))=_:=Jvy hg hnm hu _ v t w mk ms hf hs;rw [h1];simp only [Jb,show ((0:Int) != 0)=false from rfl,Jl];rw [JsF (by rw [JE];omega) (hg.evf m) hr mk' (97+(k:Int)) (by omega)]
   simp only [Jb,Bool.not_true,Jl,Sum.elim_inl,hw];exact hx
theorem JtS {r:List DEv} (hg:GdL r) {n:Nat} (hn:n≤r.length) (s:Pl) (v:List Int) (t w mk:Int) (ms:Cs) (hf:FOK (r.take n) v t w ms) :
  ∃(m:Nat) (S:ZSt) (x:_),m≤r.length∧Jez r 0 s.1 s.2.1 t w J0 R0 v t w mk ms (Qj r kA n (r.length - n)) (Qj r kB n (r.length - n)) (Qj r kC n (r.length - n)) (Qj r kD n (r.length - n))=some (((m:Int),()),((s.1,s.2.1,()),((),(),(),()),(t,w,()),((),J0,R0,v,t,w,mk,()),((),(),(),(),(),()),(ms,()),()),(Qj r kA n (r.length - n),Qj r kB n (r.length - n),Qj r kC n (r.length - n),Qj r kD n (r.length - n),())) ∧
   F15 (r.take m)=some ((S,()),(),()) ∧
   Jey 0 s.1 s.2.1 t w S.1 S.2.1 S.2.2.1 S.2.2.2.1 S.2.2.2.2.1.1 S.2.2.2.2.1.2.1 S.2.2.2.2.2.1 J0 R0 v t w mk ms (Qj r kA n (r.length - n)) (Qj r kB n (r.length - n)) (Qj r kC n (r.length - n)) (Qj r kD n (r.length - n))=some (.inr x):=by
 obtain ⟨m,hu,h1⟩:=Jvk hg s t w v t w mk ms (Qj r kA n (r.length - n),Qj r kB n (r.length - n),Qj r kC n (r.length - n),Qj r kD n (r.length - n),()) r.length 0 (by omega) (fun i e _ h=>by omega);obtain ⟨cs,H,t',w',mk',h2,h3⟩:=Jvz hg m hu.1;obtain ⟨x,h4⟩:=Jvi hg hn hu v t w mk ms hf cs H t' w' mk' h3 6 0 rfl;exact ⟨m,_,x,hu.1,h1,h2,h4⟩
theorem beqI (a:Int):((a:Int) == a)=true:=beq_self_eq_true a
theorem JdW (a0:List Int) (ha:U16s a0) (a at':Int) (s:Pl) (near:Bool) (h0:0≤a) (h1:a<256) (h2:0≤at') (h3:at'<256):F3 a0 a at' s near=some (r1 true):=by
 unfold F3;rw [F8_eq];simp only [Jb,Bool.not_true,Jl];rw [cif];split
 ·rfl
 obtain ⟨qs,r,e1,e2,hg⟩:=evs_of a0 ha;rw [e1];simp only [Jb];rw [e2];simp only [Jb];have hl:=hg.len;obtain ⟨n,hn,en⟩:=Juc h0 h1 hl;rw [en];have c1:decide ((IntKind.wrap .i64 (((r.length:Nat):Int)+1))≠0)=true:=Jc (by rw [wz (by omega) (by omega)];omega)
 obtain ⟨v,t,w,mk,ms,f1,g1⟩:=F11_eq r hg n hn;have hsp:=f1.sp;rw [c1];simp only [Jk];rw [g1];simp only [Jb];have h13:F13 J0 R0 v t w mk ms (Qj r kA n (r.length - n)) (Qj r kB n (r.length - n)) (Qj r kC n (r.length - n)) (Qj r kD n (r.length - n))=some (((t,(w,())),()),bx16 v t w mk ms,(Qj r kA n (r.length - n),Qj r kB n (r.length - n),Qj r kC n (r.length - n),Qj r kD n (r.length - n),())):=rfl
 rw [h13];have hn0:(decide ((n:Int) > 0)=true ∧ ∃k,k<r.length∧IntKind.wrap .i64 ((n:Int) - 1)=(k:Int) ∧ ∀h:k<r.length,pl r[k]=(t,(w,())))∨(decide ((n:Int) > 0)=false∧t=0∧w=0):=by
  rcases Nat.eq_zero_or_pos n with hz | hz
  ·right;subst hz;have e:(t,(w,()))=((0:Int),((0:Int),())):=hsp;refine ⟨by decide, ?_, ?_⟩
   ·exact congrArg (·.1) e
   ·exact congrArg (·.2.1) e
  ·left;obtain ⟨k,rfl⟩ : ∃k,n=k+1:=⟨n - 1,by omega⟩;have hk:r[k]? = some r[k]:=Jj (by omega);refine ⟨Jc (by omega),k,by omega,by rw [wz (by omega) (by omega)];omega,fun h => ?_⟩
   rw [X3 hk,Jcd] at hsp;exact hsp.symm
 have fin : ∀s:Pl,((Jez r 0 s.1 s.2.1 t w J0 R0 v t w mk ms (Qj r kA n (r.length - n)) (Qj r kB n (r.length - n)) (Qj r kC n (r.length - n)) (Qj r kD n (r.length - n))).bind fun y9=>(bif (decide (0≤(y9.1.1:Int)∧(y9.1.1:Int)≤((r.length:Nat):Int))) then ((F15 (r.take (y9.1.1:Int).toNat)).bind fun y10=>((Jey 0 y9.2.1.1.1 y9.2.1.1.2.1 y9.2.1.2.2.1.1 y9.2.1.2.2.1.2.1 y10.1.1.1 y10.1.1.2.1 y10.1.1.2.2.1 y10.1.1.2.2.2.1 y10.1.1.2.2.2.2.1.1 y10.1.1.2.2.2.2.1.2.1 y10.1.1.2.2.2.2.2.1 y9.2.1.2.2.2.1.2.1 y9.2.1.2.2.2.1.2.2.1 y9.2.1.2.2.2.1.2.2.2.1 y9.2.1.2.2.2.1.2.2.2.2.1 y9.2.1.2.2.2.1.2.2.2.2.2.1 y9.2.1.2.2.2.1.2.2.2.2.2.2.1 y9.2.1.2.2.2.2.2.1.1 y9.2.2.1 y9.2.2.2.1 y9.2.2.2.2.1 y9.2.2.2.2.2.1).bind fun y11=>(Sum.elim (fun y12=>(some (y12.1,(),()))) (fun y12=>(some ((true,()),(),()))) y11))) else none))=some (r1 true):=fun s=>by
  obtain ⟨m,S,x,hm,t1,t2,t3⟩:=JtS hg hn s v t w mk ms f1;rw [t1];simp only [Jb];rw [Jc (show 0≤(m:Int)∧(m:Int)≤((r.length:Nat):Int) by omega)];simp only [Jk,Ji];rw [t2];simp only [Jb];rw [t3];rfl
 cases near with
 | false=>
  simp only [Jl];rcases hn0 with ⟨hd,k,hk,hw,hp⟩|⟨hd,rfl,rfl⟩
  ·rw [hd,hw];simp only [Jk];rw [Jc (show 0≤(k:Int)∧(k:Int)<((r.length:Nat):Int) by omega)];simp only [Jk,Ji];rw [Qo hk,JjG,hp hk];simp only [Jb,beqI,Bool.and_true,Bool.not_true,Jl];exact fin s
  ·rw [hd];simp only [Jl,Jb,beqI,Bool.and_true,Bool.not_true];exact fin s
 | true=>
  simp only [Jk];rcases Nat.eq_zero_or_pos r.length with hz | hp
  ·rw [Js (show ¬((r.length:Nat):Int) > 0 by omega)];simp only [Jl];rcases hn0 with ⟨hd,k,hk,_⟩|⟨hd,rfl,rfl⟩
   ·omega
   ·rw [hd];simp only [Jl,Jb,beqI,Bool.and_true,Bool.not_true];exact fin s
  ·obtain ⟨i,hi,ei⟩:=Jrl h2 h3 hl hp;rw [Jc (show ((r.length:Nat):Int) > 0 by omega),Jc (show ((r.length:Nat):Int)≠0 by omega),ei];simp only [Jk];rw [Jc (show 0≤(i:Int)∧(i:Int)<((r.length:Nat):Int) by omega)];simp only [Jk,Ji];rw [Qo hi,JjG];simp only [Jb];rcases hn0 with ⟨hd,k,hk,hw,hp⟩|⟨hd,rfl,rfl⟩
   ·rw [hd,hw];simp only [Jk];rw [Jc (show 0≤(k:Int)∧(k:Int)<((r.length:Nat):Int) by omega)];simp only [Jk,Ji];rw [Qo hk,JjG,hp hk];simp only [Jb,beqI,Bool.and_true,Bool.not_true,Jl];exact fin (pl r[i])
   ·rw [hd];simp only [Jl,Jb,beqI,Bool.and_true,Bool.not_true];exact fin (pl r[i])
end Go.IM.V