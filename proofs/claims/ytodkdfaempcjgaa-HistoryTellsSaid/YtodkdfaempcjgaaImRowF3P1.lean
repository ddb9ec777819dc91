/- What the code of a law comes to, and what that tells: part 1. Lemmas alone; no conditions. -/
import Derived.Test.YtodkdfaempcjgaaProg
import Derived.KernelRfl
import Derived.Test.YtodkdfaempcjgaaImM5
import Derived.Test.YtodkdfaempcjgaaImM2
set_option linter.unusedVariables false
set_option linter.unusedSimpArgs false
set_option linter.constructorNameAsVariable false
namespace Go.IM.V
open Go Go.IM
variable {P:Program} {m m1:M} {S0:Nat→Prop} {env env1:Env} {X Y:Cx}
theorem JsP {p:Nat→Prop} {S1:Nat→Prop} {c:Cl} {w:Value} (h:Jap P X c w):Jap P { X with env := { X.env with φ:=p },S0:=S1 } c w:=by cases c <;> exact h
theorem Jt3 {p:Nat→Prop} {S1:Nat→Prop} : ∀{cs:List Cl} {ws:List Value},Qa P X cs ws→Qa P { X with env := { X.env with φ:=p },S0:=S1 } cs ws:=by
 intro cs;induction cs with
 | nil=>intro ws h;cases ws <;> exact h
 | cons c cs ih=>intro ws h;cases ws with
  | nil=>exact h
  | cons w ws=>exact ⟨JsP h.1,ih h.2⟩
theorem repS_φ {p:Nat→Prop} {S1:Nat→Prop} {s:V.S1} {w:Value} (h:Ja3 P X s w):Ja3 P { X with env := { X.env with φ:=p },S0:=S1 } s w:=by
 cases s with
 | x=>trivial
 | s c=>exact JsP (c:=c) h
 | a cs=>obtain ⟨b,h1,h2⟩:=h;exact ⟨b,h1,Jt3 h2⟩
theorem Jm1 {p:Nat→Prop} {S1:Nat→Prop} {av:Nat→Value} : ∀{l:List (Nat × V.S1)},Qm P X av l→Qm P { X with env := { X.env with φ:=p },S0:=S1 } av l:=by
 intro l;induction l with
 | nil=>intro h;trivial
 | cons q l ih=>intro h;exact ⟨repS_φ h.1,ih h.2⟩
theorem Jkq {X Y:Cx} (hle:Jac X Y) {av:Nat→Value} : ∀{l:List (Nat × S1)},Qm P X av l→Qm P Y av l:=by
 intro l;induction l with
 | nil=>intro _;trivial
 | cons p l ih=>intro h;exact ⟨h.1.le hle,ih h.2⟩
theorem Jkh {t:Tm} (ht:t.bx = []) {x:t.E} (hT:Jao P (t.cx x S0 env m) (t.inst 0 x).bx) {S1:Nat→Prop} (hS : ∀i,S1 i→S0 i∨env.φ i) :
  Jao P (t.cx x S1 { env with φ:=fun _=>False } m) (t.inst 0 x).bx∧(∀i,¬Wb (t.cx x S1 { env with φ:=fun _=>False } m) i) ∧
   ∀{av:Nat→Value} {l:List (Nat × V.S1)},Qm P (t.cx x S0 env m) av l→Qm P (t.cx x S1 { env with φ:=fun _=>False } m) av l:=by
 have hbx:(t.inst 0 x).bx = []:=by
  have h:(bxI id id t.bx x.2.1).length=0:=by rw [Xl,ht];rfl
  exact JT h
 have hSle : ∀i,(t.inst 0 x).S S1 { env with φ:=fun _=>False } i→(t.inst 0 x).S S0 env i:=by
  intro i w;rcases w with w|⟨j,hj,_⟩|w
  ·rcases hS i w with w | w
   ·exact .inl w
   ·exact .inr (.inr w)
  ·rw [hbx] at hj;exact absurd hj (J3 _)
  ·exact w.elim
 have hmono:Jex ((t.inst 0 x).S S0 env) m ((t.inst 0 x).S S1 { env with φ:=fun _=>False }) m:=fun i r hr hn=>⟨hr,fun w=>hn (hSle i w)⟩
 have hnj : ∀j,¬j<(t.inst 0 x).bx.length:=fun j hj=>by rw [hbx] at hj;exact J3 _ hj
 refine ⟨⟨hT.free,hT.bar,rfl,rfl,rfl,fun j hj=>absurd hj (hnj j),fun i w=>hT.slt i (hSle i w),fun j b hb => ?_,hT.bfd,fun j cs hcs => ?_,fun j j' hj=>absurd hj (hnj j),fun i w=>w.elim,fun j hj=>absurd hj (hnj j),hT.rts,hT.unq⟩,fun i w => ?_, ?_⟩
 ·exact XV.le (Wb:=fun _=>False) (Wl:=fun _=>False) (X:=t.cx x S0 env m) (Y:=t.cx x S1 { env with φ:=fun _=>False } m) (Fr2.refl hT.free) hmono (fun _ w=>w.elim) rfl (hT.bf j b hb) (fun _ _ _ w=>w)
 ·rw [hbx] at hcs;cases hcs
 ·rcases w with ⟨j,hj,_⟩|w
  ·exact hnj j hj
  ·exact w
 ·intro av l h;have hle:Jac (t.cx x S0 env m) { t.cx x S1 { env with φ:=fun _=>False } m with env:=env,S0:=fun _=>False }:=
   ⟨hmono,Je _,fun _ _=>rfl,fun j b hb=>⟨b.live,hb,rfl⟩,fun _ _ h=>h,fun _ _ _ h=>h,fun _ w=>w.elim,fun _ w=>w,Je _,fun _ _ h=>h⟩
  exact Jm1 (p:=fun _=>False) (S1:=S1) (Jkq hle h)
def JtR (e:Ty) (n:Nat):Tm := { sl := [(0,.sb (.l e) n 0)],bx := [(List.range n).map .o],bf:=List.replicate n e }
def liTm (e:Ty):Tm := { sl := [(0,.v (.l (.l e)))] }
def bfL {e:Ty}:(n:Nat)→BfE (List.replicate n e)→List (List e.El)
 | 0,_ => []
 | n+1,x=>x.1::bfL n x.2
theorem Jp2 {e:Ty} : ∀{n:Nat} {x:BfE (List.replicate n e)},(bfL n x).length=n
 | 0,_=>rfl
 | n+1,x=>by show (_::_).length=_;rw [Ju,Jp2]
theorem Jp3 {e:Ty} : ∀{n:Nat} {x:BfE (List.replicate n e)} {k:Nat} {xs:List e.El},(bfL n x)[k]? = some xs→(bfI (List.replicate n e) x)[k]? = some ⟨e,xs,true,false⟩
 | 0,_,_,_,h=>by cases h
 | n+1,x,0,xs,h=>by cases h;rfl
 | n+1,x,k+1,xs,h=>Jp3 (n:=n) (x:=x.2) (k:=k) h
theorem thaw [Orc P] {k : FuncId} {ins : Tm} (hi : ins.bx = []) (hf : ins.bf = []) {e : Ty} {n : Nat} (hn : 0 < n) {F : ins.E → Option (OT.ret (JtR e n)).E} (h : Con.OK P k ⟨ins, .ret (JtR e n), F⟩) :
  Con.OK P k ⟨ins,.ret (liTm e),fun x=>(F x).map fun y=>((bfL n y.2.2,()),(),())⟩:=by
 intro x y2 hF S0 env m args hT hB hsl hnil;simp only [Ja] at hF;obtain ⟨y,hy,rfl⟩:=hF;obtain ⟨hT',hW',hsl'⟩:=Jkh hi hT (S1:=fun i=>S0 i∨env.φ i) (fun _ w=>w);obtain ⟨c,m1,env1,hcal,hend,v,rfl,hv⟩:=h x y hy _ _ m args hT' (fun i w=>absurd w (hW' i)) (hsl' hsl) hnil;have hfr:=hend.fr;have hwl' : ∀i,¬Wl (ins.cx x (fun i=>S0 i∨env.φ i) { env with φ:=fun _=>False } m) i:=by
  rintro i ⟨j,b,hb,_⟩
  have hb':(bfI ins.bf x.2.2)[j]? = some b:=hb
  have : ∀{l:List Ty} {z:BfE l},l = []→bfI l z = []:=by intro l z hl;subst hl;rfl
  rw [this hf] at hb';cases hb'
 have hnxt:m.nxt≤m1.nxt:=hfr.nxt;have hS0 : ∀i,S0 i∨env.φ i→i<m.nxt:=fun i w=>hT.slt i (w.elim .inl (fun w => .inr (.inr w)))
 have hbx0:((JtR e n).inst 0 y).bx[0]? = some ((List.range n).map .o):=by
  show (bxI id id [(List.range n).map Pt.o] y.2.1)[0]? = _;have : ∀(l:List Nat) (z:CeE (l.map Pt.o)),ceI id id (l.map Pt.o) z=l.map Cl.o:=by
   intro l;induction l with
   | nil=>intro z;rfl
   | cons a l ih=>intro z;show _::_=_::_;rw [ih];rfl
  show some (ceI id id ((List.range n).map Pt.o) y.2.1.1)=_;rw [this]
 have hrun : J9 ((List.range n).map Cl.o) = false := by
  cases n with
  | zero=>rfl
  | succ n=>cases n with
   | zero=>rfl
   | succ n=>
    have hany : ∀l:List Nat,(l.map Cl.o).any Qh=false:=by
     intro l;induction l with
     | nil=>rfl
     | cons a l ih=>rw [List.map_cons,List.any_cons,ih];rfl
    rw [List.range_succ_eq_map,List.range_succ_eq_map];exact (JbO _ _ _).1.trans (hany (_::_::_))
 have hhas:JM ((JtR e n).inst 0 y).bx 0=true:=(JK hbx0).trans (Qs hrun);obtain ⟨kb,cc,eo,fr,b1,b2,b3,b4,b5,b6⟩:=(hend.T.bx 0 _ hbx0).cel hrun;obtain ⟨_,⟨v1,v2⟩,v3⟩:=hv;obtain ⟨v4,eo',v5,v6⟩:=v3 hhas;have hrow:m1.row (env1.β 0)=some (cc,eo):=JcE b1 b2;have hty:eo'=eo:=by
  have h5:m1.typ (env1.β 0)=some eo':=v5;unfold M.typ at h5;have h7:m1.get (env1.β 0)=some kb:=JO b1;rw [h7] at h5;have h6:Jn1 kb.obj=some eo':=h5;rw [b2] at h6;cases h6;rfl
 subst hty;have hβ:m.nxt≤env1.β 0:=by
  rcases hend.wb (env1.β 0) (.inl ⟨0,by show 0<((JtR e n).inst 0 y).bx.length;exact Jx hbx0,hhas,rfl⟩) with w | w
  ·exact absurd w (hW' _)
  ·exact w
 have hS1 : ∀i,S0 i∨env.φ i→((JtR e n).inst 0 y).S (fun i=>S0 i∨env.φ i) env1 i:=fun i w => .inl w
 let env2:Env := { τ:=fun _=>none,β:=fun _=>0,φ:=env.φ }
 let t2:Tm:=liTm e
 let y2:t2.E:=((bfL n y.2.2,()),(),())
 have hS2 : ∀i,(t2.inst 0 y2).S S0 env2 i→S0 i∨env.φ i:=by
  intro i w;rcases w with w|⟨j,hj,_⟩|w
  ·exact .inl w
  ·exact absurd hj (J3 _)
  ·exact .inr w
 refine ⟨.ret v,m1,env2,hcal,⟨hfr.mono (fun i w=>absurd w (hW' i)) (fun i w=>absurd w (hwl' i)),⟨hend.T.free,hend.T.bar,rfl,rfl,rfl,fun j hj=>absurd hj (J3 _),fun i w=>Jt (hS0 i (hS2 i w)) hnxt,fun j b hb=>(by cases hb),fun j j' b b' i hb=>(by cases hb),fun j cs hcs=>(by cases hcs),fun j j' hj=>absurd hj (J3 _),fun i w => .inr (.inr w),fun j hj=>absurd hj (J3 _),hend.T.rts,hend.T.unq⟩,
  fun j hj => ?_,fun i w => ?_,fun i w => ?_,fun j hj => ?_,fun j L hj => ?_,fun i w=>w⟩,v,rfl, ?_⟩
 ·have:(ins.inst 0 x).bx.length=0:=by show (bxI id id ins.bx x.2.1).length=0;rw [Xl,hi];rfl
  exact absurd (show j<(ins.inst 0 x).bx.length from hj) (by omega)
 ·rcases w with ⟨j,hj,_⟩|w
  ·exact absurd hj (J3 _)
  ·exact .inl (.inr w)
 ·obtain ⟨j,b,hb,_⟩:=w;cases hb
 ·have:(ins.inst 0 x).bx.length=0:=by show (bxI id id ins.bx x.2.1).length=0;rw [Xl,hi];rfl
  exact absurd (show j<(ins.inst 0 x).bx.length from hj) (by omega)
 ·have:(ins.inst 0 x).bx.length=0:=by show (bxI id id ins.bx x.2.1).length=0;rw [Xl,hi];rfl
  exact absurd (show j<(ins.inst 0 x).bx.length from hj) (by omega)
 ·
  have hmono:Jex (((JtR e n).inst 0 y).S (fun i=>S0 i∨env.φ i) env1) m1 ((t2.inst 0 y2).S S0 env2) m1:=fun i r hr hn=>⟨hr,fun w=>hn (hS1 i (hS2 i w))⟩
  show Jbu P ((t2.inst 0 y2).S S0 env2) m1 (Ty.l e).n (QR P ((t2.inst 0 y2).S S0 env2) m1 (.l e)) (bfL n y.2.2) v;have hlen:(bfL n y.2.2).length=n:=Jp2;have hcc:cc.size=n:=by
   have:=Qe b6
   simp at this;exact this.symm
  refine .inr ⟨env1.β 0,0,none,n, ?_,Nat.le_of_eq hlen,.inr ⟨cc,eo',hrow,fun w => ?_,v6, ?_,fun q xs hq => ?_⟩⟩
  ·exact v4.trans (congrArg (fun q=>Value.slice (some ⟨env1.β 0,0,none⟩) q n) hlen.symm)
  ·have:=hS0 _ (hS2 _ w);omega
  ·exact Jy (Nat.le_of_eq (by rw [JG];exact (Nat.mul_one _).trans hlen)) (Nat.le_of_eq hcc.symm)
  ·have hqn:q<n:=Nat.lt_of_lt_of_eq (Jx hq) hlen;obtain ⟨w,hw,hwr⟩:=Xr b6 (k:=q) (c := .o q) (by rw [List.getElem?_map,List.getElem?_range hqn];rfl)
   have hex:(cc.extract (0+q*(Ty.l e).n) (0+q*(Ty.l e).n+(Ty.l e).n)).toList = [w]:=by
    show (cc.extract (0+q*1) (0+q*1+1)).toList = [w];apply List.ext_getElem?
    intro r;rw [Jn,JA];rw [Jn] at hw;by_cases hr:r<1
    ·obtain rfl:r=0:=by omega
     rw [Jf (by omega)];simpa using hw
    ·rw [Jd (by omega),J1 (by simp;omega)]
   rw [hex];refine ⟨w,rfl, ?_⟩;obtain ⟨b,hb,hbw⟩:=hwr;have hb':(bfI (List.replicate n e) y.2.2)[q]? = some b:=hb
   rw [Jp3 hq] at hb';cases hb';have:=Jdw (hend.T.bf q _ hb) hbw
   exact Jbu.mono (P:=P) (n:=e.n) hmono (fun _ _ z=>QR.mono hmono z) this
def iT:Tm := { sl := [] }
def oT:Tm := { sl := [(0,.v .b)] }
def cT:Con:=⟨iT,.ret oT,fun _=>some ((true,()),(),())⟩
theorem orc_ok [Orc P] {k:FuncId} (h : ∀args:Array Value,args.size=0→Orc.O P k args=some (.bool true)):Con.OK P k cT:=by
 intro x y hF S0 env m args hT hB hsl hnil;have hs:args.size=0:=hnil;have hy:y=((true,()),(),()):=by have:some ((true,()),(),())=some y:=hF;cases this;rfl
 subst hy;refine ⟨.ret (.bool true),m,env,⟨0,fun n _ => ?_⟩,⟨Fr2.refl hT.free,hT,fun j hj=>absurd hj (J3 _),fun i w => .inl w,fun i w => .inl w,fun j hj=>absurd hj (J3 _),fun j L hj=>absurd hj (J3 _),fun i w=>w⟩,⟨.bool true,rfl,JdO (.bool true)⟩⟩;unfold Ja8;rw [h args hs]
theorem noL [Orc P] {N:Nat} {c:Code} {LO:Tab} (h:Xb c = []) : ∀b∈Xb c,∀con,Jca LO (Xd b)=some con→con.LOK P N b:=Jrm (l := []) h trivial
end Go.IM.V
namespace Go.IM.V
noncomputable section
open Go Go.IM Go.Proofs
set_option maxRecDepth 100000 in
theorem run8:isT (run0 Try.prog 400 8 #[])=true:=by kernel_rfl
instance orc8:Orc Try.prog:=Orc.one Try.prog 8 400 run8
def F8:Option (OT.ret oT).E:=some ((true,()),(),())
def c8:Con:=⟨iT,.ret oT,fun _=>F8⟩
theorem c8_ok:Con.OK Try.prog 8 c8:=orc_ok (fun _ h=>Jf ⟨rfl,h⟩)
end
end Go.IM.V
namespace Go.IM.V
open Go Go.IM
variable {P:Program}
end Go.IM.V
namespace Go.IM.V
noncomputable section
open Go Go.IM
variable {P:Program} {m m1:M} {S0:Nat→Prop} {env env1:Env} {a:Act} {vs:VS} {X Y:Cx} {ρ:Type} {C LO:Tab}
def NB (X0 X:Cx):Prop := ∀i,Wb X i→Wb X0 i∨X.m.bar≤i
theorem NB.step {X0 X Y:Cx} (hb:X.m.bar≤X.m.nxt) (h:NB X0 X) (hs:Stp X Y):NB X0 Y:=by
 intro i w;rw [hs.fr.bar];rcases hs.wb i w with w | w
 ·exact h i w
 ·exact .inr (Jy hb w)
def vopR (P : Program) (C : Tab) (n0 : Nat) (vs : VS) (o : Oper) (K : Sl → VS → Option ρ) (Kp : Value → VS → Option ρ) : Option ρ :=
 match o.op with
 | .store t x y=>match vs.ev x with
  | .v (.s (.p j off))=>bif Nat.ble n0 j && (List.range n0).all (JM vs.bx) then match Jil P t (.v (.s (.p j off))) (vs.ev y) vs with
    | some (none,z,vs1)=>K z vs1
    | _=>none
   else none
  | _=>none
 | _=>vop P C true vs o K Kp
theorem JmB [Orc P] (hC : JaU P C) {o : Oper} (h : Rel P S0 env m a vs) {X0 : Cx} (hle : Jac X0 (vs.cx S0 env m)) (hnb : NB X0 (vs.cx S0 env m)) {K : Sl → VS → Option ρ} {Kp : Value → VS → Option ρ} {r : ρ} (hv : vopR P C X0.nb vs o K Kp = some r) : OpE P S0 env m a vs o K Kp r := by
 unfold vopR at hv;split at hv
 ·rename_i t x y hop;split at hv
  ·rename_i j off hx;cases hc : (Nat.ble X0.nb j && (List.range X0.nb).all (JM vs.bx)) with
   | false=>rw [hc] at hv;cases hv
   | true =>
    rw [hc] at hv;simp only [Jk] at hv;rw [Jh] at hc;have hj0:=JC hc.1;split at hv
    ·rename_i z vs1 hst;have hrx := QE h x;rw [hx] at hrx;obtain ⟨_, rfl, m1, g1, g2, g3⟩ := Jc5 h (fun j' off' e hj hh => by
      cases e;rcases hnb (env.β j) (.inl ⟨j,hj,hh,rfl⟩) with w | w
      ·exfalso
       rcases w with ⟨j1,k1,k2,k3⟩|w
       ·have e1:=hle.β j1 k1;have h1:JM vs.bx j1=true:=by
         have:=hc.2
         rw [List.all_eq_true] at this;exact this j1 (List.mem_range.2 k1)
        have:=h.T.bxd j1 j (Jt k1 hle.nb) hj h1 hh (e1.trans k3)
        omega
       ·exact h.T.φd j hj hh (hle.φ _ w)
      ·exact w) hrx (QE h y) hst
     refine .inl ⟨undef,m1,env,Qn,vs1,.inr (.inl ⟨?_,rfl⟩),g2,g3,JaB,hv,fun y hy => ?_⟩
     ·unfold iop;rw [hop];dsimp only;rw [g1];rfl
     ·rw [hop] at hy;cases hy
    ·cases hv
  ·cases hv
 ·exact Jc6 hC h (low:=true) (fun q=>by cases q) hv
def JjY (P : Program) (C : Tab) (n0 : Nat) (ops : Array Oper) : List Nat → VS → (VS → Option ρ) → (Value → VS → Option ρ) → Option ρ
 | [],vs,K,_=>K vs
 | i::rest,vs,K,Kp=>match ops[i]? with
  | none=>none
  | some o=>bif JjL o then
    Jlo vs ops o (fun vs=>vopR P C n0 vs o (fun x vs1=>Jlx (JsM C o) x fun x=>bif vs1.fits o.dst then JjY P C n0 ops rest (vs1.put o.dst x) K Kp else none) Kp) (fun vs=>bif vs.fits o.dst then JjY P C n0 ops rest (vs.put o.dst Qn) K Kp else none)
   else none
theorem JjX [Orc P] (hC : JaU P C) {ops : Array Oper} (D : List Deferred) {K : VS → Option ρ} {Kp : Value → VS → Option ρ} {r : ρ} {X0 : Cx} : ∀ (l : List Nat) {env : Env} {m : M} {tm : Array Value} {ds : List Deferred} {vs : VS}, JjY P C X0.nb ops l vs K Kp = some r → Rel P S0 env m ⟨tm, ds⟩ vs → Jac X0 (vs.cx S0 env m) → NB X0 (vs.cx S0 env m) →
  ∃e tm1 ds1 m1 env1 vs1,Ops P ops l ⟨tm,ds++D⟩ m e ⟨tm1,ds1++D⟩ m1∧Rel P S0 env1 m1 ⟨tm1,ds1⟩ vs1∧Stp (vs.cx S0 env m) (vs1.cx S0 env1 m1)∧tm1.size=tm.size∧((e = .normal∧K vs1=some r) ∨ ∃w,e = .pnc w∧Kp w vs1=some r):=by
 intro l;induction l with
 | nil=>intro env m tm ds vs hv h hle hb;exact ⟨.normal,tm,ds,m,env,vs,Ops.nil,h,Stp.refl h.T.free,rfl,.inl ⟨rfl,hv⟩⟩
 | cons i rest ih =>
  intro env m tm ds vs hv h hle hb;simp only [JjY] at hv;split at hv
  ·cases hv
  ·rename_i o ho;obtain ⟨hok, hv⟩ := Qw hv;obtain ⟨vs', h', hsame, hv⟩ := JbT h hv;have hcx' := hsame.cx S0 env m
   rw [←hcx'] at hb hle ⊢;clear h hsame hcx';have h:=h';rcases hv with ⟨hw,hv⟩|⟨hw,hv⟩
   ·rcases JmB hC h hle hb hv with ⟨v,m1,env1,x,vs1,h1,h2,h3,h4,h5,_⟩|⟨d,k,l,h1,h2,h3,_,h5⟩|⟨w,m1,env1,vs1,h1,h2,h3,h5⟩
    ·obtain ⟨hfit1,h5⟩:=Qw (X4 h5);have h6:=h2.put hfit1 h4;have h5:JjY P C X0.nb ops rest (vs1.put o.dst x) K Kp=some r:=h5;rw [Qu tm ds ds] at h6;have hcx:(vs1.put o.dst x).cx S0 env1 m1=vs1.cx S0 env1 m1:=by cases o.dst <;> rfl
     have hb1:=NB.step h.T.bar hb h3;have hle1:=hle.trans h3.le;obtain ⟨e,tm2,ds2,m2,env2,vs2,g1,g2,g3,g4,g5⟩:=ih h5 h6 (by rw [hcx];exact hle1) (by rw [hcx];exact hb1)
     rw [hcx] at g3;refine ⟨e,tm2,ds2,m2,env2,vs2, ?_,g2,h3.trans h.T.free g3,by rw [g4];exact Jau _ _ _,g5⟩
     have hp2:(⟨tm,ds++D⟩:Act).put o.dst v=⟨((⟨tm,ds⟩:Act).put o.dst v).tmps,ds++D⟩:=Qu _ _ _ _ _;rw [←hp2] at g1;rcases Jc2.defers (ds':=ds++D) h1 with h7|⟨h7,rfl⟩|⟨f,args,m0,h7,h8⟩
     ·exact Ops.val ho hw hok h7 g1
     ·exact Ops.skip ho hw hok h7 g1
     ·exact Ops.call' ho hw hok h7 h8 g1
    ·obtain ⟨hfit1,h5⟩:=Qw (X4 h5);have h5:JjY P C X0.nb ops rest (({ vs' with df:=(k,l)::vs'.df }:VS).put o.dst Qn) K Kp=some r:=h5;have h6:Rel P S0 env m ⟨tm,d::ds⟩ { vs' with df:=(k,l)::vs'.df }:=⟨h.T,h.size,h.sl,h2,h3,h.df⟩;have h7:Rel P S0 env m ⟨((⟨tm,d::ds⟩:Act).put o.dst undef).tmps,d::ds⟩ (({ vs' with df:=(k,l)::vs'.df }:VS).put o.dst Qn):=by
      have:=h6.put (d:=o.dst) (x:=Qn) (v:=undef) hfit1 JaB
      rw [Qu tm (d::ds) (d::ds)] at this;exact this
     have hcx:(({ vs' with df:=(k,l)::vs'.df }:VS).put o.dst Qn).cx S0 env m=vs'.cx S0 env m:=by cases o.dst <;> rfl
     obtain ⟨e,tm2,ds2,m2,env2,vs2,g1,g2,g3,g4,g5⟩:=ih h5 h7 (by rw [hcx];exact hle) (by rw [hcx];exact hb)
     rw [hcx] at g3;refine ⟨e,tm2,ds2,m2,env2,vs2, ?_,g2,g3,by rw [g4];exact Jau _ _ _,g5⟩
     refine Ops.dfr (m1:=m) (d:=d) ho hw hok (by rw [QU tm (ds++D) ds];exact h1) ?_
     have hp2:(⟨tm,d::(ds++D)⟩:Act).put o.dst undef=⟨((⟨tm,d::ds⟩:Act).put o.dst undef).tmps,(d::ds)++D⟩:=Qu _ _ _ _ _;rw [←hp2] at g1;exact g1
    ·refine ⟨.pnc w,tm,ds,m1,env1,vs1, ?_,h2,h3,rfl,.inr ⟨w,rfl,h5⟩⟩;rcases h1 with h1|⟨f,args,h1,h6⟩
     ·exact Ops.pnc ho hw hok (by rw [QU tm (ds++D) ds];exact h1)
     ·exact Ops.call_pnc ho hw hok (by rw [QU tm (ds++D) ds];exact h1) h6
   ·obtain ⟨hfit,hv⟩:=Qw hv;have h6:=h.put hfit JaB;rw [Qu tm ds ds] at h6;have hcx:(vs'.put o.dst Qn).cx S0 env m=vs'.cx S0 env m:=by cases o.dst <;> rfl
    obtain ⟨e,tm2,ds2,m2,env2,vs2,g1,g2,g3,g4,g5⟩:=ih hv h6 (by rw [hcx];exact hle) (by rw [hcx];exact hb)
    rw [hcx] at g3;refine ⟨e,tm2,ds2,m2,env2,vs2, ?_,g2,g3,by rw [g4];exact Jau _ _ _,g5⟩
    have hp2:(⟨tm,ds++D⟩:Act).put o.dst undef=⟨((⟨tm,ds⟩:Act).put o.dst undef).tmps,ds++D⟩:=Qu _ _ _ _ _;rw [←hp2] at g1;exact Ops.unwanted ho hw g1
def Jem (P:Program) (C:Tab) (n0:Nat):Nat→Code→VS→(Out→VS→Option ρ)→Option ρ
 | 0,_,_,_=>none
 | n+1,c,vs,K=>
  match c with
  | .skip | .label _=>K .normal vs
  | .exit id=>K (.exit id) vs
  | .ret=>K .ret vs
  | .region id ops false=>JjY P C n0 ops (List.range ops.size) vs (K .normal) (fun v vs1=>K (.pnc v) vs1)
  | .seq x y=>Jem P C n0 n x vs fun o vs1=>match o with
   | .normal=>Jem P C n0 n y vs1 K
   | o=>K o vs1
  | .cond c x y=>if Jak c then match vs.ev c with
   | .v (.s (.c (.bool b)))=>cond b (Jem P C n0 n x (vs.setO c true) K) (Jem P C n0 n y (vs.setO c false) K)
   | _=>none
   else none
  | .block id b=>Jem P C n0 n b vs fun o vs1=>match o with
   | .exit id'=>bif Nat.beq id' id then K .normal vs1 else K (.exit id') vs1
   | o=>K o vs1
  | _=>none
theorem JjT [Orc P] (hC : JaU P C) {X0 : Cx} (D : List Deferred) : ∀ (n : Nat) {c : Code} {K : Out → VS → Option ρ} {r : ρ} {env : Env} {m : M} {tm : Array Value} {ds : List Deferred} {vs : VS},
  Jem P C X0.nb n c vs K=some r→Rel P S0 env m ⟨tm,ds⟩ vs→Jac X0 (vs.cx S0 env m)→NB X0 (vs.cx S0 env m) →
  ∃e tm1 ds1 m1 env1 vs1,Ev.To P c ⟨tm,ds++D⟩ m e ⟨tm1,ds1++D⟩ m1∧Rel P S0 env1 m1 ⟨tm1,ds1⟩ vs1∧Stp (vs.cx S0 env m) (vs1.cx S0 env1 m1)∧tm1.size=tm.size∧K e vs1=some r:=by
 intro n;induction n with
 | zero=>intro c K r env m tm ds vs hv;cases hv
 | succ n ih =>
  intro c K r env m tm ds vs hv h hle hnb;cases c with
  | skip=>exact ⟨_,tm,ds,m,env,vs,To.skip,h,Stp.refl h.T.free,rfl,hv⟩
  | label=>exact ⟨_,tm,ds,m,env,vs,To.label,h,Stp.refl h.T.free,rfl,hv⟩
  | exit id=>exact ⟨_,tm,ds,m,env,vs,To.exit,h,Stp.refl h.T.free,rfl,hv⟩
  | ret=>exact ⟨_,tm,ds,m,env,vs,To.ret,h,Stp.refl h.T.free,rfl,hv⟩
  | region id ops draw=>
   cases draw with
   | true=>cases hv
   | false=>
    simp only [Jem] at hv;obtain ⟨e,tm1,ds1,m1,env1,vs1,g1,g2,g3,g4,g5⟩:=JjX hC D _ hv h hle hnb;refine ⟨e,tm1,ds1,m1,env1,vs1,To.region rfl g1,g2,g3,g4, ?_⟩;rcases g5 with ⟨rfl,g5⟩|⟨w,rfl,g5⟩ <;> exact g5
  | seq x y=>
   simp only [Jem] at hv;obtain ⟨e,tm1,ds1,m1,env1,vs1,g1,g2,g3,g4,g5⟩:=ih hv h hle hnb;by_cases he:e = .normal
   ·subst he;dsimp only at g5;obtain ⟨e2,tm2,ds2,m2,env2,vs2,k1,k2,k3,k4,k5⟩:=ih g5 g2 (hle.trans g3.le) (NB.step h.T.bar hnb g3);exact ⟨e2,tm2,ds2,m2,env2,vs2,To.seq g1 k1,k2,g3.trans h.T.free k3,k4.trans g4,k5⟩
   ·refine ⟨e,tm1,ds1,m1,env1,vs1,To.seq_out g1 he,g2,g3,g4, ?_⟩;cases e <;> first | exact absurd rfl he | exact g5
  | cond c x y =>
   simp only [Jem] at hv;split at hv
   ·rename_i hok;split at hv
    ·rename_i b hcv;have hrc:=QE h c;rw [hcv] at hrc;have hev:(⟨tm,ds++D⟩:Act).eval c = .bool b:=by rw [QU tm (ds++D) ds];exact hrc.1
     have hset:Rel P S0 env m ⟨tm,ds⟩ (vs.setO c b)∧(vs.setO c b).cx S0 env m=vs.cx S0 env m:=by
      cases c with
      | tmp t=>exact ⟨h.setB hcv,rfl⟩
      | _=>exact ⟨h,rfl⟩
     obtain ⟨hset,hcxs⟩:=hset;cases b with
     | true=>
      obtain ⟨e,tm1,ds1,m1,env1,vs1,g1,g2,g3,g4,g5⟩:=ih hv hset (by rw [hcxs];exact hle) (by rw [hcxs];exact hnb)
      rw [hcxs] at g3;exact ⟨e,tm1,ds1,m1,env1,vs1,To.cond hok hev g1,g2,g3,g4,g5⟩
     | false=>
      obtain ⟨e,tm1,ds1,m1,env1,vs1,g1,g2,g3,g4,g5⟩:=ih hv hset (by rw [hcxs];exact hle) (by rw [hcxs];exact hnb)
      rw [hcxs] at g3;exact ⟨e,tm1,ds1,m1,env1,vs1,To.cond hok hev g1,g2,g3,g4,g5⟩
    ·cases hv
   ·cases hv
  | block id b=>
   simp only [Jem] at hv;obtain ⟨e,tm1,ds1,m1,env1,vs1,g1,g2,g3,g4,g5⟩:=ih hv h hle hnb;by_cases he : ∃id',e = .exit id'
   ·obtain ⟨id',rfl⟩:=he;dsimp only at g5;cases hq:Nat.beq id' id with
    | true=>
     rw [hq] at g5;have:=Jr hq
     subst this;exact ⟨_,tm1,ds1,m1,env1,vs1,To.block g1,g2,g3,g4,g5⟩
    | false=>
     rw [hq] at g5;exact ⟨_,tm1,ds1,m1,env1,vs1,To.block_out g1 (by intro h2;cases h2;exact Nat.ne_of_beq_eq_false hq rfl),g2,g3,g4,g5⟩
   ·refine ⟨e,tm1,ds1,m1,env1,vs1,To.block_out g1 (fun h2=>he ⟨_,h2⟩),g2,g3,g4, ?_⟩;cases e <;> first | exact absurd ⟨_,rfl⟩ he | exact g5
  | _=>cases hv
def Joh (P:Program) (fn:Func) (n:Nat) (o:OT) (out:Out) (vs:VS):Option o.E:=
 match out,vs.df with
 | .ret, []=>Jd4 P fn n o .ret vs
 | .normal, []=>Jd4 P fn n o .ret vs
 | _,_=>none
def vfnR (P:Program) (C:Tab) (fn:Func) (c:Code) (ins:Tm) (o:OT) (x:ins.E):Option o.E:=
 Jem P C ins.bx.length 100 c (ins.inst fn.ntmps x) (Joh P fn ins.bx.length o)
theorem fn_okR [Orc P] (hC : JaU P C) {k : FuncId} {fn : Func} {c : Code} (hor : ∀ args, Orc.O P k args = none) (hf : P.funcs[k]? = some fn) (hb : fn.body = some c) (ins : Tm) (out : OT) : Con.OKR P k ⟨ins, out, vfnR P C fn c ins out⟩ := by
 intro x y hF S0 env m args hT hsl _;have hRel:Rel P S0 env m (frame fn args) (ins.inst fn.ntmps x):=⟨hT,Jcv fn args,fun i=>by rw [Jfz];exact JeL hsl i,trivial⟩
 obtain ⟨e,tm1,ds1,m2,env2,vs2,⟨n1,g1⟩,k2,hst,g4,g5⟩:=JjT (X0:=ins.cx x S0 env m) (tm:=(frame fn args).tmps) (ds := []) hC [] 100 (show Jem P C (ins.cx x S0 env m).nb 100 c (ins.inst fn.ntmps x) (Joh P fn ins.bx.length out)=some y from by rw [show (ins.cx x S0 env m).nb=ins.bx.length from Xl];exact hF) hRel (Jac.refl _) (fun i w => .inl w)
 rw [List.append_nil] at g1;have hnb : (ins.cx x S0 env m).nb = ins.bx.length := Xl;have lv : (e = .ret ∨ e = .normal) → vs2.df = [] → Jd4 P fn ins.bx.length out .ret vs2 = some y →
   ∃c1 m1 env1,Cal P k args m c1 m1∧JbJ P (ins.cx x S0 env m) S0 env1 m1 (out.out y).2.1 (out.out y).2.2∧JsI P ((out.out y).2.1.cx (out.out y).2.2 S0 env1 m1) (out.out y).1 (slI id id (out.out y).2.1.sl (out.out y).2.2.1) c1:=by
  intro he hdf k4;have hds:ds1 = []:=by
   have:=k2.df
   rw [hdf] at this;cases ds1 with
   | nil=>rfl
   | cons=>exact this.elim
  subst hds;have hst:Stp (ins.cx x S0 env m) (vs2.cx S0 env2 m2):=hst;have hcal : ∀co m3,(∀n,Xu P (E P n) fn tm1 [] .ret m2=some (co,m3))→Cal P k args m co m3:=fun co m3 hall=>⟨n1,fun n hn=>by
   unfold Ja8;rw [hor];dsimp only;rw [hf];dsimp only;rw [hb];dsimp only;have hfr:(frame fn args)=⟨(frame fn args).tmps, []⟩:=rfl;rw [hfr,g1 n hn];rcases he with rfl | rfl
   ·simpa using hall n
   ·simpa using hall n⟩
  unfold Jd4 at k4;dsimp only at k4
  ·obtain ⟨env2', r1, r2⟩ := Jb3 (o := out) (n := ins.bx.length) k2 rfl;have hst := hst.trans hT.free r2;clear r2;generalize Jd7 out ins.bx.length vs2 = vs3 at *;obtain ⟨hkeys, k4⟩ := Qw k4;simp only [Jp] at k4;obtain ⟨l, hl, hm⟩ := k4;obtain ⟨hlen, ws, hws, hrep0⟩ := JcL r1 hl;have hwl : ws.length = fn.results.size := by
    have h5 : ∀{l:List S1} {ws:List Value},QZ P (vs3.cx S0 env2' m2) l ws→l.length=ws.length:=by
     intro l;induction l with
     | nil=>intro ws h;cases ws with
      | nil=>rfl
      | cons=>exact h.elim
     | cons c l ih=>intro ws h;cases ws with
      | nil=>exact h.elim
      | cons w ws=>simp [ih h.2]
    rw [←h5 hrep0,hlen];simp
   split at hm
   case h_2=>cases hm
   rename_i rt hrt;obtain ⟨env3,g2',g3',hrep⟩:=Jcp (pl:=rt.sl) (bf:=rt.bf) r1 hrep0 rfl;have hst:=hst.trans hT.free g3';clear g3';obtain ⟨h1,⟨q,hq⟩,_,h4⟩:=OT.mat_some hm;have h4:=h4 rfl _ hkeys;obtain ⟨hE,hs2⟩:=JbJ.of_mat hst g2'.T hnb (av:=fun i=>ws.toArray.getD i undef) (fun p _=>Jcy hrep p.1) hq;have hsll:(out.out y).2.1.sl.length=ws.length:=by rw [hwl,←List.length_map (f:=(·.1)),h4,List.length_range]
   have hss:=Jgf (ws:=ws) (n:=0) (l:=(out.out y).2.1.sl) (x:=(out.out y).2.2.1) (fun i hi=>by
    rw [←List.getElem?_map,h4,List.getElem?_range (by rw [←hwl,←hsll];exact hi),JG]) (by rw [hsll];omega) (fun i=>by rw [JH];simp) hs2
   rw [List.drop_zero] at hss;have hres : ∃ v, Qq P fn tm1 m2 = some v ∧ J8 P ((out.out y).2.1.cx (out.out y).2.2 S0 (env3.sub q True) m2) (JiI (slI id id (out.out y).2.1.sl (out.out y).2.2.1)) v := by
    unfold Qq;rw [hws];have hsl2:(slI id id (out.out y).2.1.sl (out.out y).2.2.1).length=ws.length:=by
     rw [←hsll];have : ∀{l:List (Nat × Pt)} {x:SlE l},(slI id id l x).length=l.length:=by
      intro l;induction l with
      | nil=>intro x;rfl
      | cons p l ih=>intro x;show (_::_).length=_;simp [ih]
     exact this
    generalize slI id id (out.out y).2.1.sl (out.out y).2.2.1=L at hss hsl2;cases L with
    | nil=>cases ws with
     | nil=>exact ⟨_,rfl, #[],rfl,trivial⟩
     | cons=>simp at hsl2
    | cons p L=>
     cases ws with
     | nil=>simp at hsl2
     | cons w ws=>
      cases L with
      | nil=>cases ws with
       | nil=>exact ⟨w,rfl,hss.1⟩
       | cons=>simp at hsl2
      | cons p2 L=>cases ws with
       | nil=>simp at hsl2
       | cons w2 ws=>exact ⟨_,rfl,_,rfl,hss⟩
   obtain ⟨v,hv1,hv2⟩:=hres;have hlv : ∀n,Xu P (E P n) fn tm1 [] .ret m2=some (.ret v,m2):=fun n=>by simp only [Xu,hv1,JU]
   refine ⟨.ret v,m2,env3.sub q True,hcal _ _ hlv,hE, ?_⟩;rw [h1];exact ⟨v,rfl,hv2⟩
 unfold Joh at g5;cases e with
 | ret=>
  cases hd:vs2.df with
  | nil=>rw [hd] at g5;exact lv (.inl rfl) hd g5
  | cons=>rw [hd] at g5;cases g5
 | normal=>
  cases hd:vs2.df with
  | nil=>rw [hd] at g5;exact lv (.inr rfl) hd g5
  | cons=>rw [hd] at g5;cases g5
 | exit id=>cases hd:vs2.df <;> (rw [hd] at g5;cases g5)
 | pnc v=>cases hd:vs2.df <;> (rw [hd] at g5;cases g5)
theorem Con.OKR.congr [Orc P] {k:FuncId} {ins:Tm} {out:OT} {F G:ins.E→Option out.E} (h:Con.OKR P k ⟨ins,out,F⟩) (hG : ∀x,G x=F x):Con.OKR P k ⟨ins,out,G⟩:=by
 have:G=F:=funext hG
 rw [this];exact h
theorem Con.OKR.ok [Orc P] {k:FuncId} {con:Con} (h:Con.OKR P k con):Con.OK P k con:=fun x y hF S0 env m args hT _ hsl hn=>h x y hF S0 env m args hT hsl hn
end
end Go.IM.V
namespace Go.IM.V
open Go Go.IM
variable {P:Program} {C LO:Tab}
def Jei (fn:Func):Code:=fn.body.getD .skip
def lps:Code→List Code
 | .seq x y=>lps x++lps y
 | .cond _ x y=>lps x++lps y
 | .block _ x=>lps x
 | .loop b=>b::lps b
 | _ => []
def Jbv (fn:Func) (r:Nat):Code:=((lps (Jei fn)).find? fun b=>Nat.beq (Xd b) r).getD .skip
theorem JpZ {fn:Func} (h:fn.body.isSome=true):fn.body=some (Jei fn):=by
 unfold Jei;cases hb:fn.body with
 | none=>rw [hb] at h;cases h
 | some c=>rfl
def JgH (P:Program) [Orc P] (fn:Func):Tab→Prop
 | []=>True
 | (r,con)::l=>con.LOK P fn.ntmps (Jbv fn r)∧JgH P fn l
theorem JgH.get [Orc P] {fn:Func} {l:Tab} (h:JgH P fn l) {r:Nat} {con:Con} (hc:Jca l r=some con):con.LOK P fn.ntmps (Jbv fn r):=by
 induction l with
 | nil=>cases hc
 | cons p l ih=>
  obtain ⟨r',c'⟩:=p;simp only [Jca] at hc;cases hb:Nat.beq r' r with
  | true=>rw [hb] at hc;cases hc;have:=Jr hb;subst this;exact h.1
  | false=>rw [hb] at hc;exact ih h.2 hc
theorem JsX [Orc P] {fn:Func} {c:Code} {rs:List Nat} (h:Xb c=rs.map (Jbv fn)∧rs.map (fun r=>Xd (Jbv fn r))=rs) (hL:JgH P fn LO) : ∀b∈Xb c,∀con,Jca LO (Xd b)=some con→con.LOK P fn.ntmps b:=by
 intro b hb con hc;rw [h.1] at hb;obtain ⟨r,hr,rfl⟩:=List.mem_map.1 hb;have:Xd (Jbv fn r)=r:=by
  have h2:=h.2;obtain ⟨i,hi⟩:=List.getElem?_of_mem hr;have h3:=congrArg (·[i]?) h2;simp only [List.getElem?_map,hi,JU,Jg] at h3;exact h3
 rw [this] at hc;exact hL.get hc
theorem Con.OK.of [Orc P] {k:FuncId} {con:Con} {F:con.ins.E→Option con.out.E} (h:Con.OK P k ⟨con.ins,con.out,F⟩) (hF : ∀x,F x=con.F x):Con.OK P k con:=by
 obtain ⟨i,o,G⟩:=con;exact h.congr fun x=>(hF x).symm
theorem Con.LOK.of [Orc P] {N:Nat} {b:Code} {con:Con} {F:con.ins.E→Option con.out.E} (h:Con.LOK P N b ⟨con.ins,con.out,F⟩) (hF : ∀x,con.F x=F x):Con.LOK P N b con:=by
 obtain ⟨i,o,G⟩:=con;exact h.congr hF
theorem Con.OKR.of [Orc P] {k:FuncId} {con:Con} {F:con.ins.E→Option con.out.E} (h:Con.OKR P k ⟨con.ins,con.out,F⟩) (hF : ∀x,F x=con.F x):Con.OKR P k con:=by
 obtain ⟨i,o,G⟩:=con;exact h.congr fun x=>(hF x).symm
theorem fnX [Orc P] {k:FuncId} {fn:Func} {con:Con} (C:Tab) (hC:JaU P C) (hf:P.funcs[k]? = some fn) (hor : ∀args,Orc.O P k args=none:=by exact fun _=>rfl) (hb:(fn.body.isSome,Xb (Jei fn))=(true, []):=by kernel_rfl) (he : ∀x,vfn P C [] fn (Jei fn) con.ins con.out x=con.F x:=by intro x;kernel_rfl):Con.OK P k con:=
 (fn_ok hC hor hf (JpZ (Prod.mk.inj hb).1) (noL (Prod.mk.inj hb).2) con.ins con.out).of he
theorem fnL [Orc P] {k:FuncId} {fn:Func} {con:Con} (C LO:Tab) (rs:List Nat) (hC:JaU P C) (hL:JgH P fn LO) (hf:P.funcs[k]? = some fn) (hor : ∀args,Orc.O P k args=none:=by exact fun _=>rfl) (hb:(fn.body.isSome,Xb (Jei fn),rs.map (fun r=>Xd (Jbv fn r)))=(true,rs.map (Jbv fn),rs):=by kernel_rfl) (he : ∀x,vfn P C LO fn (Jei fn) con.ins con.out x=con.F x:=by intro x;kernel_rfl):Con.OK P k con:=
 (fn_ok hC hor hf (JpZ (Prod.mk.inj hb).1) (JsX (Prod.mk.inj (Prod.mk.inj hb).2) hL) con.ins con.out).of he
theorem fnR [Orc P] {k:FuncId} {fn:Func} {con:Con} (C:Tab) (hC:JaU P C) (hf:P.funcs[k]? = some fn) (hor : ∀args,Orc.O P k args=none:=by exact fun _=>rfl) (hb:fn.body.isSome=true:=by kernel_rfl) (he : ∀x,vfnR P C fn (Jei fn) con.ins con.out x=con.F x:=by intro x;kernel_rfl):Con.OKR P k con:=
 (fn_okR hC hor hf (JpZ hb) con.ins con.out).of he
theorem lpX [Orc P] {fn:Func} {con:Con} {r:Nat} (C LO:Tab) (rs:List Nat) (T:con.ins.E→Option (con.ins.E ⊕ con.out.E)) (hC:JaU P C) (hL:JgH P fn LO) (hb:(Xb (Jbv fn r),rs.map (fun r=>Xd (Jbv fn r)))=(rs.map (Jbv fn),rs):=by kernel_rfl) (he : ∀x,Job P C LO fn.ntmps (Jbv fn r) con.ins con.out x=T x:=by intro x;kernel_rfl) (hT : ∀x,con.F x=Q4 T x:=by exact fun x=>rfl):Con.LOK P fn.ntmps (Jbv fn r) con:=
 (Jue hC (JsX (Prod.mk.inj hb) hL) con.ins con.out).of fun x=>by rw [hT];exact (congrArg (fun T=>Q4 T x) (funext he)).symm
end Go.IM.V
namespace Go.IM.V
noncomputable section
open Go Go.IM Go.Proofs
abbrev DCe:Type:=(Int × ((List Int) × (Nat × Unit)))
abbrev Xe:Ty:=(.p (.i .u8) (.p (.l (.i .u8)) (.p (.f .f64) .u)))
abbrev DEv:Type:=(Int × (Int × (Int × (Int × (ByteArray × ((List Int) × (Nat × (Int × Unit))))))))
abbrev Qi:Ty:=(.p (.i .i64) (.p (.i .u64) (.p (.i .u64) (.p (.i .u8) (.p .s (.p (.l (.i .u8)) (.p (.f .f64) (.p (.i .i64) .u))))))))
abbrev DVn:Type:=((Int × (Int × Unit)) × (DCe × (Bool × Unit)))
abbrev Xy:Ty:=(.p (.p (.i .u64) (.p (.i .i64) .u)) (.p Xe (.p .b .u)))
abbrev zE:DEv:=((0:Int),((0:Int),((0:Int),((0:Int),(ByteArray.empty,([],((0:Nat),((0:Int),()))))))))
abbrev zV:DVn:=(((0:Int),((0:Int),())),(((0:Int),([],((0:Nat),()))),(false,())))
abbrev zKc:(ByteArray × DCe):=(ByteArray.empty,((0:Int),([],((0:Nat),()))))
abbrev ZFt:Type:=(Unit × ((List Bool) × ((List Bool) × ((List Int) × (Int × (Int × (Int × Unit)))))))
abbrev ZRt:Type:=((List (ByteArray × DCe)) × ((List Bool) × ((List Bool) × ((List Int) × (Int × (Int × (Int × Unit)))))))
abbrev ZSt:Type:=((List (ByteArray × DCe)) × ((List Bool) × ((List Bool) × ((List Int) × ((Int × (Int × Unit)) × (Int × Unit))))))
abbrev ZVt:Type:=((List DVn) × ((List DVn) × ((List DVn) × ((List DVn) × Unit))))
abbrev ZMt:Type:=(Unit × (Unit × (Unit × (Unit × (Unit × Unit)))))
abbrev ZUt:Type:=(Unit × (Unit × (Unit × Unit)))
abbrev ZKt:Type:=((List (ByteArray × DCe)) × Unit)
abbrev ZHt:Type:=((Int × Unit) × (((List (List DEv)) × Unit) × Unit))
def F103 (a0:Nat):Option ((Bool × Unit) × Unit × Unit):=
 (some ((((FloatKind.f64).format.order (a0) (a0) != some Ordering.eq),()),(),()))
def c103:Con:=⟨{ sl := [(0,.v (.f .f64))] },(.ret { sl := [(0,.v .b)] }),fun x=>F103 x.1.1⟩
theorem JuZ:Con.OK Try.prog 103 c103:=fnX [] trivial Try.func103
def F77 (a0:Nat):Option ((Int × Unit) × Unit × Unit):=
 ((F103 a0).bind fun y0=>(bif y0.1.1 then (some ((9221120237041090561,()),(),())) else (some (((((a0):Nat):Int),()),(),()))))
def c77:Con:=⟨{ sl := [(0,.v (.f .f64))] },(.ret { sl := [(0,.v (.i .u64))] }),fun x=>F77 x.1.1⟩
theorem JpQ:Con.OK Try.prog 77 c77:=fnX [(103,c103)] ⟨JuZ,trivial⟩ Try.func77
def F38 (a0:Nat) (a1:Nat):Option ((Bool × Unit) × Unit × Unit):=
 ((F77 a0).bind fun y0=>((F77 a1).bind fun y1=>(some ((((y0.1.1:Int) == y1.1.1),()),(),()))))
def c38:Con:=⟨{ sl := [(0,.v (.f .f64)),(1,.v (.f .f64))] },(.ret { sl := [(0,.v .b)] }),fun x=>F38 x.1.1 x.1.2.1⟩
theorem c38_ok:Con.OK Try.prog 38 c38:=fnX [(77,c77)] ⟨JpQ,trivial⟩ Try.func38
def F89 (a0:Int):Option ((Bool × Unit) × Unit × Unit):=
 (bif (decide ((a0:Int)≥0)) then (some (((decide ((a0:Int)<64)),()),(),())) else (some ((false,()),(),())))
def c89:Con:=⟨{ sl := [(0,.v (.i .i64))] },(.ret { sl := [(0,.v .b)] }),fun x=>F89 x.1.1⟩
theorem c89_ok:Con.OK Try.prog 89 c89:=fnX [] trivial Try.func89
def F51 (a0:DEv):Option ((Int × Unit) × Unit × Unit):=
 (bif (decide ((a0.2.2.2.1:Int)≥1)) then ((F89 a0.1).bind fun y0=>(bif (!y0.1.1) then (some ((1,()),(),())) else (bif ((a0.2.1:Int) == 0) then (some ((1,()),(),())) else (bif ((a0.2.2.1:Int) == 0) then (some ((1,()),(),())) else (bif (decide ((a0.2.2.2.1:Int)<1)) then (some ((1,()),(),())) else (bif (decide ((a0.2.2.2.1:Int) > 6)) then (some ((1,()),(),())) else (bif ((a0.2.2.2.1:Int) == 5) then ((F89 a0.2.2.2.2.2.2.2.1).bind fun y1=>(bif (!y1.1.1) then (some ((1,()),(),())) else (bif (decide ((a0.2.2.2.1:Int)≤4)) then (bif ((((a0.2.2.2.2.1.size:Nat):Int):Int) == 0) then (some ((6,()),(),())) else (bif (decide ((((a0.2.2.2.2.1.size:Nat):Int):Int) > 64)) then (some ((6,()),(),())) else (bif ((a0.2.2.2.1:Int) == 1) then (bif (decide (((((a0.2.2.2.2.2.1).length:Nat):Int):Int) > 1048576)) then (some ((6,()),(),())) else (bif (decide ((a0.2.1:Int) > 9223372036854775807)) then (some ((8,()),(),())) else (bif (decide ((a0.2.2.1:Int) > 9223372036854775807)) then (some ((8,()),(),())) else (some ((0,()),(),()))))) else (bif (decide ((a0.2.1:Int) > 9223372036854775807)) then (some ((8,()),(),())) else (bif (decide ((a0.2.2.1:Int) > 9223372036854775807)) then (some ((8,()),(),())) else (some ((0,()),(),()))))))) else (bif ((a0.2.2.2.1:Int) == 1) then (bif (decide (((((a0.2.2.2.2.2.1).length:Nat):Int):Int) > 1048576)) then (some ((6,()),(),())) else (bif (decide ((a0.2.1:Int) > 9223372036854775807)) then (some ((8,()),(),())) else (bif (decide ((a0.2.2.1:Int) > 9223372036854775807)) then (some ((8,()),(),())) else (some ((0,()),(),()))))) else (bif (decide ((a0.2.1:Int) > 9223372036854775807)) then (some ((8,()),(),())) else (bif (decide ((a0.2.2.1:Int) > 9223372036854775807)) then (some ((8,()),(),())) else (some ((0,()),(),())))))))) else (bif (decide ((a0.2.2.2.1:Int)≤4)) then (bif ((((a0.2.2.2.2.1.size:Nat):Int):Int) == 0) then (some ((6,()),(),())) else (bif (decide ((((a0.2.2.2.2.1.size:Nat):Int):Int) > 64)) then (some ((6,()),(),())) else (bif ((a0.2.2.2.1:Int) == 1) then (bif (decide (((((a0.2.2.2.2.2.1).length:Nat):Int):Int) > 1048576)) then (some ((6,()),(),())) else (bif (decide ((a0.2.1:Int) > 9223372036854775807)) then (some ((8,()),(),())) else (bif (decide ((a0.2.2.1:Int) > 9223372036854775807)) then (some ((8,()),(),())) else (some ((0,()),(),()))))) else (bif (decide ((a0.2.1:Int) > 9223372036854775807)) then (some ((8,()),(),())) else (bif (decide ((a0.2.2.1:Int) > 9223372036854775807)) then (some ((8,()),(),())) else (some ((0,()),(),()))))))) else (bif ((a0.2.2.2.1:Int) == 1) then (bif (decide (((((a0.2.2.2.2.2.1).length:Nat):Int):Int) > 1048576)) then (some ((6,()),(),())) else (bif (decide ((a0.2.1:Int) > 9223372036854775807)) then (some ((8,()),(),())) else (bif (decide ((a0.2.2.1:Int) > 9223372036854775807)) then (some ((8,()),(),())) else (some ((0,()),(),()))))) else (bif (decide ((a0.2.1:Int) > 9223372036854775807)) then (some ((8,()),(),())) else (bif (decide ((a0.2.2.1:Int) > 9223372036854775807)) then (some ((8,()),(),())) else (some ((0,()),(),()))))))))))))) else ((F89 a0.1).bind fun y2=>(bif (!y2.1.1) then (some ((1,()),(),())) else (bif ((a0.2.1:Int) == 0) then (some ((1,()),(),())) else (bif ((a0.2.2.1:Int) == 0) then (some ((1,()),(),())) else (bif (decide ((a0.2.2.2.1:Int)<1)) then (some ((1,()),(),())) else (bif (decide ((a0.2.2.2.1:Int) > 6)) then (some ((1,()),(),())) else (bif ((a0.2.2.2.1:Int) == 5) then ((F89 a0.2.2.2.2.2.2.2.1).bind fun y3=>(bif (!y3.1.1) then (some ((1,()),(),())) else (bif ((a0.2.2.2.1:Int) == 1) then (bif (decide (((((a0.2.2.2.2.2.1).length:Nat):Int):Int) > 1048576)) then (some ((6,()),(),())) else (bif (decide ((a0.2.1:Int) > 9223372036854775807)) then (some ((8,()),(),())) else (bif (decide ((a0.2.2.1:Int) > 9223372036854775807)) then (some ((8,()),(),())) else (some ((0,()),(),()))))) else (bif (decide ((a0.2.1:Int) > 9223372036854775807)) then (some ((8,()),(),())) else (bif (decide ((a0.2.2.1:Int) > 9223372036854775807)) then (some ((8,()),(),())) else (some ((0,()),(),()))))))) else (bif ((a0.2.2.2.1:Int) == 1) then (bif (decide (((((a0.2.2.2.2.2.1).length:Nat):Int):Int) > 1048576)) then (some ((6,()),(),())) else (bif (decide ((a0.2.1:Int) > 9223372036854775807)) then (some ((8,()),(),())) else (bif (decide ((a0.2.2.1:Int) > 9223372036854775807)) then (some ((8,()),(),())) else (some ((0,()),(),()))))) else (bif (decide ((a0.2.1:Int) > 9223372036854775807)) then (some ((8,()),(),())) else (bif (decide ((a0.2.2.1:Int) > 9223372036854775807)) then (some ((8,()),(),())) else (some ((0,()),(),())))))))))))))
def c51:Con:=⟨{ sl := [(0,.v Qi)] },(.ret { sl := [(0,.v (.i .i64))] }),fun x=>F51 x.1.1⟩
theorem c51_ok:Con.OK Try.prog 51 c51:=fnX [(89,c89)] ⟨c89_ok,trivial⟩ Try.func51
def F111 (a0:Int):Option ((Bool × Unit) × Unit × Unit):=
 (some ((((a0:Int) != a0),()),(),()))
def c111:Con:=⟨{ sl := [(0,.v (.i .u64))] },(.ret { sl := [(0,.v .b)] }),fun x=>F111 x.1.1⟩
theorem JuV:Con.OK Try.prog 111 c111:=fnX [] trivial Try.func111
def F112 (a0:Int):Option ((Bool × Unit) × Unit × Unit):=
 (some ((((a0:Int) != a0),()),(),()))
def c112:Con:=⟨{ sl := [(0,.v (.i .i64))] },(.ret { sl := [(0,.v .b)] }),fun x=>F112 x.1.1⟩
theorem JuU:Con.OK Try.prog 112 c112:=fnX [] trivial Try.func112
def F87 (a0:Int) (a1:Int):Option ((Int × Unit) × Unit × Unit):=
 ((F111 a0).bind fun y0=>((F111 a1).bind fun y1=>(bif y0.1.1 then (bif y1.1.1 then (some ((0,()),(),())) else (some (((-1),()),(),()))) else (bif y1.1.1 then (some ((1,()),(),())) else (bif (decide ((a0:Int)<a1)) then (some (((-1),()),(),())) else (bif (decide ((a0:Int) > a1)) then (some ((1,()),(),())) else (some ((0,()),(),()))))))))
def c87:Con:=⟨{ sl := [(0,.v (.i .u64)),(1,.v (.i .u64))] },(.ret { sl := [(0,.v (.i .i64))] }),fun x=>F87 x.1.1 x.1.2.1⟩
theorem c87_ok:Con.OK Try.prog 87 c87:=fnX [(111,c111)] ⟨JuV,trivial⟩ Try.func87
def F88 (a0:Int) (a1:Int):Option ((Int × Unit) × Unit × Unit):=
 ((F112 a0).bind fun y0=>((F112 a1).bind fun y1=>(bif y0.1.1 then (bif y1.1.1 then (some ((0,()),(),())) else (some (((-1),()),(),()))) else (bif y1.1.1 then (some ((1,()),(),())) else (bif (decide ((a0:Int)<a1)) then (some (((-1),()),(),())) else (bif (decide ((a0:Int) > a1)) then (some ((1,()),(),())) else (some ((0,()),(),()))))))))
def c88:Con:=⟨{ sl := [(0,.v (.i .i64)),(1,.v (.i .i64))] },(.ret { sl := [(0,.v (.i .i64))] }),fun x=>F88 x.1.1 x.1.2.1⟩
theorem c88_ok:Con.OK Try.prog 88 c88:=fnX [(112,c112)] ⟨JuU,trivial⟩ Try.func88
def JnO (a3:Int) (a6:(List Int)) (a7:Int) (a8:Int):Option (((Int × ((List Int) × (Int × (Int × Unit)))) × Unit × Unit) ⊕ (((Int × Unit) × Unit × Unit) ⊕ (Unit × Unit × Unit))):=
 (bif (decide ((a8:Int)<a7)) then (bif (decide (0≤(a8:Int)∧(a8:Int)<(((a6).length:Nat):Int))) then (bif ((((a6).getD (a8:Int).toNat (0:Int)):Int) != a3) then (some (.inr (.inl ((((a6).getD (a8:Int).toNat (0:Int)),()),(),())))) else (some (.inl ((a3,a6,a7,(IntKind.wrap .i64 (a8+1)),()),(),())))) else none) else (some (.inr (.inr ((),(),())))))
def Jst (a3:Int) (a6:(List Int)) (a7:Int) (a8:Int):Option (((Int × Unit) × Unit × Unit) ⊕ (Unit × Unit × Unit)):=Q4 (fun x:((Int × ((List Int) × (Int × (Int × Unit)))) × Unit × Unit)=>JnO x.1.1 x.1.2.1 x.1.2.2.1 x.1.2.2.2.1) ((a3,a6,a7,a8,()),(),())
theorem Jib (a3:Int) (a6:(List Int)) (a7:Int) (a8:Int):Jst a3 a6 a7 a8=(JnO a3 a6 a7 a8).bind (Sum.elim (fun x=>Jst x.1.1 x.1.2.1 x.1.2.2.1 x.1.2.2.2.1) some):=Qg _ _
def k86_3:Con:=⟨{ sl := [(3,.v (.i .i64)),(6,.v (.l (.i .i64))),(7,.v (.i .i64)),(8,.v (.i .i64))] },(.two (.ret { sl := [(2,.v (.i .i64))] }) (.exit 0 { sl := [] })),fun x=>Jst x.1.1 x.1.2.1 x.1.2.2.1 x.1.2.2.2.1⟩
theorem Jrv:Con.LOK Try.prog Try.f86.ntmps (Jbv Try.f86 3) k86_3:=lpX [] [] [] (fun x=>JnO x.1.1 x.1.2.1 x.1.2.2.1 x.1.2.2.2.1) trivial trivial
def F86 (a0:(List Int)):Option ((Int × Unit) × Unit × Unit):=
 ((Jst 0 a0 (((a0).length:Nat):Int) 0).bind fun y0=>(Sum.elim (fun y1=>(some (y1.1,(),()))) (fun y1=>(some ((0,()),(),()))) y0))
def c86:Con:=⟨{ sl := [(0,.v (.l (.i .i64)))] },(.ret { sl := [(0,.v (.i .i64))] }),fun x=>F86 x.1.1⟩
theorem c86_ok:Con.OK Try.prog 86 c86:=fnL [] [(3,k86_3)] [3] trivial ⟨Jrv,trivial⟩ Try.func86
def F46 (a0:(Int × (Int × Unit))) (a1:(Int × (Int × Unit))):Option ((Int × Unit) × Unit × Unit):=
 ((F87 a0.1 a1.1).bind fun y0=>((F88 a0.2.1 a1.2.1).bind fun y1=>((F86 [y0.1.1,y1.1.1]).bind fun y2=>(some (y2.1,(),())))))
def c46:Con:=⟨{ sl := [(0,.v (.p (.i .u64) (.p (.i .i64) .u))),(1,.v (.p (.i .u64) (.p (.i .i64) .u)))] },(.ret { sl := [(0,.v (.i .i64))] }),fun x=>F46 x.1.1 x.1.2.1⟩
theorem Jgz:Con.OK Try.prog 46 c46:=fnX [(86,c86),(87,c87),(88,c88)] ⟨c86_ok,c87_ok,c88_ok,trivial⟩ Try.func46
def F52 (a0:DEv):Option (((Int × (Int × Unit)) × Unit) × Unit × Unit):=
 (some (((a0.2.2.1,(a0.1,())),()),(),()))
def c52:Con:=⟨{ sl := [(0,.v Qi)] },(.ret { sl := [(0,.v (.p (.i .u64) (.p (.i .i64) .u)))] }),fun x=>F52 x.1.1⟩
theorem Jgy:Con.OK Try.prog 52 c52:=fnX [] trivial Try.func52
def F57 (a0:Nat):Option ((Nat × Unit) × Unit × Unit):=
 ((F77 a0).bind fun y0=>(some (((y0.1.1:Int).toNat,()),(),())))
def c57:Con:=⟨{ sl := [(0,.v (.f .f64))] },(.ret { sl := [(0,.v (.f .f64))] }),fun x=>F57 x.1.1⟩
theorem Jtu:Con.OK Try.prog 57 c57:=fnX [(77,c77)] ⟨JpQ,trivial⟩ Try.func57
def F58 (a0:Nat) (a1:Nat):Option ((Nat × Unit) × Unit × Unit):=
 (bif (((FloatKind.f64).format.add (a0) (a1))).isSome then ((F57 ((((FloatKind.f64).format.add (a0) (a1))).getD 0)).bind fun y0=>(some (y0.1,(),()))) else none)
def c58:Con:=⟨{ sl := [(0,.v (.f .f64)),(1,.v (.f .f64))] },(.ret { sl := [(0,.v (.f .f64))] }),fun x=>F58 x.1.1 x.1.2.1⟩
theorem c58_ok:Con.OK Try.prog 58 c58:=fnX [(57,c57)] ⟨Jtu,trivial⟩ Try.func58
def F12 (a0:DEv):Option (((Int × (Int × Unit)) × Unit) × Unit × Unit):=
 (some (((a0.2.2.1,(a0.1,())),()),(),()))
def c12:Con:=⟨{ sl := [(0,.v Qi)] },(.ret { sl := [(0,.v (.p (.i .u64) (.p (.i .i64) .u)))] }),fun x=>F12 x.1.1⟩
theorem Jl9:Con.OK Try.prog 12 c12:=fnX [] trivial Try.func12
def F14 (a0:(Int × (Int × Unit))) (a1:(Int × (Int × Unit))):Option ((Bool × Unit) × Unit × Unit):=
 (bif (decide ((a0.1:Int)<a1.1)) then (some ((true,()),(),())) else (bif ((a0.1:Int) == a1.1) then (some (((decide ((a0.2.1:Int)<a1.2.1)),()),(),())) else (some ((false,()),(),()))))
def c14:Con:=⟨{ sl := [(0,.v (.p (.i .u64) (.p (.i .i64) .u))),(1,.v (.p (.i .u64) (.p (.i .i64) .u)))] },(.ret { sl := [(0,.v .b)] }),fun x=>F14 x.1.1 x.1.2.1⟩
theorem Jjj:Con.OK Try.prog 14 c14:=fnX [] trivial Try.func14
def F59 (a0:DEv):Option ((Int × Unit) × Unit × Unit):=
 (bif (decide ((a0.1:Int)<0)) then (some ((1,()),(),())) else (bif (decide ((a0.1:Int) > 63)) then (some ((1,()),(),())) else (bif ((a0.2.1:Int) == 0) then (some ((1,()),(),())) else (bif ((a0.2.2.1:Int) == 0) then (some ((1,()),(),())) else (bif (decide ((a0.2.2.2.1:Int)<1)) then (some ((1,()),(),())) else (bif (decide ((a0.2.2.2.1:Int) > 6)) then (some ((1,()),(),())) else (bif ((a0.2.2.2.1:Int) == 5) then (bif (decide ((a0.2.2.2.2.2.2.2.1:Int)<0)) then (some ((1,()),(),())) else (bif (decide ((a0.2.2.2.2.2.2.2.1:Int) > 63)) then (some ((1,()),(),())) else (bif (decide ((a0.2.2.2.1:Int)≤4)) then (bif ((((a0.2.2.2.2.1.size:Nat):Int):Int) == 0) then (some ((6,()),(),())) else (bif (decide ((((a0.2.2.2.2.1.size:Nat):Int):Int) > 64)) then (some ((6,()),(),())) else (bif ((a0.2.2.2.1:Int) == 1) then (bif (decide (((((a0.2.2.2.2.2.1).length:Nat):Int):Int) > 1048576)) then (some ((6,()),(),())) else (bif (decide ((a0.2.1:Int)≥9223372036854775808)) then (some ((8,()),(),())) else (bif (decide ((a0.2.2.1:Int)≥9223372036854775808)) then (some ((8,()),(),())) else (some ((0,()),(),()))))) else (bif (decide ((a0.2.1:Int)≥9223372036854775808)) then (some ((8,()),(),())) else (bif (decide ((a0.2.2.1:Int)≥9223372036854775808)) then (some ((8,()),(),())) else (some ((0,()),(),()))))))) else (bif ((a0.2.2.2.1:Int) == 1) then (bif (decide (((((a0.2.2.2.2.2.1).length:Nat):Int):Int) > 1048576)) then (some ((6,()),(),())) else (bif (decide ((a0.2.1:Int)≥9223372036854775808)) then (some ((8,()),(),())) else (bif (decide ((a0.2.2.1:Int)≥9223372036854775808)) then (some ((8,()),(),())) else (some ((0,()),(),()))))) else (bif (decide ((a0.2.1:Int)≥9223372036854775808)) then (some ((8,()),(),())) else (bif (decide ((a0.2.2.1:Int)≥9223372036854775808)) then (some ((8,()),(),())) else (some ((0,()),(),())))))))) else (bif (decide ((a0.2.2.2.1:Int)≤4)) then (bif ((((a0.2.2.2.2.1.size:Nat):Int):Int) == 0) then (some ((6,()),(),())) else (bif (decide ((((a0.2.2.2.2.1.size:Nat):Int):Int) > 64)) then (some ((6,()),(),())) else (bif ((a0.2.2.2.1:Int) == 1) then (bif (decide (((((a0.2.2.2.2.2.1).length:Nat):Int):Int) > 1048576)) then (some ((6,()),(),())) else (bif (decide ((a0.2.1:Int)≥9223372036854775808)) then (some ((8,()),(),())) else (bif (decide ((a0.2.2.1:Int)≥9223372036854775808)) then (some ((8,()),(),())) else (some ((0,()),(),()))))) else (bif (decide ((a0.2.1:Int)≥9223372036854775808)) then (some ((8,()),(),())) else (bif (decide ((a0.2.2.1:Int)≥9223372036854775808)) then (some ((8,()),(),())) else (some ((0,()),(),()))))))) else (bif ((a0.2.2.2.1:Int) == 1) then (bif (decide (((((a0.2.2.2.2.2.1).length:Nat):Int):Int) > 1048576)) then (some ((6,()),(),())) else (bif (decide ((a0.2.1:Int)≥9223372036854775808)) then (some ((8,()),(),())) else (bif (decide ((a0.2.2.1:Int)≥9223372036854775808)) then (some ((8,()),(),())) else (some ((0,()),(),()))))) else (bif (decide ((a0.2.1:Int)≥9223372036854775808)) then (some ((8,()),(),())) else (bif (decide ((a0.2.2.1:Int)≥9223372036854775808)) then (some ((8,()),(),())) else (some ((0,()),(),())))))))))))))
def c59:Con:=⟨{ sl := [(0,.v Qi)] },(.ret { sl := [(0,.v (.i .i64))] }),fun x=>F59 x.1.1⟩
theorem c59_ok:Con.OK Try.prog 59 c59:=fnX [] trivial Try.func59
def F99 (a0:Nat):Option ((Bool × Unit) × Unit × Unit):=
 (some ((((FloatKind.f64).format.order (a0) (a0) != some Ordering.eq),()),(),()))
def c99:Con:=⟨{ sl := [(0,.v (.f .f64))] },(.ret { sl := [(0,.v .b)] }),fun x=>F99 x.1.1⟩
theorem c99_ok:Con.OK Try.prog 99 c99:=fnX [] trivial Try.func99
def F68 (a0:Nat):Option ((Int × Unit) × Unit × Unit):=
 ((F99 a0).bind fun y0=>(bif y0.1.1 then (some ((9221120237041090561,()),(),())) else (some (((((a0):Nat):Int),()),(),()))))
def c68:Con:=⟨{ sl := [(0,.v (.f .f64))] },(.ret { sl := [(0,.v (.i .u64))] }),fun x=>F68 x.1.1⟩
theorem c68_ok:Con.OK Try.prog 68 c68:=fnX [(99,c99)] ⟨c99_ok,trivial⟩ Try.func68
def F62 (a0:Nat):Option ((Nat × Unit) × Unit × Unit):=
 (bif ((FloatKind.f64).format.order (a0) (a0) != some Ordering.eq) then (bif (((FloatKind.f64).format.sub (a0) (a0))).isSome then (some ((((((FloatKind.f64).format.sub (a0) (a0))).getD 0),()),(),())) else none) else (some ((a0,()),(),())))
def c62:Con:=⟨{ sl := [(0,.v (.f .f64))] },(.ret { sl := [(0,.v (.f .f64))] }),fun x=>F62 x.1.1⟩
theorem c62_ok:Con.OK Try.prog 62 c62:=fnX [] trivial Try.func62
def Jqb (a1:Int) (q0:(List Int)):Option (((Unit × (Int × Unit)) × Unit × ((List Int) × Unit)) ⊕ ((Unit × (Int × Unit)) × Unit × ((List Int) × Unit))):=
 (bif (decide ((a1:Int)≥128)) then (bif (decide ((q0).length+([(iOr .u8 (IntKind.wrap .u8 a1) 128)]).length<lim)) then (some (.inl (((),(Jf3 .u64 a1 7),()),(),((q0 ++ [(iOr .u8 (IntKind.wrap .u8 a1) 128)]),())))) else none) else (some (.inr (((),a1,()),(),(q0,())))))
def Jqv (a1:Int) (q0:(List Int)):Option ((Unit × (Int × Unit)) × Unit × ((List Int) × Unit)):=Q4 (fun x:((Unit × (Int × Unit)) × Unit × ((List Int) × Unit))=>Jqb x.1.2.1 x.2.2.1) (((),a1,()),(),(q0,()))
theorem Jmh (a1:Int) (q0:(List Int)):Jqv a1 q0=(Jqb a1 q0).bind (Sum.elim (fun x=>Jqv x.1.2.1 x.2.2.1) some):=Qg _ _
def k73_1:Con:=⟨{ sl := [(0,.o 0),(1,.v (.i .u64))],bf := [(.i .u8)] },(.exit 0 { sl := [(0,.o 0),(1,.v (.i .u64))],bf := [(.i .u8)] }),fun x=>Jqv x.1.2.1 x.2.2.1⟩
theorem Jrx:Con.LOK Try.prog Try.f73.ntmps (Jbv Try.f73 1) k73_1:=lpX [] [] [] (fun x=>Jqb x.1.2.1 x.2.2.1) trivial trivial
def F73 (a1:Int) (q0:(List Int)):Option ((Unit × Unit) × Unit × ((List Int) × Unit)):=
 ((Jqv a1 q0).bind fun y0=>(bif (decide ((y0.2.2.1).length+([(IntKind.wrap .u8 y0.1.2.1)]).length<lim)) then (some (((),()),(),((y0.2.2.1 ++ [(IntKind.wrap .u8 y0.1.2.1)]),()))) else none))
def c73:Con:=⟨{ sl := [(0,.o 0),(1,.v (.i .u64))],bf := [(.i .u8)] },(.ret { sl := [(0,.o 0)],bf := [(.i .u8)] }),fun x=>F73 x.1.2.1 x.2.2.1⟩
theorem Jtt:Con.OK Try.prog 73 c73:=fnL [] [(1,k73_1)] [1] trivial ⟨Jrx,trivial⟩ Try.func73
def Jqa (a1:Int) (a5:Int) (q0:(List Int)):Option (((Unit × (Int × (Int × Unit))) × Unit × ((List Int) × Unit)) ⊕ ((Unit × Unit) × Unit × ((List Int) × Unit))):=
 (bif (decide ((a5:Int)≥0)) then (bif (decide ((0:Int)≤(IntKind.wrap .i64 (8*a5)))) then (bif (decide ((q0).length+([(IntKind.wrap .u8 (Jf3 .u64 a1 (IntKind.wrap .i64 (8*a5))))]).length<lim)) then (some (.inl (((),a1,(IntKind.wrap .i64 (a5 - 1)),()),(),((q0 ++ [(IntKind.wrap .u8 (Jf3 .u64 a1 (IntKind.wrap .i64 (8*a5))))]),())))) else none) else none) else (some (.inr (((),()),(),(q0,())))))
def JnR (a1:Int) (a5:Int) (q0:(List Int)):Option ((Unit × Unit) × Unit × ((List Int) × Unit)):=Q4 (fun x:((Unit × (Int × (Int × Unit))) × Unit × ((List Int) × Unit))=>Jqa x.1.2.1 x.1.2.2.1 x.2.2.1) (((),a1,a5,()),(),(q0,()))
theorem Jmg (a1:Int) (a5:Int) (q0:(List Int)):JnR a1 a5 q0=(Jqa a1 a5 q0).bind (Sum.elim (fun x=>JnR x.1.2.1 x.1.2.2.1 x.2.2.1) some):=Qg _ _
def k74_2:Con:=⟨{ sl := [(0,.o 0),(1,.v (.i .u64)),(5,.v (.i .i64))],bf := [(.i .u8)] },(.exit 0 { sl := [(0,.o 0)],bf := [(.i .u8)] }),fun x=>JnR x.1.2.1 x.1.2.2.1 x.2.2.1⟩
theorem Jrw:Con.LOK Try.prog Try.f74.ntmps (Jbv Try.f74 2) k74_2:=lpX [] [] [] (fun x=>Jqa x.1.2.1 x.1.2.2.1 x.2.2.1) trivial trivial
def F74 (a1:Int) (q0:(List Int)):Option ((Unit × Unit) × Unit × ((List Int) × Unit)):=
 ((JnR a1 7 q0).bind fun y0=>(some (((),()),(),y0.2.2)))
def c74:Con:=⟨{ sl := [(0,.o 0),(1,.v (.i .u64))],bf := [(.i .u8)] },(.ret { sl := [(0,.o 0)],bf := [(.i .u8)] }),fun x=>F74 x.1.2.1 x.2.2.1⟩
theorem c74_ok:Con.OK Try.prog 74 c74:=fnL [] [(2,k74_2)] [2] trivial ⟨Jrw,trivial⟩ Try.func74
def F76 (a1:(List Int)) (q0:(List Int)):Option ((Unit × Unit) × Unit × ((List Int) × Unit)):=
 ((F73 (IntKind.wrap .u64 (((a1).length:Nat):Int)) q0).bind fun y0=>(bif (decide ((y0.2.2.1).length+(a1).length<lim)) then (some (((),()),(),((y0.2.2.1++a1),()))) else none))
def c76:Con:=⟨{ sl := [(0,.o 0),(1,.v (.l (.i .u8)))],bf := [(.i .u8)] },(.ret { sl := [(0,.o 0)],bf := [(.i .u8)] }),fun x=>F76 x.1.2.1 x.2.2.1⟩
theorem c76_ok:Con.OK Try.prog 76 c76:=fnX [(73,c73)] ⟨Jtt,trivial⟩ Try.func76
def Jp9 (a1:Int) (q0:(List Int)):Option (((Int × (Unit × Unit)) × Unit × ((List Int) × Unit)) ⊕ ((Int × (Unit × Unit)) × Unit × ((List Int) × Unit))):=
 (bif (decide ((a1:Int) > 127)) then (bif (decide ((q0).length+([(IntKind.wrap .u8 (IntKind.wrap .u64 (128+((a1:Int).tmod 128))))]).length<lim)) then (some (.inl (((IntKind.wrap .u64 ((a1:Int).tdiv 128)),(),()),(),((q0 ++ [(IntKind.wrap .u8 (IntKind.wrap .u64 (128+((a1:Int).tmod 128))))]),())))) else none) else (some (.inr ((a1,(),()),(),(q0,())))))
def Jqu (a1:Int) (q0:(List Int)):Option ((Int × (Unit × Unit)) × Unit × ((List Int) × Unit)):=Q4 (fun x:((Int × (Unit × Unit)) × Unit × ((List Int) × Unit))=>Jp9 x.1.1 x.2.2.1) ((a1,(),()),(),(q0,()))
theorem Jmf (a1:Int) (q0:(List Int)):Jqu a1 q0=(Jp9 a1 q0).bind (Sum.elim (fun x=>Jqu x.1.1 x.2.2.1) some):=Qg _ _
def k92_3:Con:=⟨{ sl := [(1,.v (.i .u64)),(5,.o 0)],bf := [(.i .u8)] },(.exit 0 { sl := [(1,.v (.i .u64)),(5,.o 0)],bf := [(.i .u8)] }),fun x=>Jqu x.1.1 x.2.2.1⟩
theorem Jru:Con.LOK Try.prog Try.f92.ntmps (Jbv Try.f92 3) k92_3:=lpX [] [] [] (fun x=>Jp9 x.1.1 x.2.2.1) trivial trivial
def F92 (a1:Int) (q0:(List Int)):Option ((Unit × Unit) × Unit × ((List Int) × Unit)):=
 (bif (decide ((q0).length<lim)) then ((Jqu a1 q0).bind fun y0=>(bif (decide ((y0.2.2.1).length+([(IntKind.wrap .u8 y0.1.1)]).length<lim)) then (some (((),()),(),((y0.2.2.1 ++ [(IntKind.wrap .u8 y0.1.1)]),()))) else none)) else none)
def c92:Con:=⟨{ sl := [(0,.o 0),(1,.v (.i .u64))],bf := [(.i .u8)] },(.ret { sl := [(0,.o 0)],bf := [(.i .u8)] }),fun x=>F92 x.1.2.1 x.2.2.1⟩
theorem Jtq:Con.OK Try.prog 92 c92:=fnL [] [(3,k92_3)] [3] trivial ⟨Jru,trivial⟩ Try.func92
def Jp8 (a1:Int) (a6:Int) (q0:(List Int)):Option (((Int × (Unit × (Int × Unit))) × Unit × ((List Int) × Unit)) ⊕ ((Unit × Unit) × Unit × ((List Int) × Unit))):=
 (bif (decide ((a6:Int)<8)) then (bif (decide ((0:Int)≤(IntKind.wrap .i64 (56 - (IntKind.wrap .i64 (8*a6)))))) then (bif (decide ((q0).length+([(IntKind.wrap .u8 (Jf3 .u64 a1 (IntKind.wrap .i64 (56 - (IntKind.wrap .i64 (8*a6))))))]).length<lim)) then (some (.inl ((a1,(),(IntKind.wrap .i64 (a6+1)),()),(),((q0 ++ [(IntKind.wrap .u8 (Jf3 .u64 a1 (IntKind.wrap .i64 (56 - (IntKind.wrap .i64 (8*a6))))))]),())))) else none) else none) else (some (.inr (((),()),(),(q0,())))))
def JnQ (a1:Int) (a6:Int) (q0:(List Int)):Option ((Unit × Unit) × Unit × ((List Int) × Unit)):=Q4 (fun x:((Int × (Unit × (Int × Unit))) × Unit × ((List Int) × Unit))=>Jp8 x.1.1 x.1.2.2.1 x.2.2.1) ((a1,(),a6,()),(),(q0,()))
theorem Jme (a1:Int) (a6:Int) (q0:(List Int)):JnQ a1 a6 q0=(Jp8 a1 a6 q0).bind (Sum.elim (fun x=>JnQ x.1.1 x.1.2.2.1 x.2.2.1) some):=Qg _ _
def k94_4:Con:=⟨{ sl := [(1,.v (.i .u64)),(5,.o 0),(6,.v (.i .i64))],bf := [(.i .u8)] },(.exit 0 { sl := [(5,.o 0)],bf := [(.i .u8)] }),fun x=>JnQ x.1.1 x.1.2.2.1 x.2.2.1⟩
theorem Jrt:Con.LOK Try.prog Try.f94.ntmps (Jbv Try.f94 4) k94_4:=lpX [] [] [] (fun x=>Jp8 x.1.1 x.1.2.2.1 x.2.2.1) trivial trivial
def F94 (a1:Int) (q0:(List Int)):Option ((Unit × Unit) × Unit × ((List Int) × Unit)):=
 (bif (decide ((q0).length<lim)) then ((JnQ a1 0 q0).bind fun y0=>(some (((),()),(),y0.2.2))) else none)
def c94:Con:=⟨{ sl := [(0,.o 0),(1,.v (.i .u64))],bf := [(.i .u8)] },(.ret { sl := [(0,.o 0)],bf := [(.i .u8)] }),fun x=>F94 x.1.2.1 x.2.2.1⟩
theorem c94_ok:Con.OK Try.prog 94 c94:=fnL [] [(4,k94_4)] [4] trivial ⟨Jrt,trivial⟩ Try.func94
def F93 (a1:(List Int)) (q0:(List Int)):Option ((Unit × Unit) × Unit × ((List Int) × Unit)):=
 ((F92 (IntKind.wrap .u64 (((a1).length:Nat):Int)) q0).bind fun y0=>(bif (decide ((y0.2.2.1).length+(a1).length<lim)) then (some (((),()),(),((y0.2.2.1++a1),()))) else none))
def c93:Con:=⟨{ sl := [(0,.o 0),(1,.v (.l (.i .u8)))],bf := [(.i .u8)] },(.ret { sl := [(0,.o 0)],bf := [(.i .u8)] }),fun x=>F93 x.1.2.1 x.2.2.1⟩
theorem c93_ok:Con.OK Try.prog 93 c93:=fnX [(92,c92)] ⟨Jtq,trivial⟩ Try.func93
def F55 (a0:DEv):Option ((Unit × Unit) × Unit × ((List Int) × Unit)):=
 ((F73 (IntKind.wrap .u64 a0.1) ([]:List Int)).bind fun y0=>((F73 a0.2.1 y0.2.2.1).bind fun y1=>((F73 a0.2.2.1 y1.2.2.1).bind fun y2=>(bif (decide ((y2.2.2.1).length+([a0.2.2.2.1]).length<lim)) then (bif (decide ((a0.2.2.2.1:Int)≥1)) then (bif (decide ((a0.2.2.2.1:Int)≤4)) then ((F76 (XS a0.2.2.2.2.1) (y2.2.2.1 ++ [a0.2.2.2.1])).bind fun y3=>(bif ((a0.2.2.2.1:Int) == 1) then ((F76 a0.2.2.2.2.2.1 y3.2.2.1).bind fun y4=>(some (((),()),(),y4.2.2))) else (bif ((a0.2.2.2.1:Int) == 2) then ((F77 a0.2.2.2.2.2.2.1).bind fun y5=>((F74 y5.1.1 y3.2.2.1).bind fun y6=>(some (((),()),(),y6.2.2)))) else (bif ((a0.2.2.2.1:Int) == 3) then ((F77 a0.2.2.2.2.2.2.1).bind fun y7=>((F74 y7.1.1 y3.2.2.1).bind fun y8=>(some (((),()),(),y8.2.2)))) else (bif ((a0.2.2.2.1:Int) == 5) then ((F73 (IntKind.wrap .u64 a0.2.2.2.2.2.2.2.1) y3.2.2.1).bind fun y9=>(some (((),()),(),y9.2.2))) else (some (((),()),(),y3.2.2))))))) else (bif ((a0.2.2.2.1:Int) == 1) then ((F76 a0.2.2.2.2.2.1 (y2.2.2.1 ++ [a0.2.2.2.1])).bind fun y10=>(some (((),()),(),y10.2.2))) else (bif ((a0.2.2.2.1:Int) == 2) then ((F77 a0.2.2.2.2.2.2.1).bind fun y11=>((F74 y11.1.1 (y2.2.2.1 ++ [a0.2.2.2.1])).bind fun y12=>(some (((),()),(),y12.2.2)))) else (bif ((a0.2.2.2.1:Int) == 3) then ((F77 a0.2.2.2.2.2.2.1).bind fun y13=>((F74 y13.1.1 (y2.2.2.1 ++ [a0.2.2.2.1])).bind fun y14=>(some (((),()),(),y14.2.2)))) else (bif ((a0.2.2.2.1:Int) == 5) then ((F73 (IntKind.wrap .u64 a0.2.2.2.2.2.2.2.1) (y2.2.2.1 ++ [a0.2.2.2.1])).bind fun y15=>(some (((),()),(),y15.2.2))) else (some (((),()),(),((y2.2.2.1 ++ [a0.2.2.2.1]),())))))))) else (bif ((a0.2.2.2.1:Int) == 1) then ((F76 a0.2.2.2.2.2.1 (y2.2.2.1 ++ [a0.2.2.2.1])).bind fun y16=>(some (((),()),(),y16.2.2))) else (bif ((a0.2.2.2.1:Int) == 2) then ((F77 a0.2.2.2.2.2.2.1).bind fun y17=>((F74 y17.1.1 (y2.2.2.1 ++ [a0.2.2.2.1])).bind fun y18=>(some (((),()),(),y18.2.2)))) else (bif ((a0.2.2.2.1:Int) == 3) then ((F77 a0.2.2.2.2.2.2.1).bind fun y19=>((F74 y19.1.1 (y2.2.2.1 ++ [a0.2.2.2.1])).bind fun y20=>(some (((),()),(),y20.2.2)))) else (bif ((a0.2.2.2.1:Int) == 5) then ((F73 (IntKind.wrap .u64 a0.2.2.2.2.2.2.2.1) (y2.2.2.1 ++ [a0.2.2.2.1])).bind fun y21=>(some (((),()),(),y21.2.2))) else (some (((),()),(),((y2.2.2.1 ++ [a0.2.2.2.1]),())))))))) else none))))
def c55:Con:=⟨{ sl := [(0,.v Qi)] },(.ret { sl := [(0,.o 0)],bf := [(.i .u8)] }),fun x=>F55 x.1.1⟩
theorem c55_ok:Con.OK Try.prog 55 c55:=fnX [(73,c73),(74,c74),(76,c76),(77,c77)] ⟨Jtt,c74_ok,c76_ok,JpQ,trivial⟩ Try.func55
def F60 (a0:DEv):Option ((Unit × Unit) × Unit × ((List Int) × Unit)):=
 ((F92 (IntKind.wrap .u64 a0.1) ([]:List Int)).bind fun y0=>((F92 a0.2.1 y0.2.2.1).bind fun y1=>((F92 a0.2.2.1 y1.2.2.1).bind fun y2=>(bif (decide ((y2.2.2.1).length+([a0.2.2.2.1]).length<lim)) then (bif (decide ((a0.2.2.2.1:Int)≤4)) then ((F93 (XS a0.2.2.2.2.1) (y2.2.2.1 ++ [a0.2.2.2.1])).bind fun y3=>(bif ((a0.2.2.2.1:Int) == 1) then ((F93 a0.2.2.2.2.2.1 y3.2.2.1).bind fun y4=>(bif ((a0.2.2.2.1:Int) == 2) then ((F68 a0.2.2.2.2.2.2.1).bind fun y5=>((F94 y5.1.1 y4.2.2.1).bind fun y6=>(bif ((a0.2.2.2.1:Int) == 5) then ((F92 (IntKind.wrap .u64 a0.2.2.2.2.2.2.2.1) y6.2.2.1).bind fun y7=>(some (((),()),(),y7.2.2))) else (some (((),()),(),y6.2.2))))) else (bif ((a0.2.2.2.1:Int) == 3) then ((F68 a0.2.2.2.2.2.2.1).bind fun y8=>((F94 y8.1.1 y4.2.2.1).bind fun y9=>(bif ((a0.2.2.2.1:Int) == 5) then ((F92 (IntKind.wrap .u64 a0.2.2.2.2.2.2.2.1) y9.2.2.1).bind fun y10=>(some (((),()),(),y10.2.2))) else (some (((),()),(),y9.2.2))))) else (bif ((a0.2.2.2.1:Int) == 5) then ((F92 (IntKind.wrap .u64 a0.2.2.2.2.2.2.2.1) y4.2.2.1).bind fun y11=>(some (((),()),(),y11.2.2))) else (some (((),()),(),y4.2.2)))))) else (bif ((a0.2.2.2.1:Int) == 2) then ((F68 a0.2.2.2.2.2.2.1).bind fun y12=>((F94 y12.1.1 y3.2.2.1).bind fun y13=>(bif ((a0.2.2.2.1:Int) == 5) then ((F92 (IntKind.wrap .u64 a0.2.2.2.2.2.2.2.1) y13.2.2.1).bind fun y14=>(some (((),()),(),y14.2.2))) else (some (((),()),(),y13.2.2))))) else (bif ((a0.2.2.2.1:Int) == 3) then ((F68 a0.2.2.2.2.2.2.1).bind fun y15=>((F94 y15.1.1 y3.2.2.1).bind fun y16=>(bif ((a0.2.2.2.1:Int) == 5) then ((F92 (IntKind.wrap .u64 a0.2.2.2.2.2.2.2.1) y16.2.2.1).bind fun y17=>(some (((),()),(),y17.2.2))) else (some (((),()),(),y16.2.2))))) else (bif ((a0.2.2.2.1:Int) == 5) then ((F92 (IntKind.wrap .u64 a0.2.2.2.2.2.2.2.1) y3.2.2.1).bind fun y18=>(some (((),()),(),y18.2.2))) else (some (((),()),(),y3.2.2))))))) else (bif ((a0.2.2.2.1:Int) == 1) then ((F93 a0.2.2.2.2.2.1 (y2.2.2.1 ++ [a0.2.2.2.1])).bind fun y19=>(bif ((a0.2.2.2.1:Int) == 2) then ((F68 a0.2.2.2.2.2.2.1).bind fun y20=>((F94 y20.1.1 y19.2.2.1).bind fun y21=>(bif ((a0.2.2.2.1:Int) == 5) then ((F92 (IntKind.wrap .u64 a0.2.2.2.2.2.2.2.1) y21.2.2.1).bind fun y22=>(some (((),()),(),y22.2.2))) else (some (((),()),(),y21.2.2))))) else (bif ((a0.2.2.2.1:Int) == 3) then ((F68 a0.2.2.2.2.2.2.1).bind fun y23=>((F94 y23.1.1 y19.2.2.1).bind fun y24=>(bif ((a0.2.2.2.1:Int) == 5) then ((F92 (IntKind.wrap .u64 a0.2.2.2.2.2.2.2.1) y24.2.2.1).bind fun y25=>(some (((),()),(),y25.2.2))) else (some (((),()),(),y24.2.2))))) else (bif ((a0.2.2.2.1:Int) == 5) then ((F92 (IntKind.wrap .u64 a0.2.2.2.2.2.2.2.1) y19.2.2.1).bind fun y26=>(some (((),()),(),y26.2.2))) else (some (((),()),(),y19.2.2)))))) else (bif ((a0.2.2.2.1:Int) == 2) then ((F68 a0.2.2.2.2.2.2.1).bind fun y27=>((F94 y27.1.1 (y2.2.2.1 ++ [a0.2.2.2.1])).bind fun y28=>(bif ((a0.2.2.2.1:Int) == 5) then ((F92 (IntKind.wrap .u64 a0.2.2.2.2.2.2.2.1) y28.2.2.1).bind fun y29=>(some (((),()),(),y29.2.2))) else (some (((),()),(),y28.2.2))))) else (bif ((a0.2.2.2.1:Int) == 3) then ((F68 a0.2.2.2.2.2.2.1).bind fun y30=>((F94 y30.1.1 (y2.2.2.1 ++ [a0.2.2.2.1])).bind fun y31=>(bif ((a0.2.2.2.1:Int) == 5) then ((F92 (IntKind.wrap .u64 a0.2.2.2.2.2.2.2.1) y31.2.2.1).bind fun y32=>(some (((),()),(),y32.2.2))) else (some (((),()),(),y31.2.2))))) else (bif ((a0.2.2.2.1:Int) == 5) then ((F92 (IntKind.wrap .u64 a0.2.2.2.2.2.2.2.1) (y2.2.2.1 ++ [a0.2.2.2.1])).bind fun y33=>(some (((),()),(),y33.2.2))) else (some (((),()),(),((y2.2.2.1 ++ [a0.2.2.2.1]),())))))))) else none))))
def c60:Con:=⟨{ sl := [(0,.v Qi)] },(.ret { sl := [(0,.o 0)],bf := [(.i .u8)] }),fun x=>F60 x.1.1⟩
theorem c60_ok:Con.OK Try.prog 60 c60:=fnX [(68,c68),(92,c92),(93,c93),(94,c94)] ⟨c68_ok,Jtq,c93_ok,c94_ok,trivial⟩ Try.func60
def F53 (a0:(List Int)) (a1:Int):Option ((Int × Unit) × Unit × Unit):=
 (bif (decide ((a1:Int)<0)) then (some ((0,()),(),())) else (bif (decide ((a1:Int)≥(((a0).length:Nat):Int))) then (some ((0,()),(),())) else (bif (decide (0≤(a1:Int)∧(a1:Int)<(((a0).length:Nat):Int))) then (some ((((a0).getD (a1:Int).toNat (0:Int)),()),(),())) else none)))
def c53:Con:=⟨{ sl := [(0,.v (.l (.i .u64))),(1,.v (.i .i64))] },(.ret { sl := [(0,.v (.i .u64))] }),fun x=>F53 x.1.1 x.1.2.1⟩
theorem c53_ok:Con.OK Try.prog 53 c53:=fnX [] trivial Try.func53
def F90 (a0:(List Int)):Option (((List Int) × Unit) × Unit × Unit):=
 (Jff (a0).length (some ((([]:List Int),()),(),())) (bif (decide ((([]:List Int)).length+(a0).length<lim)) then (some (((([]:List Int)++a0),()),(),())) else none))
def c90:Con:=⟨{ sl := [(0,.v (.l (.i .u64)))] },(.ret { sl := [(0,.v (.l (.i .u64)))] }),fun x=>F90 x.1.1⟩
theorem c90_ok:Con.OK Try.prog 90 c90:=fnX [] trivial Try.func90
def F56 (a0:(List Int)):Option (((List Int) × Unit) × Unit × Unit):=
 (Jff (a0).length (some ((([]:List Int),()),(),())) (bif (decide ((([]:List Int)).length+(a0).length<lim)) then (some (((([]:List Int)++a0),()),(),())) else none))
def c56:Con:=⟨{ sl := [(0,.v (.l (.i .u8)))] },(.ret { sl := [(0,.v (.l (.i .u8)))] }),fun x=>F56 x.1.1⟩
theorem c56_ok:Con.OK Try.prog 56 c56:=fnX [] trivial Try.func56
def Jqc (a0:(List Int)) (a3:Int):Option ((((List Int) × (Int × Unit)) × Unit × Unit) ⊕ ((Int × Unit) × Unit × Unit)):=
 (bif (decide ((a3:Int) > 0)) then (bif (decide (0≤((IntKind.wrap .i64 (a3 - 1)):Int)∧((IntKind.wrap .i64 (a3 - 1)):Int)<(((a0).length:Nat):Int))) then (bif ((((a0).getD ((IntKind.wrap .i64 (a3 - 1)):Int).toNat (0:Int)):Int) == 0) then (some (.inl ((a0,(IntKind.wrap .i64 (a3 - 1)),()),(),()))) else (some (.inr ((a3,()),(),())))) else none) else (some (.inr ((a3,()),(),()))))
def Jqw (a0:(List Int)) (a3:Int):Option ((Int × Unit) × Unit × Unit):=Q4 (fun x:(((List Int) × (Int × Unit)) × Unit × Unit)=>Jqc x.1.1 x.1.2.1) ((a0,a3,()),(),())
theorem Jmi (a0:(List Int)) (a3:Int):Jqw a0 a3=(Jqc a0 a3).bind (Sum.elim (fun x=>Jqw x.1.1 x.1.2.1) some):=Qg _ _
def k71_2:Con:=⟨{ sl := [(0,.v (.l (.i .u64))),(3,.v (.i .i64))] },(.exit 0 { sl := [(3,.v (.i .i64))] }),fun x=>Jqw x.1.1 x.1.2.1⟩
theorem Jry:Con.LOK Try.prog Try.f71.ntmps (Jbv Try.f71 2) k71_2:=lpX [] [] [] (fun x=>Jqc x.1.1 x.1.2.1) trivial trivial
def F71 (a0:(List Int)):Option (((List Int) × Unit) × Unit × Unit):=
 ((Jqw a0 (((a0).length:Nat):Int)).bind fun y0=>(bif (decide (0≤(y0.1.1:Int)∧(y0.1.1:Int)≤(((a0).length:Nat):Int))) then ((F90 ((a0).take (y0.1.1:Int).toNat)).bind fun y1=>(some (y1.1,(),()))) else none))
def c71:Con:=⟨{ sl := [(0,.v (.l (.i .u64)))] },(.ret { sl := [(0,.v (.l (.i .u64)))] }),fun x=>F71 x.1.1⟩
theorem c71_ok:Con.OK Try.prog 71 c71:=fnL [(90,c90)] [(2,k71_2)] [2] ⟨c90_ok,trivial⟩ ⟨Jry,trivial⟩ Try.func71
def Jqi (a0:(List DEv)) (a3:(List DEv)) (a4:Int) (a5:Int):Option ((((List DEv) × ((List DEv) × (Int × (Int × Unit)))) × Unit × Unit) ⊕ ((Int × Unit) × Unit × Unit)):=
 (bif (decide ((a5:Int) > 0)) then (bif (decide (0≤(a4:Int)∧(a4:Int)<(((a0).length:Nat):Int))) then ((F12 ((a0).getD (a4:Int).toNat zE)).bind fun y0=>(bif (decide (0≤((IntKind.wrap .i64 (a5 - 1)):Int)∧((IntKind.wrap .i64 (a5 - 1)):Int)<(((a3).length:Nat):Int))) then ((F12 ((a3).getD ((IntKind.wrap .i64 (a5 - 1)):Int).toNat zE)).bind fun y1=>((F14 y0.1.1 y1.1.1).bind fun y2=>(bif y2.1.1 then (some (.inl ((a0,a3,a4,(IntKind.wrap .i64 (a5 - 1)),()),(),()))) else (some (.inr ((a5,()),(),())))))) else none)) else none) else (some (.inr ((a5,()),(),()))))
def Jqz (a0:(List DEv)) (a3:(List DEv)) (a4:Int) (a5:Int):Option ((Int × Unit) × Unit × Unit):=Q4 (fun x:(((List DEv) × ((List DEv) × (Int × (Int × Unit)))) × Unit × Unit)=>Jqi x.1.1 x.1.2.1 x.1.2.2.1 x.1.2.2.2.1) ((a0,a3,a4,a5,()),(),())
theorem Jmo (a0:(List DEv)) (a3:(List DEv)) (a4:Int) (a5:Int):Jqz a0 a3 a4 a5=(Jqi a0 a3 a4 a5).bind (Sum.elim (fun x=>Jqz x.1.1 x.1.2.1 x.1.2.2.1 x.1.2.2.2.1) some):=Qg _ _
def k43_6:Con:=⟨{ sl := [(0,.v (.l Qi)),(3,.v (.l Qi)),(4,.v (.i .i64)),(5,.v (.i .i64))] },(.exit 2 { sl := [(5,.v (.i .i64))] }),fun x=>Jqz x.1.1 x.1.2.1 x.1.2.2.1 x.1.2.2.2.1⟩
theorem JrE:Con.LOK Try.prog Try.f43.ntmps (Jbv Try.f43 6) k43_6:=lpX [(12,c12),(14,c14)] [] [] (fun x=>Jqi x.1.1 x.1.2.1 x.1.2.2.1 x.1.2.2.2.1) ⟨Jl9,Jjj,trivial⟩ trivial
def Jqj (a0:(List DEv)) (a4:Int) (q0:(List DEv)):Option ((((List DEv) × (Unit × (Int × Unit))) × Unit × ((List DEv) × Unit)) ⊕ ((Unit × Unit) × Unit × ((List DEv) × Unit))):=
 (bif (decide ((a4:Int)<(((a0).length:Nat):Int))) then ((Jqz a0 q0 a4 (((q0).length:Nat):Int)).bind fun y0=>(bif (decide (0≤(y0.1.1:Int)∧(y0.1.1:Int)≤(((q0).length:Nat):Int))) then (bif (decide ((((q0).take (y0.1.1:Int).toNat)).length<lim)) then (bif (decide (0≤(a4:Int)∧(a4:Int)<(((a0).length:Nat):Int))) then (bif (decide ((((q0).take (y0.1.1:Int).toNat)).length+([((a0).getD (a4:Int).toNat zE)]).length<lim)) then (bif (decide (0≤(y0.1.1:Int)∧(y0.1.1:Int)≤(((q0).length:Nat):Int))) then (bif (decide (((((q0).take (y0.1.1:Int).toNat) ++ [((a0).getD (a4:Int).toNat zE)])).length+(((q0).drop (y0.1.1:Int).toNat)).length<lim)) then (some (.inl ((a0,(),(IntKind.wrap .i64 (a4+1)),()),(),(((((q0).take (y0.1.1:Int).toNat) ++ [((a0).getD (a4:Int).toNat zE)])++((q0).drop (y0.1.1:Int).toNat)),())))) else none) else none) else none) else none) else none) else none)) else (some (.inr (((),()),(),(q0,())))))
def JnW (a0:(List DEv)) (a4:Int) (q0:(List DEv)):Option ((Unit × Unit) × Unit × ((List DEv) × Unit)):=Q4 (fun x:(((List DEv) × (Unit × (Int × Unit))) × Unit × ((List DEv) × Unit))=>Jqj x.1.1 x.1.2.2.1 x.2.2.1) ((a0,(),a4,()),(),(q0,()))
theorem Jmp (a0:(List DEv)) (a4:Int) (q0:(List DEv)):JnW a0 a4 q0=(Jqj a0 a4 q0).bind (Sum.elim (fun x=>JnW x.1.1 x.1.2.2.1 x.2.2.1) some):=Qg _ _
def k43_3:Con:=⟨{ sl := [(0,.v (.l Qi)),(3,.o 0),(4,.v (.i .i64))],bf := [Qi] },(.exit 0 { sl := [(3,.o 0)],bf := [Qi] }),fun x=>JnW x.1.1 x.1.2.2.1 x.2.2.1⟩
theorem JrF:Con.LOK Try.prog Try.f43.ntmps (Jbv Try.f43 3) k43_3:=lpX [] [(6,k43_6)] [6] (fun x=>Jqj x.1.1 x.1.2.2.1 x.2.2.1) trivial ⟨JrE,trivial⟩
def F43 (a0:(List DEv)):Option (((List DEv) × Unit) × Unit × Unit):=
 ((JnW a0 0 ([]:List DEv)).bind fun y0=>(some (y0.2.2,(),())))
def c43:Con:=⟨{ sl := [(0,.v (.l Qi))] },(.ret { sl := [(0,.v (.l Qi))] }),fun x=>F43 x.1.1⟩
theorem c43_ok:Con.OK Try.prog 43 c43:=fnL [] [(3,k43_3)] [3] trivial ⟨JrF,trivial⟩ Try.func43
def T9_3 (a0:(List (List DEv))) (a4:Int) (q0:(List DEv)):Option ((((List (List DEv)) × (Unit × (Int × Unit))) × Unit × ((List DEv) × Unit)) ⊕ ((Unit × Unit) × Unit × ((List DEv) × Unit))):=
 (bif (decide ((a4:Int)<(((a0).length:Nat):Int))) then (bif (decide (0≤(a4:Int)∧(a4:Int)<(((a0).length:Nat):Int))) then (bif (decide ((q0).length+(((a0).getD (a4:Int).toNat [])).length<lim)) then (some (.inl ((a0,(),(IntKind.wrap .i64 (a4+1)),()),(),((q0++((a0).getD (a4:Int).toNat [])),())))) else none) else none) else (some (.inr (((),()),(),(q0,())))))
def L9_3 (a0:(List (List DEv))) (a4:Int) (q0:(List DEv)):Option ((Unit × Unit) × Unit × ((List DEv) × Unit)):=Q4 (fun x:(((List (List DEv)) × (Unit × (Int × Unit))) × Unit × ((List DEv) × Unit))=>T9_3 x.1.1 x.1.2.2.1 x.2.2.1) ((a0,(),a4,()),(),(q0,()))
theorem Jqt (a0:(List (List DEv))) (a4:Int) (q0:(List DEv)):L9_3 a0 a4 q0=(T9_3 a0 a4 q0).bind (Sum.elim (fun x=>L9_3 x.1.1 x.1.2.2.1 x.2.2.1) some):=Qg _ _
def k9_3:Con:=⟨{ sl := [(0,.v (.l (.l Qi))),(3,.o 0),(4,.v (.i .i64))],bf := [Qi] },(.exit 0 { sl := [(3,.o 0)],bf := [Qi] }),fun x=>L9_3 x.1.1 x.1.2.2.1 x.2.2.1⟩
theorem Jun:Con.LOK Try.prog Try.f9.ntmps (Jbv Try.f9 3) k9_3:=lpX [] [] [] (fun x=>T9_3 x.1.1 x.1.2.2.1 x.2.2.1) trivial trivial
def F9 (a0:(List (List DEv))):Option (((List DEv) × Unit) × Unit × Unit):=
 ((L9_3 a0 0 ([]:List DEv)).bind fun y0=>((F43 y0.2.2.1).bind fun y1=>(some (y1.1,(),()))))
def c9:Con:=⟨{ sl := [(0,.v (.l (.l Qi)))] },(.ret { sl := [(0,.v (.l Qi))] }),fun x=>F9 x.1.1⟩
theorem c9_ok:Con.OK Try.prog 9 c9:=fnL [(43,c43)] [(3,k9_3)] [3] ⟨c43_ok,trivial⟩ ⟨Jun,trivial⟩ Try.func9
def Jvu (a0:(List Int)):Option (((List Int) × Unit) × Unit × Unit):=bif (decide (a0.length<lim)) then some ((a0,()),(),()) else none
theorem Jvt (a0:(List Int)):Jvu a0=F56 a0:=by unfold F56 Jff both;cases a0 <;> simp [Jvu,lim] <;> rfl
def c56k:Con:=⟨c56.ins,c56.out,fun x=>Jvu x.1.1⟩
theorem JpR:Con.OK Try.prog 56 c56k:=c56_ok.congr fun x=>Jvt x.1.1
def F90h (a0:(List Int)):Option ((Unit × Unit) × (((List Int) × Unit) × Unit) × Unit):=
 (Jff (a0).length (some (((),()),((([]:List Int),()),()),())) (bif (decide ((([]:List Int)).length+(a0).length<lim)) then (some (((),()),(((([]:List Int)++a0),()),()),())) else none))
def c90h:Con:=⟨{ sl := [(0,.v (.l (.i .u64)))] },(.ret { sl := [(0,.m (.i .u64) 0)],bx := [[.r (.i .u64)]] }),fun x=>F90h x.1.1⟩
theorem JuM:Con.OK Try.prog 90 c90h:=fnX [(900005,Jf5),(900007,Jf5)] ⟨Q3,Q3,trivial⟩ Try.func90
def F90j (a0:(List Int)):Option ((Unit × Unit) × (((List Int) × Unit) × Unit) × Unit):=bif (decide (a0.length<lim)) then some (((),()),((a0,()),()),()) else none
theorem Jvn (a0:(List Int)):F90j a0=F90h a0:=by unfold F90h Jff both;cases a0 <;> simp [F90j,lim] <;> rfl
def c90j:Con:=⟨c90h.ins,c90h.out,fun x=>F90j x.1.1⟩
theorem JuL:Con.OK Try.prog 90 c90j:=JuM.congr fun x=>Jvn x.1.1
def Jqd (a1:Int) (a2:Int) (b0_0:(List Int)):Option (((Int × (Int × (Unit × Unit))) × (((List Int) × Unit) × Unit) × Unit) ⊕ ((Unit × Unit) × ((Unit × Unit) × (((List Int) × Unit) × Unit)) × Unit)):=
 (bif (decide (((((b0_0).length:Nat):Int):Int)≤a1)) then (bif (decide ((b0_0).length+([0]).length<lim)) then (some (.inl ((a1,a2,(),()),(((b0_0 ++ [0]),()),()),()))) else none) else (some (.inr (((),()),(((),()),(b0_0,()),()),()))))
def Jqx (a1:Int) (a2:Int) (b0_0:(List Int)):Option ((Unit × Unit) × ((Unit × Unit) × (((List Int) × Unit) × Unit)) × Unit):=Q4 (fun x:((Int × (Int × (Unit × Unit))) × (((List Int) × Unit) × Unit) × Unit)=>Jqd x.1.1 x.1.2.1 x.2.1.1.1) ((a1,a2,(),()),((b0_0,()),()),())
theorem Jmj (a1:Int) (a2:Int) (b0_0:(List Int)):Jqx a1 a2 b0_0=(Jqd a1 a2 b0_0).bind (Sum.elim (fun x=>Jqx x.1.1 x.1.2.1 x.2.1.1.1) some):=Qg _ _
def k54_4:Con:=⟨{ sl := [(1,.v (.i .i64)),(2,.v (.i .u64)),(7,.m (.i .u64) 0)],bx := [[.r (.i .u64)]] },(.exit 0 { sl := [(7,.m (.i .u64) 1)],bx := [[.g], [.r (.i .u64)]] }),fun x=>Jqx x.1.1 x.1.2.1 x.2.1.1.1⟩
theorem Jrz:Con.LOK Try.prog Try.f54.ntmps (Jbv Try.f54 4) k54_4:=lpX [] [] [] (fun x=>Jqd x.1.1 x.1.2.1 x.2.1.1.1) trivial trivial
def F54 (a0:(List Int)) (a1:Int) (a2:Int):Option (((List Int) × Unit) × Unit × Unit):=
 (bif (decide ((a1:Int)<0)) then ((F71 a0).bind fun y0=>(some (y0.1,(),()))) else (bif (decide ((a1:Int)≥64)) then ((F71 a0).bind fun y1=>(some (y1.1,(),()))) else ((F90j a0).bind fun y2=>((Jqx a1 a2 y2.2.1.1.1).bind fun y3=>(bif (decide (0≤(a1:Int)∧(a1:Int)<(((y3.2.1.2.1.1).length:Nat):Int))) then (bif (decide ((a1:Int).toNat<(y3.2.1.2.1.1).length)) then ((F71 ((y3.2.1.2.1.1).set (a1:Int).toNat a2)).bind fun y4=>(some (y4.1,(),()))) else none) else none)))))
def c54:Con:=⟨{ sl := [(0,.v (.l (.i .u64))),(1,.v (.i .i64)),(2,.v (.i .u64))] },(.ret { sl := [(0,.v (.l (.i .u64)))] }),fun x=>F54 x.1.1 x.1.2.1 x.1.2.2.1⟩
theorem c54_ok:Con.OK Try.prog 54 c54:=fnL [(71,c71),(90,c90j)] [(4,k54_4)] [4] ⟨c71_ok,JuL,trivial⟩ ⟨Jrz,trivial⟩ Try.func54
def QM (a0:(List Int)) (a7:Int) (b1_0:(List Int)):Int:=
 (IntKind.wrap .u64 (((b1_0).getD (0:Int).toNat (0:Int))+(IntKind.wrap .u64 (1+(((IntKind.wrap .u64 (IntKind.wrap .u16 ((((a0).getD (a7:Int).toNat (0:Int)):Int).tdiv 16))):Int).tmod 4)))))
def QL (a0:(List Int)) (a7:Int) (b1_0:(List Int)):Int:=
 (IntKind.wrap .u64 (((b1_0).getD (1:Int).toNat (0:Int))+(IntKind.wrap .u64 (1+(((IntKind.wrap .u64 (IntKind.wrap .u16 ((((a0).getD (a7:Int).toNat (0:Int)):Int).tdiv 16))):Int).tmod 4)))))
def QK (a0:(List Int)) (a7:Int) (b1_0:(List Int)):Int:=
 (IntKind.wrap .u64 (((b1_0).getD (2:Int).toNat (0:Int))+(IntKind.wrap .u64 (1+(((IntKind.wrap .u64 (IntKind.wrap .u16 ((((a0).getD (a7:Int).toNat (0:Int)):Int).tdiv 16))):Int).tmod 4)))))
def J7 (a0:(List Int)) (a7:Int):Int:=
 (IntKind.wrap .u8 (1+(((IntKind.wrap .u8 (IntKind.wrap .u16 ((((a0).getD (a7:Int).toNat (0:Int)):Int).tdiv 64))):Int).tmod 4)))
def QJ (a0:(List Int)) (a7:Int):ByteArray:=
 (Jke [(IntKind.wrap .u8 (97+(((IntKind.wrap .u8 (IntKind.wrap .u16 ((((a0).getD (a7:Int).toNat (0:Int)):Int).tdiv 256))):Int).tmod 4)))])
def JaI (a0:(List Int)) (a7:Int) (b1_0:(List Int)) (q0:(List DEv)):DEv:=
 (0,((IntKind.wrap .u64 ((IntKind.wrap .u64 (((q0).length:Nat):Int))+1)),(((((b1_0).set (0:Int).toNat (QM a0 a7 b1_0))).getD (0:Int).toNat (0:Int)),((J7 a0 a7),((QJ a0 a7),([(IntKind.wrap .u8 a7)],(((((FloatKind.f64).format.div ((FloatKind.nearest .f64 a7)) (4616189618054758400))).getD 0),(0,()))))))))
def JbW (a0:(List Int)) (a7:Int) (b1_0:(List Int)) (q0:(List DEv)):DEv:=
 (0,((IntKind.wrap .u64 ((IntKind.wrap .u64 (((q0).length:Nat):Int))+1)),(((((b1_0).set (0:Int).toNat (QM a0 a7 b1_0))).getD (0:Int).toNat (0:Int)),((J7 a0 a7),((QJ a0 a7),([(IntKind.wrap .u8 a7)],(0,(0,()))))))))
def JaH (a0:(List Int)) (a7:Int) (b1_0:(List Int)) (q0:(List DEv)):DEv:=
 (0,((IntKind.wrap .u64 ((IntKind.wrap .u64 (((q0).length:Nat):Int))+1)),(((((b1_0).set (0:Int).toNat (QM a0 a7 b1_0))).getD (0:Int).toNat (0:Int)),((J7 a0 a7),((QJ a0 a7),(([]:List Int),(((((FloatKind.f64).format.div ((FloatKind.nearest .f64 a7)) (4616189618054758400))).getD 0),(0,()))))))))
def JbV (a0:(List Int)) (a7:Int) (b1_0:(List Int)) (q0:(List DEv)):DEv:=
 (0,((IntKind.wrap .u64 ((IntKind.wrap .u64 (((q0).length:Nat):Int))+1)),(((((b1_0).set (0:Int).toNat (QM a0 a7 b1_0))).getD (0:Int).toNat (0:Int)),((J7 a0 a7),((QJ a0 a7),(([]:List Int),(0,(0,()))))))))
def JaG (a0:(List Int)) (a7:Int) (b1_0:(List Int)) (q1:(List DEv)):DEv:=
 (1,((IntKind.wrap .u64 ((IntKind.wrap .u64 (((q1).length:Nat):Int))+1)),(((((b1_0).set (1:Int).toNat (QL a0 a7 b1_0))).getD (1:Int).toNat (0:Int)),((J7 a0 a7),((QJ a0 a7),([(IntKind.wrap .u8 a7)],(((((FloatKind.f64).format.div ((FloatKind.nearest .f64 a7)) (4616189618054758400))).getD 0),(0,()))))))))
def Jbe (a0:(List Int)) (a7:Int) (b1_0:(List Int)) (q1:(List DEv)):DEv:=
 (1,((IntKind.wrap .u64 ((IntKind.wrap .u64 (((q1).length:Nat):Int))+1)),(((((b1_0).set (1:Int).toNat (QL a0 a7 b1_0))).getD (1:Int).toNat (0:Int)),((J7 a0 a7),((QJ a0 a7),([(IntKind.wrap .u8 a7)],(0,(0,()))))))))
def X2 (a0:(List Int)) (a7:Int) (b1_0:(List Int)) (q1:(List DEv)):DEv:=
 (1,((IntKind.wrap .u64 ((IntKind.wrap .u64 (((q1).length:Nat):Int))+1)),(((((b1_0).set (1:Int).toNat (QL a0 a7 b1_0))).getD (1:Int).toNat (0:Int)),((J7 a0 a7),((QJ a0 a7),(([]:List Int),(((((FloatKind.f64).format.div ((FloatKind.nearest .f64 a7)) (4616189618054758400))).getD 0),(0,()))))))))
def Jbd (a0:(List Int)) (a7:Int) (b1_0:(List Int)) (q1:(List DEv)):DEv:=
 (1,((IntKind.wrap .u64 ((IntKind.wrap .u64 (((q1).length:Nat):Int))+1)),(((((b1_0).set (1:Int).toNat (QL a0 a7 b1_0))).getD (1:Int).toNat (0:Int)),((J7 a0 a7),((QJ a0 a7),(([]:List Int),(0,(0,()))))))))
def X1 (a0:(List Int)) (a7:Int) (b1_0:(List Int)) (q2:(List DEv)):DEv:=
 (2,((IntKind.wrap .u64 ((IntKind.wrap .u64 (((q2).length:Nat):Int))+1)),(((((b1_0).set (2:Int).toNat (QK a0 a7 b1_0))).getD (2:Int).toNat (0:Int)),((J7 a0 a7),((QJ a0 a7),([(IntKind.wrap .u8 a7)],(((((FloatKind.f64).format.div ((FloatKind.nearest .f64 a7)) (4616189618054758400))).getD 0),(0,()))))))))
def Jbc (a0:(List Int)) (a7:Int) (b1_0:(List Int)) (q2:(List DEv)):DEv:=
 (2,((IntKind.wrap .u64 ((IntKind.wrap .u64 (((q2).length:Nat):Int))+1)),(((((b1_0).set (2:Int).toNat (QK a0 a7 b1_0))).getD (2:Int).toNat (0:Int)),((J7 a0 a7),((QJ a0 a7),([(IntKind.wrap .u8 a7)],(0,(0,()))))))))
def XZ (a0:(List Int)) (a7:Int) (b1_0:(List Int)) (q2:(List DEv)):DEv:=
 (2,((IntKind.wrap .u64 ((IntKind.wrap .u64 (((q2).length:Nat):Int))+1)),(((((b1_0).set (2:Int).toNat (QK a0 a7 b1_0))).getD (2:Int).toNat (0:Int)),((J7 a0 a7),((QJ a0 a7),(([]:List Int),(((((FloatKind.f64).format.div ((FloatKind.nearest .f64 a7)) (4616189618054758400))).getD 0),(0,()))))))))
def Jbb (a0:(List Int)) (a7:Int) (b1_0:(List Int)) (q2:(List DEv)):DEv:=
 (2,((IntKind.wrap .u64 ((IntKind.wrap .u64 (((q2).length:Nat):Int))+1)),(((((b1_0).set (2:Int).toNat (QK a0 a7 b1_0))).getD (2:Int).toNat (0:Int)),((J7 a0 a7),((QJ a0 a7),(([]:List Int),(0,(0,()))))))))
def JcK (a0:(List Int)) (a1:Int) (a7:Int) (b1_0:(List Int)) (q0:(List DEv)) (q1:(List DEv)) (q2:(List DEv)):Option ((((List Int) × (Int × (Unit × (Unit × (Int × Unit))))) × (ZUt × (((List Int) × Unit) × Unit)) × ((List DEv) × ((List DEv) × ((List DEv) × Unit)))) ⊕ (Unit × (ZUt × (((List Int) × Unit) × Unit)) × ((List DEv) × ((List DEv) × ((List DEv) × Unit))))):=
 (bif (decide ((a7:Int)<(((a0).length:Nat):Int))) then (bif (decide ((a7:Int)<60)) then (bif (decide (0≤(a7:Int)∧(a7:Int)<(((a0).length:Nat):Int))) then (bif (decide ((a1:Int)≠0)) then (bif (decide (((((IntKind.wrap .i64 ((a0).getD (a7:Int).toNat (0:Int))):Int).tmod a1):Int)=0)) then (bif (decide (0≤(0:Int)∧(0:Int)<(((b1_0).length:Nat):Int))) then (bif (decide ((0:Int).toNat<(b1_0).length)) then (bif (decide (0≤(a7:Int)∧(a7:Int)<(((a0).length:Nat):Int))) then (bif (decide (0≤(0:Int)∧(0:Int)<(((b1_0).length:Nat):Int))) then (bif (decide ((0:Int).toNat<(b1_0).length)) then (bif (decide (0≤(0:Int)∧(0:Int)<(((((b1_0).set (0:Int).toNat (QM a0 a7 b1_0))).length:Nat):Int))) then (bif (decide ((0:Int).toNat<(((b1_0).set (0:Int).toNat (QM a0 a7 b1_0))).length)) then (bif (decide (0≤(a7:Int)∧(a7:Int)<(((a0).length:Nat):Int))) then (bif (decide (0≤(a7:Int)∧(a7:Int)<(((a0).length:Nat):Int))) then (bif (((J7 a0 a7):Int) == 1) then (bif (((J7 a0 a7):Int) == 2) then (bif (((FloatKind.f64).format.div ((FloatKind.nearest .f64 a7)) (4616189618054758400))).isSome then (bif (decide ((q0).length+([(JaI a0 a7 b1_0 q0)]).length<lim)) then (some (.inl ((a0,a1,(),(),(IntKind.wrap .i64 (a7+1)),()),(((),(),(),()),(((b1_0).set (0:Int).toNat (QM a0 a7 b1_0)),()),()),((q0 ++ [(JaI a0 a7 b1_0 q0)]),q1,q2,())))) else none) else none) else (bif (((J7 a0 a7):Int) == 3) then (bif (((FloatKind.f64).format.div ((FloatKind.nearest .f64 a7)) (4616189618054758400))).isSome then (bif (decide ((q0).length+([(JaI a0 a7 b1_0 q0)]).length<lim)) then (some (.inl ((a0,a1,(),(),(IntKind.wrap .i64 (a7+1)),()),(((),(),(),()),(((b1_0).set (0:Int).toNat (QM a0 a7 b1_0)),()),()),((q0 ++ [(JaI a0 a7 b1_0 q0)]),q1,q2,())))) else none) else none) else (bif (decide ((q0).length+([(JbW a0 a7 b1_0 q0)]).length<lim)) then (some (.inl ((a0,a1,(),(),(IntKind.wrap .i64 (a7+1)),()),(((),(),(),()),(((b1_0).set (0:Int).toNat (QM a0 a7 b1_0)),()),()),((q0 ++ [(JbW a0 a7 b1_0 q0)]),q1,q2,())))) else none))) else (bif (((J7 a0 a7):Int) == 2) then (bif (((FloatKind.f64).format.div ((FloatKind.nearest .f64 a7)) (4616189618054758400))).isSome then (bif (decide ((q0).length+([(JaH a0 a7 b1_0 q0)]).length<lim)) then (some (.inl ((a0,a1,(),(),(IntKind.wrap .i64 (a7+1)),()),(((),(),(),()),(((b1_0).set (0:Int).toNat (QM a0 a7 b1_0)),()),()),((q0 ++ [(JaH a0 a7 b1_0 q0)]),q1,q2,())))) else none) else none) else (bif (((J7 a0 a7):Int) == 3) then (bif (((FloatKind.f64).format.div ((FloatKind.nearest .f64 a7)) (4616189618054758400))).isSome then (bif (decide ((q0).length+([(JaH a0 a7 b1_0 q0)]).length<lim)) then (some (.inl ((a0,a1,(),(),(IntKind.wrap .i64 (a7+1)),()),(((),(),(),()),(((b1_0).set (0:Int).toNat (QM a0 a7 b1_0)),()),()),((q0 ++ [(JaH a0 a7 b1_0 q0)]),q1,q2,())))) else none) else none) else (bif (decide ((q0).length+([(JbV a0 a7 b1_0 q0)]).length<lim)) then (some (.inl ((a0,a1,(),(),(IntKind.wrap .i64 (a7+1)),()),(((),(),(),()),(((b1_0).set (0:Int).toNat (QM a0 a7 b1_0)),()),()),((q0 ++ [(JbV a0 a7 b1_0 q0)]),q1,q2,())))) else none)))) else none) else none) else none) else none) else none) else none) else none) else none) else none) else (bif (decide (((((IntKind.wrap .i64 ((a0).getD (a7:Int).toNat (0:Int))):Int).tmod a1):Int)=1)) then (bif (decide (0≤(1:Int)∧(1:Int)<(((b1_0).length:Nat):Int))) then (bif (decide ((1:Int).toNat<(b1_0).length)) then (bif (decide (0≤(a7:Int)∧(a7:Int)<(((a0).length:Nat):Int))) then (bif (decide (0≤(1:Int)∧(1:Int)<(((b1_0).length:Nat):Int))) then (bif (decide ((1:Int).toNat<(b1_0).length)) then (bif (decide (0≤(1:Int)∧(1:Int)<(((((b1_0).set (1:Int).toNat (QL a0 a7 b1_0))).length:Nat):Int))) then (bif (decide ((1:Int).toNat<(((b1_0).set (1:Int).toNat (QL a0 a7 b1_0))).length)) then (bif (decide (0≤(a7:Int)∧(a7:Int)<(((a0).length:Nat):Int))) then (bif (decide (0≤(a7:Int)∧(a7:Int)<(((a0).length:Nat):Int))) then (bif (((J7 a0 a7):Int) == 1) then (bif (((J7 a0 a7):Int) == 2) then (bif (((FloatKind.f64).format.div ((FloatKind.nearest .f64 a7)) (4616189618054758400))).isSome then (bif (decide ((q1).length+([(JaG a0 a7 b1_0 q1)]).length<lim)) then (some (.inl ((a0,a1,(),(),(IntKind.wrap .i64 (a7+1)),()),(((),(),(),()),(((b1_0).set (1:Int).toNat (QL a0 a7 b1_0)),()),()),(q0,(q1 ++ [(JaG a0 a7 b1_0 q1)]),q2,())))) else none) else none) else (bif (((J7 a0 a7):Int) == 3) then (bif (((FloatKind.f64).format.div ((FloatKind.nearest .f64 a7)) (4616189618054758400))).isSome then (bif (decide ((q1).length+([(JaG a0 a7 b1_0 q1)]).length<lim)) then (some (.inl ((a0,a1,(),(),(IntKind.wrap .i64 (a7+1)),()),(((),(),(),()),(((b1_0).set (1:Int).toNat (QL a0 a7 b1_0)),()),()),(q0,(q1 ++ [(JaG a0 a7 b1_0 q1)]),q2,())))) else none) else none) else (bif (decide ((q1).length+([(Jbe a0 a7 b1_0 q1)]).length<lim)) then (some (.inl ((a0,a1,(),(),(IntKind.wrap .i64 (a7+1)),()),(((),(),(),()),(((b1_0).set (1:Int).toNat (QL a0 a7 b1_0)),()),()),(q0,(q1 ++ [(Jbe a0 a7 b1_0 q1)]),q2,())))) else none))) else (bif (((J7 a0 a7):Int) == 2) then (bif (((FloatKind.f64).format.div ((FloatKind.nearest .f64 a7)) (4616189618054758400))).isSome then (bif (decide ((q1).length+([(X2 a0 a7 b1_0 q1)]).length<lim)) then (some (.inl ((a0,a1,(),(),(IntKind.wrap .i64 (a7+1)),()),(((),(),(),()),(((b1_0).set (1:Int).toNat (QL a0 a7 b1_0)),()),()),(q0,(q1 ++ [(X2 a0 a7 b1_0 q1)]),q2,())))) else none) else none) else (bif (((J7 a0 a7):Int) == 3) then (bif (((FloatKind.f64).format.div ((FloatKind.nearest .f64 a7)) (4616189618054758400))).isSome then (bif (decide ((q1).length+([(X2 a0 a7 b1_0 q1)]).length<lim)) then (some (.inl ((a0,a1,(),(),(IntKind.wrap .i64 (a7+1)),()),(((),(),(),()),(((b1_0).set (1:Int).toNat (QL a0 a7 b1_0)),()),()),(q0,(q1 ++ [(X2 a0 a7 b1_0 q1)]),q2,())))) else none) else none) else (bif (decide ((q1).length+([(Jbd a0 a7 b1_0 q1)]).length<lim)) then (some (.inl ((a0,a1,(),(),(IntKind.wrap .i64 (a7+1)),()),(((),(),(),()),(((b1_0).set (1:Int).toNat (QL a0 a7 b1_0)),()),()),(q0,(q1 ++ [(Jbd a0 a7 b1_0 q1)]),q2,())))) else none)))) else none) else none) else none) else none) else none) else none) else none) else none) else none) else (bif (decide (((((IntKind.wrap .i64 ((a0).getD (a7:Int).toNat (0:Int))):Int).tmod a1):Int)=2)) then (bif (decide (0≤(2:Int)∧(2:Int)<(((b1_0).length:Nat):Int))) then (bif (decide ((2:Int).toNat<(b1_0).length)) then (bif (decide (0≤(a7:Int)∧(a7:Int)<(((a0).length:Nat):Int))) then (bif (decide (0≤(2:Int)∧(2:Int)<(((b1_0).length:Nat):Int))) then (bif (decide ((2:Int).toNat<(b1_0).length)) then (bif (decide (0≤(2:Int)∧(2:Int)<(((((b1_0).set (2:Int).toNat (QK a0 a7 b1_0))).length:Nat):Int))) then (bif (decide ((2:Int).toNat<(((b1_0).set (2:Int).toNat (QK a0 a7 b1_0))).length)) then (bif (decide (0≤(a7:Int)∧(a7:Int)<(((a0).length:Nat):Int))) then (bif (decide (0≤(a7:Int)∧(a7:Int)<(((a0).length:Nat):Int))) then (bif (((J7 a0 a7):Int) == 1) then (bif (((J7 a0 a7):Int) == 2) then (bif (((FloatKind.f64).format.div ((FloatKind.nearest .f64 a7)) (4616189618054758400))).isSome then (bif (decide ((q2).length+([(X1 a0 a7 b1_0 q2)]).length<lim)) then (some (.inl ((a0,a1,(),(),(IntKind.wrap .i64 (a7+1)),()),(((),(),(),()),(((b1_0).set (2:Int).toNat (QK a0 a7 b1_0)),()),()),(q0,q1,(q2 ++ [(X1 a0 a7 b1_0 q2)]),())))) else none) else none) else (bif (((J7 a0 a7):Int) == 3) then (bif (((FloatKind.f64).format.div ((FloatKind.nearest .f64 a7)) (4616189618054758400))).isSome then (bif (decide ((q2).length+([(X1 a0 a7 b1_0 q2)]).length<lim)) then (some (.inl ((a0,a1,(),(),(IntKind.wrap .i64 (a7+1)),()),(((),(),(),()),(((b1_0).set (2:Int).toNat (QK a0 a7 b1_0)),()),()),(q0,q1,(q2 ++ [(X1 a0 a7 b1_0 q2)]),())))) else none) else none) else (bif (decide ((q2).length+([(Jbc a0 a7 b1_0 q2)]).length<lim)) then (some (.inl ((a0,a1,(),(),(IntKind.wrap .i64 (a7+1)),()),(((),(),(),()),(((b1_0).set (2:Int).toNat (QK a0 a7 b1_0)),()),()),(q0,q1,(q2 ++ [(Jbc a0 a7 b1_0 q2)]),())))) else none))) else (bif (((J7 a0 a7):Int) == 2) then (bif (((FloatKind.f64).format.div ((FloatKind.nearest .f64 a7)) (4616189618054758400))).isSome then (bif (decide ((q2).length+([(XZ a0 a7 b1_0 q2)]).length<lim)) then (some (.inl ((a0,a1,(),(),(IntKind.wrap .i64 (a7+1)),()),(((),(),(),()),(((b1_0).set (2:Int).toNat (QK a0 a7 b1_0)),()),()),(q0,q1,(q2 ++ [(XZ a0 a7 b1_0 q2)]),())))) else none) else none) else (bif (((J7 a0 a7):Int) == 3) then (bif (((FloatKind.f64).format.div ((FloatKind.nearest .f64 a7)) (4616189618054758400))).isSome then (bif (decide ((q2).length+([(XZ a0 a7 b1_0 q2)]).length<lim)) then (some (.inl ((a0,a1,(),(),(IntKind.wrap .i64 (a7+1)),()),(((),(),(),()),(((b1_0).set (2:Int).toNat (QK a0 a7 b1_0)),()),()),(q0,q1,(q2 ++ [(XZ a0 a7 b1_0 q2)]),())))) else none) else none) else (bif (decide ((q2).length+([(Jbb a0 a7 b1_0 q2)]).length<lim)) then (some (.inl ((a0,a1,(),(),(IntKind.wrap .i64 (a7+1)),()),(((),(),(),()),(((b1_0).set (2:Int).toNat (QK a0 a7 b1_0)),()),()),(q0,q1,(q2 ++ [(Jbb a0 a7 b1_0 q2)]),())))) else none)))) else none) else none) else none) else none) else none) else none) else none) else none) else none) else none))) else none) else none) else (some (.inr ((),(((),(),(),()),(b1_0,()),()),(q0,q1,q2,()))))) else (some (.inr ((),(((),(),(),()),(b1_0,()),()),(q0,q1,q2,())))))
def JgO (a0:(List Int)) (a1:Int) (a7:Int) (b1_0:(List Int)) (q0:(List DEv)) (q1:(List DEv)) (q2:(List DEv)):Option (Unit × (ZUt × (((List Int) × Unit) × Unit)) × ((List DEv) × ((List DEv) × ((List DEv) × Unit)))):=Q4 (fun x:(((List Int) × (Int × (Unit × (Unit × (Int × Unit))))) × (ZUt × (((List Int) × Unit) × Unit)) × ((List DEv) × ((List DEv) × ((List DEv) × Unit))))=>JcK x.1.1 x.1.2.1 x.1.2.2.2.2.1 x.2.1.2.1.1 x.2.2.1 x.2.2.2.1 x.2.2.2.2.1) ((a0,a1,(),(),a7,()),(((),(),(),()),(b1_0,()),()),(q0,q1,q2,()))
theorem JjF (a0:(List Int)) (a1:Int) (a7:Int) (b1_0:(List Int)) (q0:(List DEv)) (q1:(List DEv)) (q2:(List DEv)):JgO a0 a1 a7 b1_0 q0 q1 q2=(JcK a0 a1 a7 b1_0 q0 q1 q2).bind (Sum.elim (fun x=>JgO x.1.1 x.1.2.1 x.1.2.2.2.2.1 x.2.1.2.1.1 x.2.2.1 x.2.2.2.1 x.2.2.2.2.1) some):=Qg _ _
def Jtc:Con:=⟨{ sl := [(0,.v (.l (.i .u16))),(1,.v (.i .i64)),(5,.sb (.l Qi) 3 0),(6,.m (.i .u64) 1),(7,.v (.i .i64))],bx := [[.o 0,.o 1,.o 2], [.r (.i .u64)]],bf := [Qi,Qi,Qi] },(.exit 0 { sl := [],bx := [[.o 0,.o 1,.o 2], [.r (.i .u64)]],bf := [Qi,Qi,Qi] }),fun x=>JgO x.1.1 x.1.2.1 x.1.2.2.2.2.1 x.2.1.2.1.1 x.2.2.1 x.2.2.2.1 x.2.2.2.2.1⟩
theorem Jpl:Con.LOK Try.prog Try.f10.ntmps (Jbv Try.f10 4) Jtc:=lpX [(900013,Jf5),(600011,Jf5),(1000300030,Jf5)] [] [] (fun x=>JcK x.1.1 x.1.2.1 x.1.2.2.2.2.1 x.2.1.2.1.1 x.2.2.1 x.2.2.2.1 x.2.2.2.2.1) ⟨Q3,Q3,Q3,trivial⟩ trivial
def F10f (a0:(List Int)):Option ((Unit × Unit) × (ZUt × Unit) × ((List DEv) × ((List DEv) × ((List DEv) × Unit)))):=
 (bif ((decide (0≤(3:Int)∧(3:Int)=3∧(3:Int)<(lim:Int))) && (decide (0<(3:Int)))) then ((JgO a0 3 0 (List.replicate (3:Int).toNat (0:Int)) ([]:List DEv) ([]:List DEv) ([]:List DEv)).bind fun y0=>(some (((),()),(((),(),(),()),()),y0.2.2))) else none)
def c10f:Con:=⟨{ sl := [(0,.v (.l (.i .u16))),(1,.ki .i64 3)] },(.ret { sl := [(0,.sb (.l Qi) 3 0)],bx := [[.o 0,.o 1,.o 2]],bf := [Qi,Qi,Qi] }),fun x=>F10f x.1.1⟩
theorem JuY:Con.OK Try.prog 10 c10f:=fnL [(900013,Jf5),(600011,Jf5),(1000300030,Jf5)] [(4,Jtc)] [4] ⟨Q3,Q3,Q3,trivial⟩ ⟨Jpl,trivial⟩ Try.func10
def F10t (a0:(List Int)):Option (((List (List DEv)) × Unit) × Unit × Unit):=(F10f a0).map fun y=>(([y.2.2.1,y.2.2.2.1,y.2.2.2.2.1],()),(),())
def c10t:Con:=⟨c10f.ins,(.ret { sl := [(0,.v (.l (.l Qi)))] }),fun x=>F10t x.1.1⟩
theorem JuX:Con.OK Try.prog 10 c10t:=thaw (e:=Qi) (n:=3) rfl rfl (by decide) JuY
def F158 (a0:Int) (b0_0:(List (List DEv))):Option ((Int × Unit) × (((List (List DEv)) × Unit) × Unit) × Unit):=
 (some (((((Int.toNat a0):Nat):Int),()),((b0_0,()),()),()))
def c158:Con:=⟨{ sl := [(0,.w (.l Qi) 0)],bx := [[.r (.l Qi)]] },(.ret { sl := [(0,.v (.i .i64))],bx := [[.r (.l Qi)]] }),fun x=>F158 x.1.1 x.2.1.1.1⟩
theorem Jld:Con.OK Try.prog 158 c158:=fnX [] trivial Try.func158
def JtG (a0:Int) (a1:Int) (a2:Int) (b0_0:(List (List DEv))):Option ((Bool × Unit) × (((List (List DEv)) × Unit) × Unit) × Unit):=
 (bif (decide (0≤(a1:Int)∧(a1:Int)<((((Int.toNat a0):Nat)):Int))) then (bif (decide (((((0:Nat):Int)+a1):Int).toNat<(b0_0).length)) then (bif (decide (0≤(0:Int)∧(0:Int)<(((((b0_0).getD ((((0:Nat):Int)+a1):Int).toNat [])).length:Nat):Int))) then ((F52 ((((b0_0).getD ((((0:Nat):Int)+a1):Int).toNat [])).getD (0:Int).toNat zE)).bind fun y0=>(bif (decide (0≤(a2:Int)∧(a2:Int)<((((Int.toNat a0):Nat)):Int))) then (bif (decide (((((0:Nat):Int)+a2):Int).toNat<(b0_0).length)) then (bif (decide (0≤(0:Int)∧(0:Int)<(((((b0_0).getD ((((0:Nat):Int)+a2):Int).toNat [])).length:Nat):Int))) then ((F52 ((((b0_0).getD ((((0:Nat):Int)+a2):Int).toNat [])).getD (0:Int).toNat zE)).bind fun y1=>((F46 y0.1.1 y1.1.1).bind fun y2=>(some (((decide ((y2.1.1:Int)<0)),()),((b0_0,()),()),())))) else none) else none) else none)) else none) else none) else none)
def c159:Con:=⟨{ sl := [(0,.w (.l Qi) 0),(1,.v (.i .i64)),(2,.v (.i .i64))],bx := [[.r (.l Qi)]] },(.ret { sl := [(0,.v .b)],bx := [[.r (.l Qi)]] }),fun x=>JtG x.1.1 x.1.2.1 x.1.2.2.1 x.2.1.1.1⟩
theorem Jh1:Con.OK Try.prog 159 c159:=fnX [(46,c46),(52,c52)] ⟨Jgz,Jgy,trivial⟩ Try.func159
def JsG (a0:Int) (a1:Int) (a2:Int) (b0_0:(List (List DEv))):Option (Unit × (((List (List DEv)) × Unit) × Unit) × Unit):=
 (bif (decide (0≤(a2:Int)∧(a2:Int)<((((Int.toNat a0):Nat)):Int))) then (bif (decide (((((0:Nat):Int)+a2):Int).toNat<(b0_0).length)) then (bif (decide (0≤(a1:Int)∧(a1:Int)<((((Int.toNat a0):Nat)):Int))) then (bif (decide (((((0:Nat):Int)+a1):Int).toNat<(b0_0).length)) then (bif (decide (0≤(a1:Int)∧(a1:Int)<((((Int.toNat a0):Nat)):Int))) then (bif (decide (((((0:Nat):Int)+a1):Int).toNat<(b0_0).length)) then (bif (decide (0≤(a2:Int)∧(a2:Int)<((((Int.toNat a0):Nat)):Int))) then (bif (decide (((((0:Nat):Int)+a2):Int).toNat<(((b0_0).set ((((0:Nat):Int)+a1):Int).toNat ((b0_0).getD ((((0:Nat):Int)+a2):Int).toNat []))).length)) then (some ((),((((((b0_0).set ((((0:Nat):Int)+a1):Int).toNat ((b0_0).getD ((((0:Nat):Int)+a2):Int).toNat []))).set ((((0:Nat):Int)+a2):Int).toNat ((b0_0).getD ((((0:Nat):Int)+a1):Int).toNat [])),()),()),())) else none) else none) else none) else none) else none) else none) else none) else none)
def c160:Con:=⟨{ sl := [(0,.w (.l Qi) 0),(1,.v (.i .i64)),(2,.v (.i .i64))],bx := [[.r (.l Qi)]] },(.ret { sl := [],bx := [[.r (.l Qi)]] }),fun x=>JsG x.1.1 x.1.2.1 x.1.2.2.1 x.2.1.1.1⟩
theorem JfL:Con.OK Try.prog 160 c160:=fnX [] trivial Try.func160
def F161 (b0_0:Int) (b1_0:(List (List DEv))):Option ((Unit × Unit) × ZHt × Unit):=
 (bif (decide (0≤((IntKind.wrap .i64 ((((Int.toNat b0_0):Nat):Int) - 1)):Int)∧((IntKind.wrap .i64 ((((Int.toNat b0_0):Nat):Int) - 1)):Int)<((((Int.toNat b0_0):Nat)):Int))) then (bif (decide (((((0:Nat):Int)+(IntKind.wrap .i64 ((((Int.toNat b0_0):Nat):Int) - 1))):Int).toNat<(b1_0).length)) then (bif (decide (0≤((IntKind.wrap .i64 ((((Int.toNat b0_0):Nat):Int) - 1)):Int)∧((IntKind.wrap .i64 ((((Int.toNat b0_0):Nat):Int) - 1)):Int)≤(((Int.toNat b0_0):Nat):Int))) then (some (((),()),(((((((IntKind.wrap .i64 ((((Int.toNat b0_0):Nat):Int) - 1)):Int).toNat - 0):Nat):Int),()),(b1_0,()),()),())) else none) else none) else none)
def c161:Con:=⟨{ sl := [(0,.p 0 0)],bx := [[.w (.l Qi) 1], [.r (.l Qi)]] },(.ret { sl := [(0,.x)],bx := [[.w (.l Qi) 1], [.r (.l Qi)]] }),fun x=>F161 x.2.1.1.1 x.2.1.2.1.1⟩
theorem JuN:Con.OK Try.prog 161 c161:=fnX [] trivial Try.func161
def Jjp (a1:Int) (a2:Int) (a7:Int) (b0_0:Int) (b1_0:(List (List DEv))):Option (((Unit × (Int × (Int × (Int × Unit)))) × ZHt × Unit) ⊕ ((Int × Unit) × ZHt × Unit)):=
 (bif (decide (((IntKind.wrap .i64 ((IntKind.wrap .i64 (2*a7))+1)):Int)≥a2)) then (some (.inr ((a7,()),(((((Int.toNat b0_0):Nat):Int),()),(b1_0,()),()),()))) else (bif (decide (((IntKind.wrap .i64 ((IntKind.wrap .i64 (2*a7))+1)):Int)<0)) then (some (.inr ((a7,()),(((((Int.toNat b0_0):Nat):Int),()),(b1_0,()),()),()))) else (bif (decide (((IntKind.wrap .i64 ((IntKind.wrap .i64 ((IntKind.wrap .i64 (2*a7))+1))+1)):Int)<a2)) then ((JtG (((Int.toNat b0_0):Nat):Int) (IntKind.wrap .i64 ((IntKind.wrap .i64 ((IntKind.wrap .i64 (2*a7))+1))+1)) (IntKind.wrap .i64 ((IntKind.wrap .i64 (2*a7))+1)) b1_0).bind fun y0=>(bif y0.1.1 then ((JtG (((Int.toNat b0_0):Nat):Int) (IntKind.wrap .i64 ((IntKind.wrap .i64 ((IntKind.wrap .i64 (2*a7))+1))+1)) a7 y0.2.1.1.1).bind fun y1=>(bif (!y1.1.1) then (some (.inr ((a7,()),(((((Int.toNat b0_0):Nat):Int),()),y1.2.1.1,()),()))) else ((JsG (((Int.toNat b0_0):Nat):Int) a7 (IntKind.wrap .i64 ((IntKind.wrap .i64 ((IntKind.wrap .i64 (2*a7))+1))+1)) y1.2.1.1.1).bind fun y2=>(some (.inl (((),a1,a2,(IntKind.wrap .i64 ((IntKind.wrap .i64 ((IntKind.wrap .i64 (2*a7))+1))+1)),()),(((((Int.toNat b0_0):Nat):Int),()),y2.2.1.1,()),())))))) else ((JtG (((Int.toNat b0_0):Nat):Int) (IntKind.wrap .i64 ((IntKind.wrap .i64 (2*a7))+1)) a7 y0.2.1.1.1).bind fun y3=>(bif (!y3.1.1) then (some (.inr ((a7,()),(((((Int.toNat b0_0):Nat):Int),()),y3.2.1.1,()),()))) else ((JsG (((Int.toNat b0_0):Nat):Int) a7 (IntKind.wrap .i64 ((IntKind.wrap .i64 (2*a7))+1)) y3.2.1.1.1).bind fun y4=>(some (.inl (((),a1,a2,(IntKind.wrap .i64 ((IntKind.wrap .i64 (2*a7))+1)),()),(((((Int.toNat b0_0):Nat):Int),()),y4.2.1.1,()),())))))))) else ((JtG (((Int.toNat b0_0):Nat):Int) (IntKind.wrap .i64 ((IntKind.wrap .i64 (2*a7))+1)) a7 b1_0).bind fun y5=>(bif (!y5.1.1) then (some (.inr ((a7,()),(((((Int.toNat b0_0):Nat):Int),()),y5.2.1.1,()),()))) else ((JsG (((Int.toNat b0_0):Nat):Int) a7 (IntKind.wrap .i64 ((IntKind.wrap .i64 (2*a7))+1)) y5.2.1.1.1).bind fun y6=>(some (.inl (((),a1,a2,(IntKind.wrap .i64 ((IntKind.wrap .i64 (2*a7))+1)),()),(((((Int.toNat b0_0):Nat):Int),()),y6.2.1.1,()),())))))))))
def JgL (a1:Int) (a2:Int) (a7:Int) (b0_0:Int) (b1_0:(List (List DEv))):Option ((Int × Unit) × ZHt × Unit):=Q4 (fun x:((Unit × (Int × (Int × (Int × Unit)))) × ZHt × Unit)=>Jjp x.1.2.1 x.1.2.2.1 x.1.2.2.2.1 x.2.1.1.1 x.2.1.2.1.1) (((),a1,a2,a7,()),((b0_0,()),(b1_0,()),()),())
theorem Jjy (a1:Int) (a2:Int) (a7:Int) (b0_0:Int) (b1_0:(List (List DEv))):JgL a1 a2 a7 b0_0 b1_0=(Jjp a1 a2 a7 b0_0 b1_0).bind (Sum.elim (fun x=>JgL x.1.2.1 x.1.2.2.1 x.1.2.2.2.1 x.2.1.1.1 x.2.1.2.1.1) some):=Qg _ _
def Js7:Con:=⟨{ sl := [(0,.ip 187 0 0),(1,.v (.i .i64)),(2,.v (.i .i64)),(7,.v (.i .i64))],bx := [[.w (.l Qi) 1], [.r (.l Qi)]] },(.exit 0 { sl := [(7,.v (.i .i64))],bx := [[.w (.l Qi) 1], [.r (.l Qi)]] }),fun x=>JgL x.1.2.1 x.1.2.2.1 x.1.2.2.2.1 x.2.1.1.1 x.2.1.2.1.1⟩
theorem Jpg:Con.LOK Try.prog Try.f140.ntmps (Jbv Try.f140 2) Js7:=lpX [(159,c159),(160,c160)] [] [] (fun x=>Jjp x.1.2.1 x.1.2.2.1 x.1.2.2.2.1 x.2.1.1.1 x.2.1.2.1.1) ⟨Jh1,JfL,trivial⟩ trivial
def JtH (a1:Int) (a2:Int) (b0_0:Int) (b1_0:(List (List DEv))):Option ((Bool × Unit) × ZHt × Unit):=
 ((JgL a1 a2 a1 (((Int.toNat b0_0):Nat):Int) b1_0).bind fun y0=>(some (((decide ((y0.1.1:Int) > a1)),()),(((((Int.toNat y0.2.1.1.1):Nat):Int),()),y0.2.1.2.1,()),())))
def c140:Con:=⟨{ sl := [(0,.ip 187 0 0),(1,.v (.i .i64)),(2,.v (.i .i64))],bx := [[.w (.l Qi) 1], [.r (.l Qi)]] },(.ret { sl := [(0,.v .b)],bx := [[.w (.l Qi) 1], [.r (.l Qi)]] }),fun x=>JtH x.1.2.1 x.1.2.2.1 x.2.1.1.1 x.2.1.2.1.1⟩
theorem Jh2:Con.OK Try.prog 140 c140:=fnL [(159,c159),(160,c160)] [(2,Js7)] [2] ⟨Jh1,JfL,trivial⟩ ⟨Jpg,trivial⟩ Try.func140
def Jmd (a1:Int) (b0_0:Int) (b1_0:(List (List DEv))):Option (((Unit × (Int × Unit)) × ZHt × Unit) ⊕ (Unit × ZHt × Unit)):=
 (bif (((IntKind.wrap .i64 (((IntKind.wrap .i64 (a1 - 1)):Int).tdiv 2)):Int) == a1) then (some (.inr ((),(((((Int.toNat b0_0):Nat):Int),()),(b1_0,()),()),()))) else ((JtG (((Int.toNat b0_0):Nat):Int) a1 (IntKind.wrap .i64 (((IntKind.wrap .i64 (a1 - 1)):Int).tdiv 2)) b1_0).bind fun y0=>(bif (!y0.1.1) then (some (.inr ((),(((((Int.toNat b0_0):Nat):Int),()),y0.2.1.1,()),()))) else ((JsG (((Int.toNat b0_0):Nat):Int) (IntKind.wrap .i64 (((IntKind.wrap .i64 (a1 - 1)):Int).tdiv 2)) a1 y0.2.1.1.1).bind fun y1=>(some (.inl (((),(IntKind.wrap .i64 (((IntKind.wrap .i64 (a1 - 1)):Int).tdiv 2)),()),(((((Int.toNat b0_0):Nat):Int),()),y1.2.1.1,()),())))))))
def Jmu (a1:Int) (b0_0:Int) (b1_0:(List (List DEv))):Option (Unit × ZHt × Unit):=Q4 (fun x:((Unit × (Int × Unit)) × ZHt × Unit)=>Jmd x.1.2.1 x.2.1.1.1 x.2.1.2.1.1) (((),a1,()),((b0_0,()),(b1_0,()),()),())
theorem JqB (a1:Int) (b0_0:Int) (b1_0:(List (List DEv))):Jmu a1 b0_0 b1_0=(Jmd a1 b0_0 b1_0).bind (Sum.elim (fun x=>Jmu x.1.2.1 x.2.1.1.1 x.2.1.2.1.1) some):=Qg _ _
def Js6:Con:=⟨{ sl := [(0,.ip 187 0 0),(1,.v (.i .i64))],bx := [[.w (.l Qi) 1], [.r (.l Qi)]] },(.exit 0 { sl := [],bx := [[.w (.l Qi) 1], [.r (.l Qi)]] }),fun x=>Jmu x.1.2.1 x.2.1.1.1 x.2.1.2.1.1⟩
theorem Jpf:Con.LOK Try.prog Try.f141.ntmps (Jbv Try.f141 0) Js6:=lpX [(159,c159),(160,c160)] [] [] (fun x=>Jmd x.1.2.1 x.2.1.1.1 x.2.1.2.1.1) ⟨Jh1,JfL,trivial⟩ trivial
def F141 (a1:Int) (b0_0:Int) (b1_0:(List (List DEv))):Option (Unit × ZHt × Unit):=
 ((Jmu a1 (((Int.toNat b0_0):Nat):Int) b1_0).bind fun y0=>(some ((),(((((Int.toNat y0.2.1.1.1):Nat):Int),()),y0.2.1.2.1,()),())))
def c141:Con:=⟨{ sl := [(0,.ip 187 0 0),(1,.v (.i .i64))],bx := [[.w (.l Qi) 1], [.r (.l Qi)]] },(.ret { sl := [],bx := [[.w (.l Qi) 1], [.r (.l Qi)]] }),fun x=>F141 x.1.2.1 x.2.1.1.1 x.2.1.2.1.1⟩
theorem JuO:Con.OK Try.prog 141 c141:=fnL [(159,c159),(160,c160)] [(0,Js6)] [0] ⟨Jh1,JfL,trivial⟩ ⟨Jpf,trivial⟩ Try.func141
def Jjq (a2:Int) (a3:Int) (b0_0:Int) (b1_0:(List (List DEv))):Option (((Unit × (Int × (Int × Unit))) × ZHt × Unit) ⊕ (Unit × ZHt × Unit)):=
 (bif (decide ((a3:Int)≥0)) then ((JtH a3 a2 (((Int.toNat b0_0):Nat):Int) b1_0).bind fun y0=>(some (.inl (((),a2,(IntKind.wrap .i64 (a3 - 1)),()),(((((Int.toNat y0.2.1.1.1):Nat):Int),()),y0.2.1.2.1,()),())))) else (some (.inr ((),(((((Int.toNat b0_0):Nat):Int),()),(b1_0,()),()),()))))
def JjA (a2:Int) (a3:Int) (b0_0:Int) (b1_0:(List (List DEv))):Option (Unit × ZHt × Unit):=Q4 (fun x:((Unit × (Int × (Int × Unit))) × ZHt × Unit)=>Jjq x.1.2.1 x.1.2.2.1 x.2.1.1.1 x.2.1.2.1.1) (((),a2,a3,()),((b0_0,()),(b1_0,()),()),())
theorem Jjz (a2:Int) (a3:Int) (b0_0:Int) (b1_0:(List (List DEv))):JjA a2 a3 b0_0 b1_0=(Jjq a2 a3 b0_0 b1_0).bind (Sum.elim (fun x=>JjA x.1.2.1 x.1.2.2.1 x.2.1.1.1 x.2.1.2.1.1) some):=Qg _ _
def Js8:Con:=⟨{ sl := [(0,.ip 187 0 0),(2,.v (.i .i64)),(3,.v (.i .i64))],bx := [[.w (.l Qi) 1], [.r (.l Qi)]] },(.exit 0 { sl := [],bx := [[.w (.l Qi) 1], [.r (.l Qi)]] }),fun x=>JjA x.1.2.1 x.1.2.2.1 x.2.1.1.1 x.2.1.2.1.1⟩
theorem Jph:Con.LOK Try.prog Try.f136.ntmps (Jbv Try.f136 2) Js8:=lpX [(140,c140)] [] [] (fun x=>Jjq x.1.2.1 x.1.2.2.1 x.2.1.1.1 x.2.1.2.1.1) ⟨Jh2,trivial⟩ trivial
def F136 (b0_0:Int) (b1_0:(List (List DEv))):Option (Unit × ZHt × Unit):=
 ((F158 (((Int.toNat b0_0):Nat):Int) b1_0).bind fun y0=>((JjA y0.1.1 (IntKind.wrap .i64 ((IntKind.wrap .i64 ((y0.1.1:Int).tdiv 2)) - 1)) (((Int.toNat b0_0):Nat):Int) y0.2.1.1.1).bind fun y1=>(some ((),(((((Int.toNat y1.2.1.1.1):Nat):Int),()),y1.2.1.2.1,()),()))))
def c136:Con:=⟨{ sl := [(0,.ip 187 0 0)],bx := [[.w (.l Qi) 1], [.r (.l Qi)]] },(.ret { sl := [],bx := [[.w (.l Qi) 1], [.r (.l Qi)]] }),fun x=>F136 x.2.1.1.1 x.2.1.2.1.1⟩
theorem JuR:Con.OK Try.prog 136 c136:=fnL [(140,c140),(158,c158)] [(2,Js8)] [2] ⟨Jh2,Jld,trivial⟩ ⟨Jph,trivial⟩ Try.func136
def F137 (a1:Int) (b0_0:Int) (b1_0:(List (List DEv))):Option (Unit × ZHt × Unit):=
 ((F158 (((Int.toNat b0_0):Nat):Int) b1_0).bind fun y0=>((JtH a1 y0.1.1 (((Int.toNat b0_0):Nat):Int) y0.2.1.1.1).bind fun y1=>(bif (!y1.1.1) then ((F141 a1 (((Int.toNat y1.2.1.1.1):Nat):Int) y1.2.1.2.1.1).bind fun y2=>(some ((),(((((Int.toNat y2.2.1.1.1):Nat):Int),()),y2.2.1.2.1,()),()))) else (some ((),(((((Int.toNat y1.2.1.1.1):Nat):Int),()),y1.2.1.2.1,()),())))))
def c137:Con:=⟨{ sl := [(0,.ip 187 0 0),(1,.v (.i .i64))],bx := [[.w (.l Qi) 1], [.r (.l Qi)]] },(.ret { sl := [],bx := [[.w (.l Qi) 1], [.r (.l Qi)]] }),fun x=>F137 x.1.2.1 x.2.1.1.1 x.2.1.2.1.1⟩
theorem JuQ:Con.OK Try.prog 137 c137:=fnX [(140,c140),(141,c141),(158,c158)] ⟨Jh2,JuO,Jld,trivial⟩ Try.func137
def F138 (b0_0:Int) (b1_0:(List (List DEv))):Option ((Unit × Unit) × ZHt × Unit):=
 ((F158 (((Int.toNat b0_0):Nat):Int) b1_0).bind fun y0=>((JsG (((Int.toNat b0_0):Nat):Int) 0 (IntKind.wrap .i64 (y0.1.1 - 1)) y0.2.1.1.1).bind fun y1=>((JtH 0 (IntKind.wrap .i64 (y0.1.1 - 1)) (((Int.toNat b0_0):Nat):Int) y1.2.1.1.1).bind fun y2=>((F161 (((Int.toNat y2.2.1.1.1):Nat):Int) y2.2.1.2.1.1).bind fun y3=>(some (((),()),(((((Int.toNat y3.2.1.1.1):Nat):Int),()),y3.2.1.2.1,()),()))))))
def c138:Con:=⟨{ sl := [(0,.ip 187 0 0)],bx := [[.w (.l Qi) 1], [.r (.l Qi)]] },(.ret { sl := [(0,.x)],bx := [[.w (.l Qi) 1], [.r (.l Qi)]] }),fun x=>F138 x.2.1.1.1 x.2.1.2.1.1⟩
theorem JuP:Con.OK Try.prog 138 c138:=fnX [(140,c140),(158,c158),(160,c160),(161,c161)] ⟨Jh2,Jld,JfL,JuN,trivial⟩ Try.func138
def Jjs (a8:(List (List DEv))) (a9:Int) (a10:Int) (b1_0:(List (List DEv))):Option (((Unit × ((List (List DEv)) × (Int × (Int × Unit)))) × ((Unit × Unit) × (((List (List DEv)) × Unit) × Unit)) × Unit) ⊕ (Unit × ((Unit × Unit) × ((Unit × Unit) × (((List (List DEv)) × Unit) × Unit))) × Unit)):=
 (bif (decide ((a10:Int)<a9)) then (bif (decide (0≤(a10:Int)∧(a10:Int)<(((a8).length:Nat):Int))) then (bif (decide (((((((a8).getD (a10:Int).toNat [])).length:Nat):Int):Int) > 0)) then (bif (decide ((b1_0).length+([((a8).getD (a10:Int).toNat [])]).length<lim)) then (some (.inl (((),a8,a9,(IntKind.wrap .i64 (a10+1)),()),(((),()),((b1_0 ++ [((a8).getD (a10:Int).toNat [])]),()),()),()))) else none) else (some (.inl (((),a8,a9,(IntKind.wrap .i64 (a10+1)),()),(((),()),(b1_0,()),()),())))) else none) else (some (.inr ((),(((),()),((),()),(b1_0,()),()),()))))
def JgN (a8:(List (List DEv))) (a9:Int) (a10:Int) (b1_0:(List (List DEv))):Option (Unit × ((Unit × Unit) × ((Unit × Unit) × (((List (List DEv)) × Unit) × Unit))) × Unit):=Q4 (fun x:((Unit × ((List (List DEv)) × (Int × (Int × Unit)))) × ((Unit × Unit) × (((List (List DEv)) × Unit) × Unit)) × Unit)=>Jjs x.1.2.1 x.1.2.2.1 x.1.2.2.2.1 x.2.1.2.1.1) (((),a8,a9,a10,()),(((),()),(b1_0,()),()),())
theorem JjC (a8:(List (List DEv))) (a9:Int) (a10:Int) (b1_0:(List (List DEv))):JgN a8 a9 a10 b1_0=(Jjs a8 a9 a10 b1_0).bind (Sum.elim (fun x=>JgN x.1.2.1 x.1.2.2.1 x.1.2.2.2.1 x.2.1.2.1.1) some):=Qg _ _
def Jta:Con:=⟨{ sl := [(3,.p 0 0),(8,.v (.l (.l Qi))),(9,.v (.i .i64)),(10,.v (.i .i64))],bx := [[.m (.l Qi) 1], [.r (.l Qi)]] },(.exit 0 { sl := [],bx := [[.m (.l Qi) 2], [.g], [.r (.l Qi)]] }),fun x=>JgN x.1.2.1 x.1.2.2.1 x.1.2.2.2.1 x.2.1.2.1.1⟩
theorem Jpj:Con.LOK Try.prog Try.f126.ntmps (Jbv Try.f126 3) Jta:=lpX [] [] [] (fun x=>Jjs x.1.2.1 x.1.2.2.1 x.1.2.2.2.1 x.2.1.2.1.1) trivial trivial
def F126 (a0:(List (List DEv))):Option ((Unit × Unit) × ZHt × Unit):=
 ((JgN a0 (((a0).length:Nat):Int) 0 ([]:List (List DEv))).bind fun y0=>((F136 (((y0.2.1.2.2.1.1).length:Nat):Int) y0.2.1.2.2.1.1).bind fun y1=>(some (((),()),(((((Int.toNat y1.2.1.1.1):Nat):Int),()),y1.2.1.2.1,()),()))))
def c126:Con:=⟨{ sl := [(0,.v (.l (.l Qi)))] },(.ret { sl := [(0,.p 0 0)],bx := [[.w (.l Qi) 1], [.r (.l Qi)]] }),fun x=>F126 x.1.1⟩
theorem JuT:Con.OK Try.prog 126 c126:=fnL [(136,c136)] [(3,Jta)] [3] ⟨JuR,trivial⟩ ⟨Jpj,trivial⟩ Try.func126
def F128 (b0_0:Int) (b1_0:(List (List DEv))):Option ((DEv × (Bool × Unit)) × ZHt × Unit):=
 (bif (((((Int.toNat b0_0):Nat):Int):Int) == 0) then (some (((0,(0,(0,(0,(ByteArray.empty,(([]:List Int),(0,(0,())))))))),false,()),(((((Int.toNat b0_0):Nat):Int),()),(b1_0,()),()),())) else (bif (decide (0≤(0:Int)∧(0:Int)<((((Int.toNat b0_0):Nat)):Int))) then (bif (decide (((((0:Nat):Int)+0):Int).toNat<(b1_0).length)) then (bif (decide (0≤(0:Int)∧(0:Int)<(((((b1_0).getD ((((0:Nat):Int)+0):Int).toNat [])).length:Nat):Int))) then (bif (decide (0≤(0:Int)∧(0:Int)<((((Int.toNat b0_0):Nat)):Int))) then (bif (decide (((((0:Nat):Int)+0):Int).toNat<(b1_0).length)) then (bif (decide (0≤(1:Int)∧(1:Int)≤(((((b1_0).getD ((((0:Nat):Int)+0):Int).toNat [])).length:Nat):Int))) then (bif (decide (((((((((b1_0).getD ((((0:Nat):Int)+0):Int).toNat [])).drop (1:Int).toNat)).length:Nat):Int):Int) > 0)) then (bif (decide (0≤(0:Int)∧(0:Int)<((((Int.toNat b0_0):Nat)):Int))) then (bif (decide (((((0:Nat):Int)+0):Int).toNat<(b1_0).length)) then ((F137 0 (((Int.toNat b0_0):Nat):Int) ((b1_0).set ((((0:Nat):Int)+0):Int).toNat ((((b1_0).getD ((((0:Nat):Int)+0):Int).toNat [])).drop (1:Int).toNat))).bind fun y0=>(some ((((((b1_0).getD ((((0:Nat):Int)+0):Int).toNat [])).getD (0:Int).toNat zE),true,()),(((((Int.toNat y0.2.1.1.1):Nat):Int),()),y0.2.1.2.1,()),()))) else none) else none) else ((F138 (((Int.toNat b0_0):Nat):Int) b1_0).bind fun y1=>(some ((((((b1_0).getD ((((0:Nat):Int)+0):Int).toNat [])).getD (0:Int).toNat zE),true,()),(((((Int.toNat y1.2.1.1.1):Nat):Int),()),y1.2.1.2.1,()),())))) else none) else none) else none) else none) else none) else none))
def c128:Con:=⟨{ sl := [(0,.p 0 0)],bx := [[.w (.l Qi) 1], [.r (.l Qi)]] },(.ret { sl := [(0,.v Qi),(1,.v .b)],bx := [[.w (.l Qi) 1], [.r (.l Qi)]] }),fun x=>F128 x.2.1.1.1 x.2.1.2.1.1⟩
theorem Jh3:Con.OK Try.prog 128 c128:=fnX [(137,c137),(138,c138)] ⟨JuQ,JuP,trivial⟩ Try.func128
def Jjr (a5:Int) (b0_0:Int) (b1_0:Int) (b1_1:Int) (b2_0:(List (List DEv))):Option (((Unit × (Unit × (Int × Unit))) × ((Int × Unit) × ((Int × (Int × Unit)) × (((List (List DEv)) × Unit) × Unit))) × Unit) ⊕ ((Int × Unit) × ((Int × Unit) × ((Int × (Int × Unit)) × (((List (List DEv)) × Unit) × Unit))) × Unit)):=
 (bif (decide (((((Int.toNat b0_0):Nat):Int):Int) > 0)) then (bif (decide (0≤(0:Int)∧(0:Int)<((((Int.toNat b0_0):Nat)):Int))) then (bif (decide (((((0:Nat):Int)+0):Int).toNat<(b2_0).length)) then (bif (decide (0≤(0:Int)∧(0:Int)<(((((b2_0).getD ((((0:Nat):Int)+0):Int).toNat [])).length:Nat):Int))) then ((F52 ((((b2_0).getD ((((0:Nat):Int)+0):Int).toNat [])).getD (0:Int).toNat zE)).bind fun y0=>((F46 y0.1.1 (b1_0,(b1_1,()))).bind fun y1=>(bif (decide ((y1.1.1:Int)≤0)) then ((F128 (((Int.toNat b0_0):Nat):Int) b2_0).bind fun y2=>(some (.inl (((),(),(IntKind.wrap .i64 (a5+1)),()),(((((Int.toNat y2.2.1.1.1):Nat):Int),()),(b1_0,b1_1,()),y2.2.1.2.1,()),())))) else (some (.inr ((a5,()),(((((Int.toNat b0_0):Nat):Int),()),(b1_0,b1_1,()),(b2_0,()),()),())))))) else none) else none) else none) else (some (.inr ((a5,()),(((((Int.toNat b0_0):Nat):Int),()),(b1_0,b1_1,()),(b2_0,()),()),()))))
def JgM (a5:Int) (b0_0:Int) (b1_0:Int) (b1_1:Int) (b2_0:(List (List DEv))):Option ((Int × Unit) × ((Int × Unit) × ((Int × (Int × Unit)) × (((List (List DEv)) × Unit) × Unit))) × Unit):=Q4 (fun x:((Unit × (Unit × (Int × Unit))) × ((Int × Unit) × ((Int × (Int × Unit)) × (((List (List DEv)) × Unit) × Unit))) × Unit)=>Jjr x.1.2.2.1 x.2.1.1.1 x.2.1.2.1.1 x.2.1.2.1.2.1 x.2.1.2.2.1.1) (((),(),a5,()),((b0_0,()),(b1_0,b1_1,()),(b2_0,()),()),())
theorem JjB (a5:Int) (b0_0:Int) (b1_0:Int) (b1_1:Int) (b2_0:(List (List DEv))):JgM a5 b0_0 b1_0 b1_1 b2_0=(Jjr a5 b0_0 b1_0 b1_1 b2_0).bind (Sum.elim (fun x=>JgM x.1.2.2.1 x.2.1.1.1 x.2.1.2.1.1 x.2.1.2.1.2.1 x.2.1.2.2.1.1) some):=Qg _ _
def Js9:Con:=⟨{ sl := [(0,.p 0 0),(3,.p 1 0),(5,.v (.i .i64))],bx := [[.w (.l Qi) 2], [.v (.i .u64),.v (.i .i64)], [.r (.l Qi)]] },(.exit 0 { sl := [(5,.v (.i .i64))],bx := [[.w (.l Qi) 2], [.v (.i .u64),.v (.i .i64)], [.r (.l Qi)]] }),fun x=>JgM x.1.2.2.1 x.2.1.1.1 x.2.1.2.1.1 x.2.1.2.1.2.1 x.2.1.2.2.1.1⟩
theorem Jpi:Con.LOK Try.prog Try.f127.ntmps (Jbv Try.f127 2) Js9:=lpX [(46,c46),(52,c52),(128,c128)] [] [] (fun x=>Jjr x.1.2.2.1 x.2.1.1.1 x.2.1.2.1.1 x.2.1.2.1.2.1 x.2.1.2.2.1.1) ⟨Jgz,Jgy,Jh3,trivial⟩ trivial
def F127 (a1:(Int × (Int × Unit))) (b0_0:Int) (b1_0:(List (List DEv))):Option ((Int × Unit) × ZHt × Unit):=
 ((JgM 0 (((Int.toNat b0_0):Nat):Int) a1.1 a1.2.1 b1_0).bind fun y0=>(some (y0.1,(((((Int.toNat y0.2.1.1.1):Nat):Int),()),y0.2.1.2.2.1,()),())))
def c127:Con:=⟨{ sl := [(0,.p 0 0),(1,.v (.p (.i .u64) (.p (.i .i64) .u)))],bx := [[.w (.l Qi) 1], [.r (.l Qi)]] },(.ret { sl := [(0,.v (.i .i64))],bx := [[.w (.l Qi) 1], [.r (.l Qi)]] }),fun x=>F127 x.1.2.1 x.2.1.1.1 x.2.1.2.1.1⟩
theorem JuS:Con.OK Try.prog 127 c127:=fnL [(46,c46),(52,c52),(128,c128)] [(2,Js9)] [2] ⟨Jgz,Jgy,Jh3,trivial⟩ ⟨Jpi,trivial⟩ Try.func127
def Jjt (a2:Int) (b0_0:Int) (b1_0:(List (List DEv))) (q0:(List DEv)):Option (((Int × (Unit × (Unit × Unit))) × ZHt × ((List DEv) × Unit)) ⊕ ((Unit × Unit) × ZHt × ((List DEv) × Unit))):=
 (bif (decide (((((q0).length:Nat):Int):Int)<a2)) then ((F128 (((Int.toNat b0_0):Nat):Int) b1_0).bind fun y0=>(bif (!y0.1.2.1) then (some (.inr (((),()),(((((Int.toNat y0.2.1.1.1):Nat):Int),()),y0.2.1.2.1,()),(q0,())))) else (bif (decide ((q0).length+([y0.1.1]).length<lim)) then (some (.inl ((a2,(),(),()),(((((Int.toNat y0.2.1.1.1):Nat):Int),()),y0.2.1.2.1,()),((q0 ++ [y0.1.1]),())))) else none))) else (some (.inr (((),()),(((((Int.toNat b0_0):Nat):Int),()),(b1_0,()),()),(q0,())))))
def JjE (a2:Int) (b0_0:Int) (b1_0:(List (List DEv))) (q0:(List DEv)):Option ((Unit × Unit) × ZHt × ((List DEv) × Unit)):=Q4 (fun x:((Int × (Unit × (Unit × Unit))) × ZHt × ((List DEv) × Unit))=>Jjt x.1.1 x.2.1.1.1 x.2.1.2.1.1 x.2.2.1) ((a2,(),(),()),((b0_0,()),(b1_0,()),()),(q0,()))
theorem JjD (a2:Int) (b0_0:Int) (b1_0:(List (List DEv))) (q0:(List DEv)):JjE a2 b0_0 b1_0 q0=(Jjt a2 b0_0 b1_0 q0).bind (Sum.elim (fun x=>JjE x.1.1 x.2.1.1.1 x.2.1.2.1.1 x.2.2.1) some):=Qg _ _
def Jtb:Con:=⟨{ sl := [(2,.v (.i .i64)),(7,.p 0 0),(8,.o 0)],bx := [[.w (.l Qi) 1], [.r (.l Qi)]],bf := [Qi] },(.exit 0 { sl := [(8,.o 0)],bx := [[.w (.l Qi) 1], [.r (.l Qi)]],bf := [Qi] }),fun x=>JjE x.1.1 x.2.1.1.1 x.2.1.2.1.1 x.2.2.1⟩
theorem Jpk:Con.LOK Try.prog Try.f110.ntmps (Jbv Try.f110 4) Jtb:=lpX [(128,c128)] [] [] (fun x=>Jjt x.1.1 x.2.1.1.1 x.2.1.2.1.1 x.2.2.1) ⟨Jh3,trivial⟩ trivial
def F110 (a0:(List (List DEv))) (a1:(Int × (Int × Unit))) (a2:Int):Option (((List DEv) × Unit) × Unit × Unit):=
 ((F126 a0).bind fun y0=>((F127 a1 (((Int.toNat y0.2.1.1.1):Nat):Int) y0.2.1.2.1.1).bind fun y1=>((JjE a2 (((Int.toNat y1.2.1.1.1):Nat):Int) y1.2.1.2.1.1 ([]:List DEv)).bind fun y2=>(some (y2.2.2,(),())))))
def c110:Con:=⟨{ sl := [(0,.v (.l (.l Qi))),(1,.v (.p (.i .u64) (.p (.i .i64) .u))),(2,.v (.i .i64))] },(.ret { sl := [(0,.v (.l Qi))] }),fun x=>F110 x.1.1 x.1.2.1 x.1.2.2.1⟩
theorem JuW:Con.OK Try.prog 110 c110:=fnL [(126,c126),(127,c127),(128,c128)] [(4,Jtb)] [4] ⟨JuT,JuS,Jh3,trivial⟩ ⟨Jpk,trivial⟩ Try.func110
def F85 (a0:(List (List DEv))):Option (((List DEv) × Unit) × Unit × Unit):=
 ((F110 a0 (0,((-1),())) 4611686018427387904).bind fun y0=>(some (y0.1,(),())))
def c85:Con:=⟨{ sl := [(0,.v (.l (.l Qi)))] },(.ret { sl := [(0,.v (.l Qi))] }),fun x=>F85 x.1.1⟩
theorem c85_ok:Con.OK Try.prog 85 c85:=fnX [(110,c110)] ⟨JuW,trivial⟩ Try.func85
def F20:Option ((Unit × Unit) × (ZFt × (ZKt × Unit)) × Unit):=
 (some (((),()),(((),(((((((List.replicate 64 (false:Bool))).set (0:Int).toNat true)).set (1:Int).toNat true)).set (2:Int).toNat true),(List.replicate 64 (false:Bool)),([]:List Int),0,0,14695981039346656037,()),(([]:List (ByteArray × DCe)),()),()),()))
def c20:Con:=⟨{ sl := [(0,.ki .i64 3)] },(.ret { sl := [(0,.p 0 0)],bx := [[.mv 1,.sg 64 .b,.sg 64 .b,.v (.l (.i .u64)),.v (.i .u64),.v (.i .i64),.v (.i .u64)], [.ms Xe]] }),fun x=>F20⟩
theorem c20_ok:Con.OK Try.prog 20 c20:=fnL [(900005,Jf5),(900007,Jf5),(700003,Jf5)] [] [3] ⟨Q3,Q3,Q3,trivial⟩ trivial Try.func20
def F35 (b0_1:(List Bool)) (b0_2:(List Bool)) (b0_3:(List Int)) (b0_4:Int) (b0_5:Int) (b0_6:Int) (b1_0:(List (ByteArray × DCe))):Option (((Int × (Int × Unit)) × Unit) × (ZFt × (ZKt × Unit)) × Unit):=
 (some (((b0_4,(b0_5,())),()),(((),b0_1,b0_2,b0_3,b0_4,b0_5,b0_6,()),(b1_0,()),()),()))
def c35:Con:=⟨{ sl := [(0,.p 0 0)],bx := [[.mv 1,.sg 64 .b,.sg 64 .b,.v (.l (.i .u64)),.v (.i .u64),.v (.i .i64),.v (.i .u64)], [.ms Xe]] },(.ret { sl := [(0,.v (.p (.i .u64) (.p (.i .i64) .u)))],bx := [[.mv 1,.sg 64 .b,.sg 64 .b,.v (.l (.i .u64)),.v (.i .u64),.v (.i .i64),.v (.i .u64)], [.ms Xe]] }),fun x=>F35 x.2.1.1.2.1 x.2.1.1.2.2.1 x.2.1.1.2.2.2.1 x.2.1.1.2.2.2.2.1 x.2.1.1.2.2.2.2.2.1 x.2.1.1.2.2.2.2.2.2.1 x.2.1.2.1.1⟩
theorem Jlc:Con.OKR Try.prog 35 c35:=fnR [] trivial Try.func35
theorem Jtw:Con.OK Try.prog 35 c35:=Jlc.ok
def Jjo (a58:(List Int)) (a59:Int) (a60:Int) (b0_1:(List Bool)) (b0_2:(List Bool)) (b0_3:(List Int)) (b0_4:Int) (b0_5:Int) (b0_6:Int) (b1_0:Int) (b1_1:Int) (b1_2:Int) (b1_3:Int) (b1_4:ByteArray) (b1_5:(List Int)) (b1_6:Nat) (b1_7:Int) (b2_0:(List (ByteArray × DCe))):Option (((Unit × (Unit × ((List Int) × (Int × (Int × Unit))))) × (ZFt × (DEv × (ZKt × Unit))) × Unit) ⊕ (Unit × (ZFt × (DEv × (ZKt × Unit))) × Unit)):=
 (bif (decide ((a60:Int)<a59)) then (bif (decide (0≤(a60:Int)∧(a60:Int)<(((a58).length:Nat):Int))) then (some (.inl (((),(),a58,a59,(IntKind.wrap .i64 (a60+1)),()),(((),b0_1,b0_2,b0_3,b0_4,b0_5,(IntKind.wrap .u64 ((iXor .u64 b0_6 (IntKind.wrap .u64 ((a58).getD (a60:Int).toNat (0:Int))))*1099511628211)),()),(b1_0,b1_1,b1_2,b1_3,b1_4,b1_5,b1_6,b1_7,()),(b2_0,()),()),()))) else none) else (some (.inr ((),(((),b0_1,b0_2,b0_3,b0_4,b0_5,b0_6,()),(b1_0,b1_1,b1_2,b1_3,b1_4,b1_5,b1_6,b1_7,()),(b2_0,()),()),()))))
def JgK (a58:(List Int)) (a59:Int) (a60:Int) (b0_1:(List Bool)) (b0_2:(List Bool)) (b0_3:(List Int)) (b0_4:Int) (b0_5:Int) (b0_6:Int) (b1_0:Int) (b1_1:Int) (b1_2:Int) (b1_3:Int) (b1_4:ByteArray) (b1_5:(List Int)) (b1_6:Nat) (b1_7:Int) (b2_0:(List (ByteArray × DCe))):Option (Unit × (ZFt × (DEv × (ZKt × Unit))) × Unit):=Q4 (fun x:((Unit × (Unit × ((List Int) × (Int × (Int × Unit))))) × (ZFt × (DEv × (ZKt × Unit))) × Unit)=>Jjo x.1.2.2.1 x.1.2.2.2.1 x.1.2.2.2.2.1 x.2.1.1.2.1 x.2.1.1.2.2.1 x.2.1.1.2.2.2.1 x.2.1.1.2.2.2.2.1 x.2.1.1.2.2.2.2.2.1 x.2.1.1.2.2.2.2.2.2.1 x.2.1.2.1.1 x.2.1.2.1.2.1 x.2.1.2.1.2.2.1 x.2.1.2.1.2.2.2.1 x.2.1.2.1.2.2.2.2.1 x.2.1.2.1.2.2.2.2.2.1 x.2.1.2.1.2.2.2.2.2.2.1 x.2.1.2.1.2.2.2.2.2.2.2.1 x.2.1.2.2.1.1) (((),(),a58,a59,a60,()),(((),b0_1,b0_2,b0_3,b0_4,b0_5,b0_6,()),(b1_0,b1_1,b1_2,b1_3,b1_4,b1_5,b1_6,b1_7,()),(b2_0,()),()),())
theorem Jjx (a58:(List Int)) (a59:Int) (a60:Int) (b0_1:(List Bool)) (b0_2:(List Bool)) (b0_3:(List Int)) (b0_4:Int) (b0_5:Int) (b0_6:Int) (b1_0:Int) (b1_1:Int) (b1_2:Int) (b1_3:Int) (b1_4:ByteArray) (b1_5:(List Int)) (b1_6:Nat) (b1_7:Int) (b2_0:(List (ByteArray × DCe))):JgK a58 a59 a60 b0_1 b0_2 b0_3 b0_4 b0_5 b0_6 b1_0 b1_1 b1_2 b1_3 b1_4 b1_5 b1_6 b1_7 b2_0=(Jjo a58 a59 a60 b0_1 b0_2 b0_3 b0_4 b0_5 b0_6 b1_0 b1_1 b1_2 b1_3 b1_4 b1_5 b1_6 b1_7 b2_0).bind (Sum.elim (fun x=>JgK x.1.2.2.1 x.1.2.2.2.1 x.1.2.2.2.2.1 x.2.1.1.2.1 x.2.1.1.2.2.1 x.2.1.1.2.2.2.1 x.2.1.1.2.2.2.2.1 x.2.1.1.2.2.2.2.2.1 x.2.1.1.2.2.2.2.2.2.1 x.2.1.2.1.1 x.2.1.2.1.2.1 x.2.1.2.1.2.2.1 x.2.1.2.1.2.2.2.1 x.2.1.2.1.2.2.2.2.1 x.2.1.2.1.2.2.2.2.2.1 x.2.1.2.1.2.2.2.2.2.2.1 x.2.1.2.1.2.2.2.2.2.2.2.1 x.2.1.2.2.1.1) some):=Qg _ _
def Js5:Con:=⟨{ sl := [(0,.p 0 0),(3,.p 1 0),(58,.v (.l (.i .u8))),(59,.v (.i .i64)),(60,.v (.i .i64))],bx := [[.mv 2,.sg 64 .b,.sg 64 .b,.v (.l (.i .u64)),.v (.i .u64),.v (.i .i64),.v (.i .u64)], [.v (.i .i64),.v (.i .u64),.v (.i .u64),.v (.i .u8),.v .s,.v (.l (.i .u8)),.v (.f .f64),.v (.i .i64)], [.ms Xe]] },(.exit 1 { sl := [],bx := [[.mv 2,.sg 64 .b,.sg 64 .b,.v (.l (.i .u64)),.v (.i .u64),.v (.i .i64),.v (.i .u64)], [.v (.i .i64),.v (.i .u64),.v (.i .u64),.v (.i .u8),.v .s,.v (.l (.i .u8)),.v (.f .f64),.v (.i .i64)], [.ms Xe]] }),fun x=>JgK x.1.2.2.1 x.1.2.2.2.1 x.1.2.2.2.2.1 x.2.1.1.2.1 x.2.1.1.2.2.1 x.2.1.1.2.2.2.1 x.2.1.1.2.2.2.2.1 x.2.1.1.2.2.2.2.2.1 x.2.1.1.2.2.2.2.2.2.1 x.2.1.2.1.1 x.2.1.2.1.2.1 x.2.1.2.1.2.2.1 x.2.1.2.1.2.2.2.1 x.2.1.2.1.2.2.2.2.1 x.2.1.2.1.2.2.2.2.2.1 x.2.1.2.1.2.2.2.2.2.2.1 x.2.1.2.1.2.2.2.2.2.2.2.1 x.2.1.2.2.1.1⟩
theorem Jpe:Con.LOK Try.prog Try.f23.ntmps (Jbv Try.f23 12) Js5:=lpX [] [] [] (fun x=>Jjo x.1.2.2.1 x.1.2.2.2.1 x.1.2.2.2.2.1 x.2.1.1.2.1 x.2.1.1.2.2.1 x.2.1.1.2.2.2.1 x.2.1.1.2.2.2.2.1 x.2.1.1.2.2.2.2.2.1 x.2.1.1.2.2.2.2.2.2.1 x.2.1.2.1.1 x.2.1.2.1.2.1 x.2.1.2.1.2.2.1 x.2.1.2.1.2.2.2.1 x.2.1.2.1.2.2.2.2.1 x.2.1.2.1.2.2.2.2.2.1 x.2.1.2.1.2.2.2.2.2.2.1 x.2.1.2.1.2.2.2.2.2.2.2.1 x.2.1.2.2.1.1) trivial trivial
def F23 (a1:DEv) (b0_1:(List Bool)) (b0_2:(List Bool)) (b0_3:(List Int)) (b0_4:Int) (b0_5:Int) (b0_6:Int) (b1_0:(List (ByteArray × DCe))):Option ((Int × Unit) × (ZFt × (ZKt × Unit)) × Unit):=
 ((F51 a1).bind fun y0=>(bif ((y0.1.1:Int) != 0) then (some (y0.1,(((),b0_1,b0_2,b0_3,b0_4,b0_5,b0_6,()),(b1_0,()),()),())) else ((F52 a1).bind fun y1=>((F46 y1.1.1 (b0_4,(b0_5,()))).bind fun y2=>(bif (decide ((y2.1.1:Int)≤0)) then (some ((10,()),(((),b0_1,b0_2,b0_3,b0_4,b0_5,b0_6,()),(b1_0,()),()),())) else ((F53 b0_3 a1.1).bind fun y3=>(bif ((a1.2.1:Int) != (IntKind.wrap .u64 (y3.1.1+1))) then (some ((9,()),(((),b0_1,b0_2,b0_3,b0_4,b0_5,b0_6,()),(b1_0,()),()),())) else ((F54 b0_3 a1.1 a1.2.1).bind fun y4=>((F52 a1).bind fun y5=>((F55 a1).bind fun y6=>((JgK y6.2.2.1 (((y6.2.2.1).length:Nat):Int) 0 b0_1 b0_2 y4.1.1 y5.1.1.1 y5.1.1.2.1 b0_6 a1.1 a1.2.1 a1.2.2.1 a1.2.2.2.1 a1.2.2.2.2.1 a1.2.2.2.2.2.1 a1.2.2.2.2.2.2.1 a1.2.2.2.2.2.2.2.1 b1_0).bind fun y7=>(bif ((y7.2.1.2.1.2.2.2.1:Int) == 1) then ((Jvu y7.2.1.2.1.2.2.2.2.2.1).bind fun y8=>(some ((0,()),(y7.2.1.1,((Jea y7.2.1.2.1.2.2.2.2.1 (1,(y8.1.1,(0,()))) y7.2.1.2.2.1.1),()),()),()))) else (bif ((y7.2.1.2.1.2.2.2.1:Int) == 2) then ((F57 y7.2.1.2.1.2.2.2.2.2.2.1).bind fun y9=>(some ((0,()),(y7.2.1.1,((Jea y7.2.1.2.1.2.2.2.2.1 (2,(([]:List Int),y9.1)) y7.2.1.2.2.1.1),()),()),()))) else (bif ((y7.2.1.2.1.2.2.2.1:Int) == 3) then ((F57 y7.2.1.2.1.2.2.2.2.2.2.1).bind fun y10=>(bif ((((QA y7.2.1.2.1.2.2.2.2.1 y7.2.1.2.2.1.1).getD (0,(([]:List Int),(0,())))).1:Int) == 2) then ((F58 (((QA y7.2.1.2.1.2.2.2.2.1 y7.2.1.2.2.1.1).getD (0,(([]:List Int),(0,())))).2.2.1) y7.2.1.2.1.2.2.2.2.2.2.1).bind fun y11=>(some ((0,()),(y7.2.1.1,((Jea y7.2.1.2.1.2.2.2.2.1 (2,(([]:List Int),y11.1)) y7.2.1.2.2.1.1),()),()),()))) else (some ((0,()),(y7.2.1.1,((Jea y7.2.1.2.1.2.2.2.2.1 (2,(([]:List Int),y10.1)) y7.2.1.2.2.1.1),()),()),())))) else (bif ((y7.2.1.2.1.2.2.2.1:Int) == 4) then (some ((0,()),(y7.2.1.1,((JjN y7.2.1.2.1.2.2.2.2.1 y7.2.1.2.2.1.1),()),()),())) else (bif ((y7.2.1.2.1.2.2.2.1:Int) == 5) then (bif (decide (0≤(y7.2.1.2.1.2.2.2.2.2.2.2.1:Int)∧(y7.2.1.2.1.2.2.2.2.2.2.2.1:Int)<((64:Nat):Int))) then (bif (decide ((y7.2.1.2.1.2.2.2.2.2.2.2.1:Int).toNat<64)) then (some ((0,()),(((),((y7.2.1.1.2.1).set (y7.2.1.2.1.2.2.2.2.2.2.2.1:Int).toNat true),y7.2.1.1.2.2.1,y7.2.1.1.2.2.2.1,y7.2.1.1.2.2.2.2.1,y7.2.1.1.2.2.2.2.2.1,y7.2.1.1.2.2.2.2.2.2.1,()),y7.2.1.2.2.1,()),())) else none) else none) else (bif ((y7.2.1.2.1.2.2.2.1:Int) == 6) then (bif (decide (0≤(y7.2.1.2.1.1:Int)∧(y7.2.1.2.1.1:Int)<((64:Nat):Int))) then (bif (decide ((y7.2.1.2.1.1:Int).toNat<64)) then (some ((0,()),(((),y7.2.1.1.2.1,((y7.2.1.1.2.2.1).set (y7.2.1.2.1.1:Int).toNat true),y7.2.1.1.2.2.2.1,y7.2.1.1.2.2.2.2.1,y7.2.1.1.2.2.2.2.2.1,y7.2.1.1.2.2.2.2.2.2.1,()),y7.2.1.2.2.1,()),())) else none) else none) else (some ((0,()),(y7.2.1.1,y7.2.1.2.2.1,()),())))))))))))))))))))
def c23:Con:=⟨{ sl := [(0,.p 0 0),(1,.v Qi)],bx := [[.mv 1,.sg 64 .b,.sg 64 .b,.v (.l (.i .u64)),.v (.i .u64),.v (.i .i64),.v (.i .u64)], [.ms Xe]] },(.ret { sl := [(0,.v (.i .i64))],bx := [[.mv 1,.sg 64 .b,.sg 64 .b,.v (.l (.i .u64)),.v (.i .u64),.v (.i .i64),.v (.i .u64)], [.ms Xe]] }),fun x=>F23 x.1.2.1 x.2.1.1.2.1 x.2.1.1.2.2.1 x.2.1.1.2.2.2.1 x.2.1.1.2.2.2.2.1 x.2.1.1.2.2.2.2.2.1 x.2.1.1.2.2.2.2.2.2.1 x.2.1.2.1.1⟩
theorem JgA:Con.OK Try.prog 23 c23:=fnL [(46,c46),(51,c51),(52,c52),(53,c53),(54,c54),(55,c55),(56,c56k),(57,c57),(58,c58)] [(12,Js5)] [12] ⟨Jgz,c51_ok,Jgy,c53_ok,c54_ok,c55_ok,JpR,Jtu,c58_ok,trivial⟩ ⟨Jpe,trivial⟩ Try.func23
def F27 (a1:ByteArray) (b0_1:(List Bool)) (b0_2:(List Bool)) (b0_3:(List Int)) (b0_4:Int) (b0_5:Int) (b0_6:Int) (b1_0:(List (ByteArray × DCe))):Option ((DCe × (Bool × Unit)) × (ZFt × (ZKt × Unit)) × Unit):=
 ((Jvu (((QA a1 b1_0).getD (0,(([]:List Int),(0,())))).2.1)).bind fun y0=>(some (((((QA a1 b1_0).getD (0,(([]:List Int),(0,())))).1,(y0.1.1,((QA a1 b1_0).getD (0,(([]:List Int),(0,())))).2.2)),(QA a1 b1_0).isSome,()),(((),b0_1,b0_2,b0_3,b0_4,b0_5,b0_6,()),(b1_0,()),()),())))
def c27:Con:=⟨{ sl := [(0,.p 0 0),(1,.v .s)],bx := [[.mv 1,.sg 64 .b,.sg 64 .b,.v (.l (.i .u64)),.v (.i .u64),.v (.i .i64),.v (.i .u64)], [.ms Xe]] },(.ret { sl := [(0,.v Xe),(1,.v .b)],bx := [[.mv 1,.sg 64 .b,.sg 64 .b,.v (.l (.i .u64)),.v (.i .u64),.v (.i .i64),.v (.i .u64)], [.ms Xe]] }),fun x=>F27 x.1.2.1 x.2.1.1.2.1 x.2.1.1.2.2.1 x.2.1.1.2.2.2.1 x.2.1.1.2.2.2.2.1 x.2.1.1.2.2.2.2.2.1 x.2.1.1.2.2.2.2.2.2.1 x.2.1.2.1.1⟩
theorem JpS:Con.OK Try.prog 27 c27:=fnX [(56,c56k)] ⟨JpR,trivial⟩ Try.func27
end
end Go.IM.V
namespace Go.IM.V
noncomputable section
open Go Go.IM Go.Proofs
abbrev Ev:Type:=DEv
def upT (t x:Int):Int:=IntKind.wrap .u64 (t+(IntKind.wrap .u64 (1+(((IntKind.wrap .u64 (IntKind.wrap .u16 (x.tdiv 16))):Int).tmod 4))))
def kdX (x:Int):Int:=IntKind.wrap .u8 (1+(((IntKind.wrap .u8 (IntKind.wrap .u16 (x.tdiv 64))):Int).tmod 4))
def kyX (x:Int):Int:=IntKind.wrap .u8 (97+(((IntKind.wrap .u8 (IntKind.wrap .u16 (x.tdiv 256))):Int).tmod 4))
def qtI (i:Int):Nat:=((FloatKind.f64).format.div (FloatKind.nearest .f64 i) (4616189618054758400)).getD 0
def evX (w:Int) (n:Nat) (t x i:Int):Ev:=
 (w,(IntKind.wrap .u64 ((IntKind.wrap .u64 ((n:Nat):Int))+1)),t,kdX x,Jke [kyX x],(bif kdX x == 1 then [IntKind.wrap .u8 i] else []),(bif kdX x == 2 then qtI i else bif kdX x == 3 then qtI i else 0),0,())
theorem Jt5 : ∀i:Fin 60,((FloatKind.f64).format.div (FloatKind.nearest .f64 ((i.val:Nat):Int)) (4616189618054758400)).isSome=true:=by decide +kernel
theorem Jhr {i:Int} (h0:0≤i) (h:i<60):((FloatKind.f64).format.div (FloatKind.nearest .f64 i) (4616189618054758400)).isSome=true:=by
 have:=Jt5 ⟨i.toNat,by omega⟩
 rwa [show ((i.toNat:Nat):Int)=i by omega] at this
theorem lim2 {q:List Ev} (h:q.length<1000000):q.length+1<lim:=by have:lim=1099511627776:=rfl;omega
theorem JuG {α:Type} {p:Prop} [i:Decidable p] {a b r:α} (hp:p) (h:a=r):(bif decide p then a else b)=r:=by rw [Jc hp];exact h
theorem wu16 {n:Int} (h0:0≤n) (h1:n<65536):IntKind.wrap .u16 n=n:=by
 have:IntKind.wrap .u16 n=n % 65536:=by simp [IntKind.wrap,IntKind.bits,IntKind.signed]
 rw [this];omega
def EvF (e:Ev):Prop:=(1≤e.2.2.2.1∧e.2.2.2.1≤4)∧(∃c,97≤c∧c≤100∧e.2.2.2.2.1=Jke [c])∧(e.2.2.2.2.2.1 = []∨(e.2.2.2.1=1 ∧ ∃c,0≤c∧c<256∧e.2.2.2.2.2.1 = [c]))∧(e.2.2.2.2.2.2.1=0∨((e.2.2.2.1=2∨e.2.2.2.1=3) ∧ ∃i:Int,0≤i∧i<60∧e.2.2.2.2.2.2.1=qtI i))∧e.2.2.2.2.2.2.2.1=0
structure JbR (w:Int) (k:Nat) (q:List Ev) (t:Int):Prop where
 len:q.length≤k
 t0:0≤t
 t1:t≤4*k
 who : ∀(i:Nat) (e:Ev),q[i]? = some e→e.1=w∧e.2.1=(i:Int)+1∧1≤e.2.2.1∧e.2.2.1≤t∧EvF e
 rise : ∀(i j:Nat) (ei ej:Ev),q[i]? = some ei→q[j]? = some ej→i<j→ei.2.2.1<ej.2.2.1
theorem JbR.keep {w:Int} {k:Nat} {q:List Ev} {t:Int} (h:JbR w k q t):JbR w (k+1) q t:=
 ⟨Nat.le_succ_of_le h.len,h.t0,by have:=h.t1;omega,h.who,h.rise⟩
theorem JbR.upto {w:Int} {k k':Nat} {q:List Ev} {t:Int} (h:JbR w k q t) (hk:k≤k'):JbR w k' q t:=
 ⟨Jy h.len hk,h.t0,by have:=h.t1;omega,h.who,h.rise⟩
theorem JbR.nil (w:Int):JbR w 0 [] 0:=⟨Je _,by omega,by omega,fun i e h=>(by cases h),fun i j e f h=>(by cases h)⟩
theorem upT_eq {t x:Int} (ht:0≤t∧t≤1000000) (hx:0≤x∧x<65536):upT t x=t+(1+x / 16 % 4):=by
 unfold upT;have h0:0≤x / 16:=Int.ediv_nonneg hx.1 (by omega);have h1:x / 16<65536:=by omega
 rw [Int.tdiv_eq_ediv_of_nonneg hx.1,wu16 h0 (by omega),Jmy h0 (by omega),Int.tmod_eq_emod_of_nonneg h0];have h2:=Int.emod_nonneg (x / 16) (show (4:Int)≠0 by omega);have h3:=Int.emod_lt_of_pos (x / 16) (show (0:Int)<4 by omega);rw [Jmy (n:=1+x / 16 % 4) (by omega) (by omega),Jmy (by omega) (by omega)]
theorem kdX_eq {x:Int} (hx:0≤x∧x<65536):kdX x=1+x / 64 % 4:=by
 unfold kdX;have h0:0≤x / 64:=Int.ediv_nonneg hx.1 (by omega);rw [Int.tdiv_eq_ediv_of_nonneg hx.1,wu16 h0 (by omega)];rw [JdC (x / 64),Int.tmod_eq_emod_of_nonneg (by omega)];rw [JdC];omega
theorem kyX_eq {x:Int} (hx:0≤x∧x<65536):kyX x=97+x / 256 % 4:=by
 unfold kyX;have h0:0≤x / 256:=Int.ediv_nonneg hx.1 (by omega);rw [Int.tdiv_eq_ediv_of_nonneg hx.1,wu16 h0 (by omega)];rw [JdC (x / 256),Int.tmod_eq_emod_of_nonneg (by omega)];rw [JdC];omega
theorem JrY {w t x i:Int} {n:Nat} (hx:0≤x∧x<65536) (hi:0≤i∧i<60):EvF (evX w n t x i):=by
 have hk:=kdX_eq hx;have hy:=kyX_eq hx;unfold evX EvF;dsimp only;refine ⟨by omega,⟨kyX x,by omega,by omega,rfl⟩, ?_, ?_,rfl⟩
 ·cases h1:kdX x == 1 with
  | false=>exact .inl rfl
  | true=>exact .inr ⟨by simpa using h1,IntKind.wrap .u8 i,by rw [JdC];omega,by rw [JdC];omega,rfl⟩
 ·cases h2:kdX x == 2 with
  | true=>exact .inr ⟨.inl (by simpa using h2),i,hi.1,hi.2,rfl⟩
  | false=>
   cases h3:kdX x == 3 with
   | true=>exact .inr ⟨.inr (by simpa using h3),i,hi.1,hi.2,rfl⟩
   | false=>exact .inl rfl
theorem app1 {α:Type} {q:List α} {x e:α} {i:Nat} (h:(q ++ [x])[i]? = some e):q[i]? = some e∨(i=q.length∧e=x):=by
 rcases JB i q.length with hl | hl
 ·rw [JF hl] at h;exact .inl h
 ·rw [JN hl] at h;rcases Nat.eq_zero_or_pos (i - q.length) with h0 | h0
  ·rw [h0] at h;simp at h;exact .inr ⟨by omega,h.symm⟩
  ·rw [J1 (by simp;omega)] at h;cases h
theorem XL {α:Type} {q:List α} {e:α} {i:Nat} (h:q[i]? = some e):i<q.length:=(List.getElem?_eq_some_iff.1 h).1
theorem JbR.add {w : Int} {k : Nat} {q : List Ev} {t x i : Int} (h : JbR w k q t) (hx : 0 ≤ x ∧ x < 65536) (hk : k < 60) (hi : 0 ≤ i ∧ i < 60) : JbR w (k + 1) (q ++ [evX w q.length (upT t x) x i]) (upT t x) := by
 have ht:=upT_eq ⟨h.t0,by have:=h.t1;omega⟩ hx
 have h2:=Int.emod_nonneg (x / 16) (show (4:Int)≠0 by omega);have h3:=Int.emod_lt_of_pos (x / 16) (show (0:Int)<4 by omega);have hl:=h.len;have h0:=h.t0;refine ⟨by simp;omega,by omega,by have:=h.t1;omega,fun j e hj => ?_,fun j j' e e' hj hj' hlt => ?_⟩
 ·rcases app1 hj with hj|⟨rfl,rfl⟩
  ·obtain ⟨a,b,c,d,f⟩:=h.who j e hj;exact ⟨a,b,c,by omega,f⟩
  ·refine ⟨rfl, ?_,by show 1≤upT t x;omega,Int.le_refl _,JrY hx hi⟩
   show IntKind.wrap .u64 (IntKind.wrap .u64 (q.length:Int)+1)=_;rw [Jmy (n:=(q.length:Int)) (by omega) (by omega),Jmy (by omega) (by omega)]
 ·rcases app1 hj with hj|⟨rfl,rfl⟩
  ·rcases app1 hj' with hj' | ⟨rfl,rfl⟩
   ·exact h.rise j j' e e' hj hj' hlt
   ·have:=(h.who j e hj).2.2.2.1
    show _<upT t x;omega
  ·rcases app1 hj' with hj' | ⟨rfl,rfl⟩
   ·have:=XL hj';omega
   ·omega
theorem gset {b:List Int} {i j:Nat} {v:Int} (h:i≠j):(b.set i v).getD j 0=b.getD j 0:=by
 rw [Jo,List.getElem?_set_ne h,←List.getD_eq_getElem?_getD]
theorem Jbo {b:List Int} {i:Nat} {v:Int} (h:i<b.length):(b.set i v).getD i 0=v:=by
 rw [Jo,List.getElem?_set_self h];rfl
def U16s (l:List Int):Prop := ∀x∈l,0≤x∧x<65536
theorem U16s.get {l:List Int} (h:U16s l) (k:Nat):0≤l.getD k 0∧l.getD k 0<65536:=by
 rw [Jo];rcases JB k l.length with hk | hk
 ·rw [Jj hk];exact h _ (List.getElem_mem hk)
 ·rw [J1 hk];simp
theorem Jqq (a0:List Int) (k:Int) (b:List Int) (q0 q1 q2:List Ev) (hk:0≤k∧k<a0.length) (h60:k<60) (hb:b.length=3) (hq:q0.length<1000000) (hw:(IntKind.wrap .i64 (a0.getD k.toNat 0)).tmod 3=0) :
  JcK a0 3 k b q0 q1 q2=some (.inl ((a0,3,(),(),IntKind.wrap .i64 (k+1),()),(((),(),(),()),(b.set 0 (upT (b.getD 0 0) (a0.getD k.toNat 0)),()),()),((q0 ++ [evX 0 q0.length ((b.set 0 (upT (b.getD 0 0) (a0.getD k.toNat 0))).getD 0 0) (a0.getD k.toNat 0) k]),q1,q2,()))):=by
 have c1:decide (k<(a0.length:Int))=true:=Jc hk.2;have c2:decide (k<60)=true:=Jc h60;have c3:decide (0≤k∧k<(a0.length:Int))=true:=Jc hk;have c4:decide ((3:Int)≠0)=true:=rfl;have w0:decide (((((IntKind.wrap .i64 ((a0).getD (k:Int).toNat (0:Int))):Int).tmod 3):Int)=0)=true:=by rw [hw];rfl
 have c5:decide (0≤(0:Int)∧(0:Int)<((b.length:Nat):Int))=true:=Jc (by omega);have c6:decide ((0:Int).toNat<b.length)=true:=Jc (by rw [hb];decide)
 have c7 : ∀v,decide (0≤(0:Int)∧(0:Int)<(((b.set (0:Int).toNat v).length:Nat):Int))=true:=fun v=>Jc (by rw [JZ];omega)
 have c8 : ∀v,decide ((0:Int).toNat<(b.set (0:Int).toNat v).length)=true:=fun v=>Jc (by rw [JZ,hb];decide)
 have c9:=Jhr hk.1 h60;unfold JcK
 try delta Jbb
 try delta XZ
 try delta Jbc
 try delta X1
 try delta Jbd
 try delta X2
 try delta Jbe
 try delta JaG
 try delta JbV
 try delta JaH
 try delta JbW
 try delta JaI
 try delta QJ
 try delta J7
 try delta QK
 try delta QL
 try delta QM
 simp only [c1,c2,c3,c4,w0,c5,c6,c7,c8,c9,Jk,Jl];unfold evX;unfold kdX;generalize hkd:(IntKind.wrap .u8 (1+(((IntKind.wrap .u8 (IntKind.wrap .u16 ((a0.getD k.toNat 0).tdiv 64))):Int).tmod 4)))=kd;cases h1:kd == 1 <;> cases h2:kd == 2 <;> cases h3:kd == 3 <;> exact JuG (lim2 hq) rfl
theorem Jqp (a0:List Int) (k:Int) (b:List Int) (q0 q1 q2:List Ev) (hk:0≤k∧k<a0.length) (h60:k<60) (hb:b.length=3) (hq:q1.length<1000000) (hw:(IntKind.wrap .i64 (a0.getD k.toNat 0)).tmod 3=1) :
  JcK a0 3 k b q0 q1 q2=some (.inl ((a0,3,(),(),IntKind.wrap .i64 (k+1),()),(((),(),(),()),(b.set 1 (upT (b.getD 1 0) (a0.getD k.toNat 0)),()),()),(q0,(q1 ++ [evX 1 q1.length ((b.set 1 (upT (b.getD 1 0) (a0.getD k.toNat 0))).getD 1 0) (a0.getD k.toNat 0) k]),q2,()))):=by
 have c1:decide (k<(a0.length:Int))=true:=Jc hk.2;have c2:decide (k<60)=true:=Jc h60;have c3:decide (0≤k∧k<(a0.length:Int))=true:=Jc hk;have c4:decide ((3:Int)≠0)=true:=rfl;have w0:decide (((((IntKind.wrap .i64 ((a0).getD (k:Int).toNat (0:Int))):Int).tmod 3):Int)=0)=false:=by rw [hw];rfl
 have w1:decide (((((IntKind.wrap .i64 ((a0).getD (k:Int).toNat (0:Int))):Int).tmod 3):Int)=1)=true:=by rw [hw];rfl
 have c5:decide (0≤(1:Int)∧(1:Int)<((b.length:Nat):Int))=true:=Jc (by omega);have c6:decide ((1:Int).toNat<b.length)=true:=Jc (by rw [hb];decide)
 have c7 : ∀v,decide (0≤(1:Int)∧(1:Int)<(((b.set (1:Int).toNat v).length:Nat):Int))=true:=fun v=>Jc (by rw [JZ];omega)
 have c8 : ∀v,decide ((1:Int).toNat<(b.set (1:Int).toNat v).length)=true:=fun v=>Jc (by rw [JZ,hb];decide)
 have c9:=Jhr hk.1 h60;unfold JcK
 try delta Jbb
 try delta XZ
 try delta Jbc
 try delta X1
 try delta Jbd
 try delta X2
 try delta Jbe
 try delta JaG
 try delta JbV
 try delta JaH
 try delta JbW
 try delta JaI
 try delta QJ
 try delta J7
 try delta QK
 try delta QL
 try delta QM
 simp only [c1,c2,c3,c4,w0,w1,c5,c6,c7,c8,c9,Jk,Jl];unfold evX;unfold kdX;generalize hkd:(IntKind.wrap .u8 (1+(((IntKind.wrap .u8 (IntKind.wrap .u16 ((a0.getD k.toNat 0).tdiv 64))):Int).tmod 4)))=kd;cases h1:kd == 1 <;> cases h2:kd == 2 <;> cases h3:kd == 3 <;> exact JuG (lim2 hq) rfl
theorem Jqo (a0:List Int) (k:Int) (b:List Int) (q0 q1 q2:List Ev) (hk:0≤k∧k<a0.length) (h60:k<60) (hb:b.length=3) (hq:q2.length<1000000) (hw:(IntKind.wrap .i64 (a0.getD k.toNat 0)).tmod 3=2) :
  JcK a0 3 k b q0 q1 q2=some (.inl ((a0,3,(),(),IntKind.wrap .i64 (k+1),()),(((),(),(),()),(b.set 2 (upT (b.getD 2 0) (a0.getD k.toNat 0)),()),()),(q0,q1,(q2 ++ [evX 2 q2.length ((b.set 2 (upT (b.getD 2 0) (a0.getD k.toNat 0))).getD 2 0) (a0.getD k.toNat 0) k]),()))):=by
 have c1:decide (k<(a0.length:Int))=true:=Jc hk.2;have c2:decide (k<60)=true:=Jc h60;have c3:decide (0≤k∧k<(a0.length:Int))=true:=Jc hk;have c4:decide ((3:Int)≠0)=true:=rfl;have w0:decide (((((IntKind.wrap .i64 ((a0).getD (k:Int).toNat (0:Int))):Int).tmod 3):Int)=0)=false:=by rw [hw];rfl
 have w1:decide (((((IntKind.wrap .i64 ((a0).getD (k:Int).toNat (0:Int))):Int).tmod 3):Int)=1)=false:=by rw [hw];rfl
 have w2:decide (((((IntKind.wrap .i64 ((a0).getD (k:Int).toNat (0:Int))):Int).tmod 3):Int)=2)=true:=by rw [hw];rfl
 have c5:decide (0≤(2:Int)∧(2:Int)<((b.length:Nat):Int))=true:=Jc (by omega);have c6:decide ((2:Int).toNat<b.length)=true:=Jc (by rw [hb];decide)
 have c7 : ∀v,decide (0≤(2:Int)∧(2:Int)<(((b.set (2:Int).toNat v).length:Nat):Int))=true:=fun v=>Jc (by rw [JZ];omega)
 have c8 : ∀v,decide ((2:Int).toNat<(b.set (2:Int).toNat v).length)=true:=fun v=>Jc (by rw [JZ,hb];decide)
 have c9:=Jhr hk.1 h60;unfold JcK
 try delta Jbb
 try delta XZ
 try delta Jbc
 try delta X1
 try delta Jbd
 try delta X2
 try delta Jbe
 try delta JaG
 try delta JbV
 try delta JaH
 try delta JbW
 try delta JaI
 try delta QJ
 try delta J7
 try delta QK
 try delta QL
 try delta QM
 simp only [c1,c2,c3,c4,w0,w1,w2,c5,c6,c7,c8,c9,Jk,Jl];unfold evX;unfold kdX;generalize hkd:(IntKind.wrap .u8 (1+(((IntKind.wrap .u8 (IntKind.wrap .u16 ((a0.getD k.toNat 0).tdiv 64))):Int).tmod 4)))=kd;cases h1:kd == 1 <;> cases h2:kd == 2 <;> cases h3:kd == 3 <;> exact JuG (lim2 hq) rfl
theorem JnZ (a0:List Int) (ha:U16s a0) : ∀(d k:Nat) (b:List Int) (q0 q1 q2:List Ev),k+d=min a0.length 60→b.length=3→JbR 0 k q0 (b.getD 0 0)→JbR 1 k q1 (b.getD 1 0)→JbR 2 k q2 (b.getD 2 0) →
  ∃(b':List Int) (q0' q1' q2':List Ev),JgO a0 3 (k:Nat) b q0 q1 q2=some ((),(((),(),(),()),(b',()),()),(q0',q1',q2',()))∧b'.length=3∧JbR 0 60 q0' (b'.getD 0 0)∧JbR 1 60 q1' (b'.getD 1 0)∧JbR 2 60 q2' (b'.getD 2 0):=by
 intro d;induction d with
 | zero=>
  intro k b q0 q1 q2 hk hb f0 f1 f2;rw [JjF];refine ⟨b,q0,q1,q2, ?_,hb,f0.upto (by omega),f1.upto (by omega),f2.upto (by omega)⟩;unfold JcK;by_cases h:(k:Int)<(a0.length:Int)
  ·rw [Jc h,show decide ((k:Int)<60)=false from Js (by omega)];rfl
  ·rw [Js h];rfl
 | succ d ih=>
  intro k b q0 q1 q2 hk hb f0 f1 f2;rw [JjF];have hx:=ha.get k;have hw':(IntKind.wrap .i64 (a0.getD ((k:Nat):Int).toNat 0)).tmod 3=a0.getD k 0 % 3:=by
   rw [Ji,w64 (by omega) (by omega),Int.tmod_eq_emod_of_nonneg hx.1]
  have hor:a0.getD k 0 % 3=0∨a0.getD k 0 % 3=1∨a0.getD k 0 % 3=2:=by omega
  rcases hor with h0 | h1 | h2
  ·have hs:=Jqq a0 (k:Nat) b q0 q1 q2 ⟨by omega,by omega⟩ (by omega) hb (by have:=f0.len;omega) (by rw [hw',h0])
   rw [hs];simp only [Jb,Sum.elim_inl];rw [Jbo (by omega),show IntKind.wrap .i64 ((k:Nat)+1:Int)=((k+1:Nat):Int) by rw [w64 (by omega) (by omega)];rfl,Ji]
   exact ih (k+1) _ _ _ _ (by omega) (by rw [JZ];exact hb) (by rw [Jbo (by omega)];exact f0.add hx (by omega) ⟨by omega,by omega⟩) (by rw [gset (by decide)];exact f1.keep) (by rw [gset (by decide)];exact f2.keep)
  ·have hs:=Jqp a0 (k:Nat) b q0 q1 q2 ⟨by omega,by omega⟩ (by omega) hb (by have:=f1.len;omega) (by rw [hw',h1])
   rw [hs];simp only [Jb,Sum.elim_inl];rw [Jbo (by omega),show IntKind.wrap .i64 ((k:Nat)+1:Int)=((k+1:Nat):Int) by rw [w64 (by omega) (by omega)];rfl,Ji]
   exact ih (k+1) _ _ _ _ (by omega) (by rw [JZ];exact hb) (by rw [gset (by decide)];exact f0.keep) (by rw [Jbo (by omega)];exact f1.add hx (by omega) ⟨by omega,by omega⟩) (by rw [gset (by decide)];exact f2.keep)
  ·have hs:=Jqo a0 (k:Nat) b q0 q1 q2 ⟨by omega,by omega⟩ (by omega) hb (by have:=f2.len;omega) (by rw [hw',h2])
   rw [hs];simp only [Jb,Sum.elim_inl];rw [Jbo (by omega),show IntKind.wrap .i64 ((k:Nat)+1:Int)=((k+1:Nat):Int) by rw [w64 (by omega) (by omega)];rfl,Ji]
   exact ih (k+1) _ _ _ _ (by omega) (by rw [JZ];exact hb) (by rw [gset (by decide)];exact f0.keep) (by rw [gset (by decide)];exact f1.keep) (by rw [Jbo (by omega)];exact f2.add hx (by omega) ⟨by omega,by omega⟩)
theorem Jn0 (a0:List Int) (ha:U16s a0) : ∃(b':List Int) (q0' q1' q2':List Ev),F10t a0=some (([q0',q1',q2'],()),(),())∧JbR 0 60 q0' (b'.getD 0 0)∧JbR 1 60 q1' (b'.getD 1 0)∧JbR 2 60 q2' (b'.getD 2 0):=by
 obtain ⟨b',q0',q1',q2',h,_,hh⟩:=JnZ a0 ha (min a0.length 60) 0 (List.replicate 3 0) [] [] [] (by omega) (by simp) (JbR.nil _) (JbR.nil _) (JbR.nil _);refine ⟨b',q0',q1',q2', ?_,hh⟩;unfold F10t F10f;have h':JgO a0 3 0 (List.replicate (3:Int).toNat 0) [] [] []=_:=h
 rw [h'];rfl
end
end Go.IM.V
namespace Go.IM.V
open Go Go.IM Go.Proofs
abbrev LL:Type:=List (List DEv)
abbrev dv0:DEv:=((0:Int),((0:Int),((0:Int),((0:Int),(ByteArray.empty,([],((0:Nat),((0:Int),()))))))))
abbrev Pl:Type:=Int × (Int × Unit)
def pl (e:DEv):Pl:=(e.2.2.1,(e.1,()))
def kl (a b:Pl):Bool:=decide (a.1<b.1) || (a.1 == b.1 && decide (a.2.1<b.2.1))
theorem Jdg {a b:Pl}:kl a b=true↔a.1<b.1∨(a.1=b.1∧a.2.1<b.2.1):=by simp [kl]
theorem JiY {a b:Pl}:kl a b=false↔b.1<a.1∨(a.1=b.1∧b.2.1≤a.2.1):=by
 rw [←Bool.not_eq_true,Jdg];omega
def hp (xs:LL) (k:Nat):Pl:=pl ((xs.getD k []).getD 0 dv0)
theorem JtE (e:DEv):F52 e=some ((((pl e).1,((pl e).2.1,())),()),(),()):=rfl
theorem JjG (e:DEv):F12 e=some (((pl e),()),(),()):=rfl
theorem Jp0 (a:Int):((a:Int) != a)=false:=by simp
theorem F87_eq (a b:Int):F87 a b=some (((if a<b then -1 else if a > b then 1 else 0),()),(),()):=by
 unfold F87 F111;simp only [Jp0,Jb,Jl,cif];split
 ·rfl
 ·split <;> rfl
theorem F88_eq (a b:Int):F88 a b=some (((if a<b then -1 else if a > b then 1 else 0),()),(),()):=by
 unfold F88 F112;simp only [Jp0,Jb,Jl,cif];split
 ·rfl
 ·split <;> rfl
theorem F86_eq (a b:Int):F86 [a,b]=some (((if a≠0 then a else b),()),(),()):=by
 unfold F86;rw [Jib];unfold JnO;rw [show decide ((0:Int)<((([a,b]:List Int).length:Nat):Int))=true from rfl,show decide (0≤(0:Int)∧(0:Int)<((([a,b]:List Int).length:Nat):Int))=true from rfl];simp only [Jk,show (([a,b]:List Int).getD (0:Int).toNat 0)=a from rfl];by_cases h:a=0
 ·subst h;simp only [show ((0:Int) != 0)=false from rfl,Jl,Jb,Sum.elim_inl,show IntKind.wrap .i64 (0+1)=1 from rfl];rw [Jib];unfold JnO;rw [show decide ((1:Int)<((([0,b]:List Int).length:Nat):Int))=true from rfl,show decide (0≤(1:Int)∧(1:Int)<((([0,b]:List Int).length:Nat):Int))=true from rfl];simp only [Jk,show (([0,b]:List Int).getD (1:Int).toNat 0)=b from rfl]
  by_cases h2:b=0
  ·subst h2;simp only [show ((0:Int) != 0)=false from rfl,Jl,Jb,Sum.elim_inl,show IntKind.wrap .i64 (1+1)=2 from rfl];rw [Jib];unfold JnO;rw [show decide ((2:Int)<((([0,0]:List Int).length:Nat):Int))=false from rfl];rfl
  ·rw [show (b != 0)=true from bne_iff_ne.2 h2];rfl
 ·rw [show (a != 0)=true from bne_iff_ne.2 h];simp only [Jk,Jb,Sum.elim_inr,Sum.elim_inl];rw [Jf h]
def Jn3 (a b:Pl):Int:=if kl a b then -1 else if kl b a then 1 else 0
theorem JgQ (a b:Pl):F46 a b=some ((Jn3 a b,()),(),()):=by
 unfold F46;rw [F87_eq,F88_eq];simp only [Jb];rw [F86_eq];simp only [Jb];have:(if (if a.1<b.1 then (-1:Int) else if a.1 > b.1 then 1 else 0)≠0 then (if a.1<b.1 then (-1:Int) else if a.1 > b.1 then 1 else 0) else (if a.2.1<b.2.1 then (-1:Int) else if a.2.1 > b.2.1 then 1 else 0))=Jn3 a b:=by
  unfold Jn3;simp only [Jdg]
  repeat' split
  all_goals omega
 rw [this]
theorem JpH (a b:Pl):decide (Jn3 a b<0)=kl a b:=by
 unfold Jn3;cases h:kl a b
 ·simp only [Bool.false_eq_true,if_false];split <;> rfl
 ·rfl
theorem Jfk {a b:Pl} (h:kl a b=true):kl b a=false:=by rw [Jdg] at h;rw [JiY];omega
theorem JpI (a b:Pl):decide (Jn3 a b≤0) = !kl b a:=by
 unfold Jn3;cases h:kl a b
 ·simp only [Bool.false_eq_true,if_false];cases h2:kl b a <;> rfl
 ·rw [Jfk h];rfl
theorem Jmw (a b:Pl):F14 a b=some ((kl a b,()),(),()):=by
 unfold F14 kl;rw [cif];by_cases h:a.1<b.1
 ·simp [h]
 ·simp only [h,if_false,decide_false,Bool.false_or];cases h2:a.1 == b.1 <;> simp
theorem Jig (n:Nat) (i j:Nat) (xs:LL) (hi:i<n) (hj:j<n) (hn:n≤xs.length) (hne : ∀k,k<n→xs.getD k [] ≠ []) :
  JtG (n:Nat) (i:Nat) (j:Nat) xs=some ((kl (hp xs i) (hp xs j),()),((xs,()),()),()):=by
 have li:=JR.2 (hne i hi);have lj:=JR.2 (hne j hj);unfold JtG;have z : ∀k:Nat,(((0:Nat):Int)+(k:Int)).toNat=k:=fun k=>by omega
 simp only [z,Ji];rw [Jc (show 0≤(i:Int)∧(i:Int)<(n:Int) by omega),Jc (show i<xs.length by omega),Jc (show 0≤(0:Int)∧(0:Int)<(((xs.getD i []).length:Nat):Int) by omega)];rw [Jc (show 0≤(j:Int)∧(j:Int)<(n:Int) by omega),Jc (show j<xs.length by omega),Jc (show 0≤(0:Int)∧(0:Int)<(((xs.getD j []).length:Nat):Int) by omega)]
 simp only [Jk,JtE,Jb];rw [JgQ];simp only [Jb];rw [JpH];rfl
def sw (i j:Nat) (xs:LL):LL:=(xs.set i (xs.getD j [])).set j (xs.getD i [])
theorem Jif (n:Nat) (i j:Nat) (xs:LL) (hi:i<n) (hj:j<n) (hn:n≤xs.length) :
  JsG (n:Nat) (i:Nat) (j:Nat) xs=some ((),((sw i j xs,()),()),()):=by
 unfold JsG;have z : ∀k:Nat,(((0:Nat):Int)+(k:Int)).toNat=k:=fun k=>by omega
 simp only [z,Ji];rw [Jc (show 0≤(i:Int)∧(i:Int)<(n:Int) by omega),Jc (show i<xs.length by omega)];rw [Jc (show 0≤(j:Int)∧(j:Int)<(n:Int) by omega),Jc (show j<xs.length by omega),Jc (show j<(xs.set i (xs.getD j [])).length by rw [JZ];omega)]
 rfl
theorem Jgd (i j:Nat) (xs:LL):(sw i j xs).length=xs.length:=by simp [sw]
theorem setD {α:Type} {xs:List α} {n k:Nat} {r d:α} (h:n<xs.length):(xs.set n r).getD k d=if k=n then r else xs.getD k d:=by
 rw [Jo,List.getElem?_set];by_cases e:n=k
 ·subst e;simp [h]
 ·rw [Jd e,Jd (Ne.symm e),←List.getD_eq_getElem?_getD]
theorem JiB {i j:Nat} {xs:LL} (hi:i<xs.length) (hj:j<xs.length) (k:Nat) :
  (sw i j xs).getD k []=if k=j then xs.getD i [] else if k=i then xs.getD j [] else xs.getD k []:=by
 unfold sw;rw [setD (by rw [JZ];exact hj),setD hi]
theorem Qo {α:Type} {xs:List α} {k:Nat} (h:k<xs.length) (d:α):xs.getD k d=xs[k]:=by
 rw [Jo,Jj h];rfl
theorem JtT {i j:Nat} {xs:LL} (hi:i<xs.length) (hj:j<xs.length):(sw i j xs).Perm xs:=by
 have h:=Array.swap_perm (xs:=xs.toArray) (i:=i) (j:=j) hi hj;rw [Array.perm_iff_toList_perm] at h;have e:(xs.toArray.swap i j hi hj).toList=sw i j xs:=by
  unfold sw;rw [Qo hi,Qo hj];simp [Array.swap_def]
 rw [e] at h;simpa using h
theorem Jkd {n i j:Nat} {xs:LL} (hi:i<n) (hj:j<n) (hn:n≤xs.length):((sw i j xs).take n).Perm (xs.take n):=by
 have e:(sw i j xs).take n=sw i j (xs.take n):=by
  unfold sw;rw [List.take_set,List.take_set];have g : ∀k,k<n→(xs.take n).getD k []=xs.getD k []:=fun k hk=>by
   rw [Jo,List.getElem?_take_of_lt hk,←List.getD_eq_getElem?_getD]
  rw [g i hi,g j hj]
 rw [e];exact JtT (by rw [JE];omega) (by rw [JE];omega)
def Ch (p c:Nat):Prop:=c=2*p+1∨c=2*p+2
def Hf (s n:Nat) (xs:LL):Prop := ∀p c,s≤p→Ch p c→c<n→kl (hp xs c) (hp xs p)=false
def Sf (s n i:Nat) (xs:LL):Prop:=(∀p c,s≤p→p≠i→Ch p c→c<n→kl (hp xs c) (hp xs p)=false) ∧
 ∀p c,s≤p→Ch p i→Ch i c→c<n→kl (hp xs c) (hp xs p)=false
theorem JhD {a b c:Pl} (h:kl b a=false) (h2:kl c b=false):kl c a=false:=by
 rw [JiY] at *;omega
theorem Juu {i j:Nat} {xs:LL} (hi:i<xs.length) (hj:j<xs.length) (k:Nat) :
  hp (sw i j xs) k=if k=j then hp xs i else if k=i then hp xs j else hp xs k:=by
 unfold hp;rw [JiB hi hj];split
 ·rfl
 split <;> rfl
theorem Sf.done {s n i:Nat} {xs:LL} (h:Sf s n i xs) (hc : ∀c,Ch i c→c<n→kl (hp xs c) (hp xs i)=false):Hf s n xs:=by
 intro p c hp1 hch hcn;by_cases e:p=i
 ·subst e;exact hc c hch hcn
 ·exact h.1 p c hp1 e hch hcn
theorem Sf.down {s n i j : Nat} {xs : LL} (h : Sf s n i xs) (hn : n ≤ xs.length) (hj : j < n) (hij : Ch i j) (hl : kl (hp xs j) (hp xs i) = true)
  (hm : ∀c,Ch i c→c<n→kl (hp xs c) (hp xs j)=false) (hs:s≤i):Sf s n j (sw i j xs):=by
 have hi:i<j:=by unfold Ch at hij;omega
 have g:=Juu (i:=i) (j:=j) (xs:=xs) (by omega) (by omega);refine ⟨fun p c h1 h2 h3 h4 => ?_,fun p c h1 h2 h3 h4 => ?_⟩
 ·have hpc:p<c:=by unfold Ch at h3;omega
  rw [g c,g p,Jd h2];by_cases e:p=i
  ·subst e;rw [Jf rfl];by_cases e2:c=j
   ·rw [Jf e2];exact Jfk hl
   ·rw [Jd e2,Jd (by omega)];exact hm c h3 h4
  ·rw [Jd e];by_cases e2:c=j
   ·exfalso;subst e2;unfold Ch at h3 hij;omega
   ·rw [Jd e2];by_cases e3:c=i
    ·subst e3;rw [Jf rfl];exact h.2 p j h1 h3 hij hj
    ·rw [Jd e3];exact h.1 p c h1 e h3 h4
 ·have e:p=i:=by unfold Ch at h2 hij;omega
  subst e;have hpc:j<c:=by unfold Ch at h3;omega
  rw [g c,g p,Jd (by omega),Jd (by omega),Jd (by omega),Jf rfl];exact h.1 j c (by omega) (by omega) h3 h4
theorem wz {n:Int} (h0 : -4611686018427387904≤n) (h1:n≤4611686018427387904):IntKind.wrap .i64 n=n:=w64 (by omega) (by omega)
structure JgF (s n' n i:Nat) (xs:LL) (i':Nat) (xs':LL):Prop where
 le:i≤i'
 len:xs'.length=xs.length
 same : ∀k,n'≤k→xs'.getD k []=xs.getD k []
 perm : ∀m,n'≤m→m≤n→(xs'.take m).Perm (xs.take m)
 ne : ∀k,k<n→xs'.getD k [] ≠ []
 heap:s≤i→Sf s n' i xs→Hf s n' xs'
theorem Jsw (i0 : Int) (n' n : Nat) (hnn : n' ≤ n) (hb : n ≤ 1000000) : ∀ (d i : Nat) (xs : LL), n' ≤ i + d → i ≤ n → n ≤ xs.length → (∀ k, k < n → xs.getD k [] ≠ []) →
  ∃(i':Nat) (xs':LL),JgL i0 (n':Nat) (i:Nat) (n:Nat) xs=some ((((i':Nat):Int),()),((((n:Nat):Int),()),(xs',()),()),()) ∧ ∀s,JgF s n' n i xs i' xs':=by
 intro d;induction d with
 | zero=>
  intro i xs hd hin hlen hne;refine ⟨i,xs, ?_,fun s=>⟨Je _,rfl,fun _ _=>rfl,fun _ _ _ => .refl _,hne,fun _ h=>h.done fun c hc hcn=>by unfold Ch at hc;omega⟩⟩
  rw [Jjy];unfold Jjp;rw [wz (n:=2*(i:Int)) (by omega) (by omega),wz (n:=2*(i:Int)+1) (by omega) (by omega),Jc (show 2*(i:Int)+1≥(n':Int) by omega)];simp only [Jk,Jb,Sum.elim_inr,Ji]
 | succ d ih =>
  intro i xs hd hin hlen hne;rw [Jjy];unfold Jjp;rw [wz (n:=2*(i:Int)) (by omega) (by omega),wz (n:=2*(i:Int)+1) (by omega) (by omega),wz (n:=2*(i:Int)+1+1) (by omega) (by omega)];by_cases h1:n'≤2*i+1
  ·rw [Jc (show 2*(i:Int)+1≥(n':Int) by omega)];refine ⟨i,xs, ?_,fun s=>⟨Je _,rfl,fun _ _=>rfl,fun _ _ _ => .refl _,hne,fun _ h=>h.done fun c hc hcn=>by unfold Ch at hc;omega⟩⟩
   simp only [Jk,Jb,Sum.elim_inr,Ji]
  ·rw [Js (show ¬ 2 * (i : Int) + 1 ≥ (n' : Int) by omega), Js (show ¬ 2 * (i : Int) + 1 < 0 by omega)];simp only [Jl, Ji];rw [show (2 * (i : Int) + 1 + 1) = ((2 * i + 2 : Nat) : Int) by omega, show (2 * (i : Int) + 1) = ((2 * i + 1 : Nat) : Int) by omega];have stop : ∀ j, Ch i j → (∀ c, Ch i c → c < n' → kl (hp xs c) (hp xs j) = false) → kl (hp xs j) (hp xs i) = false →
     ∀s,JgF s n' n i xs i xs:=fun j hj hm hk s=>
    ⟨Je _,rfl,fun _ _=>rfl,fun _ _ _ => .refl _,hne,fun _ h=>h.done fun c hc hcn=>JhD hk (hm c hc hcn)⟩
   have go : ∀j,j<n'→Ch i j→(∀c,Ch i c→c<n'→kl (hp xs c) (hp xs j)=false)→kl (hp xs j) (hp xs i)=true →
     ∃(i':Nat) (xs':LL),JgL i0 (n':Nat) (j:Nat) (n:Nat) (sw i j xs)=some ((((i':Nat):Int),()),((((n:Nat):Int),()),(xs',()),()),()) ∧ ∀s,JgF s n' n i xs i' xs':=by
    intro j hj hch hm hk;have hij:i<j:=by unfold Ch at hch;omega
    have hne' : ∀k,k<n→(sw i j xs).getD k [] ≠ []:=by
     intro k hk;rw [JiB (by omega) (by omega)];split
     ·exact hne i (by omega)
     split
     ·exact hne j (by omega)
     ·exact hne k hk
    obtain ⟨i',xs',e,hs⟩:=ih j (sw i j xs) (by omega) (by omega) (by rw [Jgd];exact hlen) hne'
    refine ⟨i',xs',e,fun s => ?_⟩;have q:=hs s;refine ⟨by have:=q.le;omega,by rw [q.len,Jgd],fun k hk' => ?_,fun m hm1 hm2=>(q.perm m hm1 hm2).trans (Jkd (by omega) (by omega) (by omega)),q.ne,fun hsi h=>q.heap (by omega) (h.down (by omega) hj hch hk hm hsi)⟩
    rw [q.same k hk',JiB (by omega) (by omega),Jd (by omega),Jd (by omega)]
   have irr : ∀a:Pl,kl a a=false:=fun a=>by rw [JiY];omega
   have h2i:2*i+1<n':=by omega
   by_cases h2:2*i+2<n'
   ·rw [Jc (show ((2*i+2:Nat):Int)<(n':Int) by omega)];simp only [Jk];rw [Jig n (2*i+2) (2*i+1) xs (by omega) (by omega) hlen hne];simp only [Jb];cases hc:kl (hp xs (2*i+2)) (hp xs (2*i+1)) with
    | true=>
     simp only [Jk];have hm : ∀c,Ch i c→c<n'→kl (hp xs c) (hp xs (2*i+2))=false:=by
      intro c hch _;rcases hch with rfl | rfl
      ·exact Jfk hc
      ·exact irr _
     rw [Jig n (2*i+2) i xs (by omega) (by omega) hlen hne];simp only [Jb];cases hk:kl (hp xs (2*i+2)) (hp xs i) with
     | false=>
      simp only [Bool.not_false,Jk,Jb,Sum.elim_inr];exact ⟨i,xs,rfl,stop _ (.inr rfl) hm hk⟩
     | true=>
      simp only [Bool.not_true,Jl];rw [Jif n i (2*i+2) xs (by omega) (by omega) hlen];simp only [Jb,Sum.elim_inl];exact go _ h2 (.inr rfl) hm hk
    | false=>
     simp only [Jl];have hm : ∀c,Ch i c→c<n'→kl (hp xs c) (hp xs (2*i+1))=false:=by
      intro c hch _;rcases hch with rfl | rfl
      ·exact irr _
      ·exact hc
     rw [Jig n (2*i+1) i xs (by omega) (by omega) hlen hne];simp only [Jb];cases hk:kl (hp xs (2*i+1)) (hp xs i) with
     | false=>
      simp only [Bool.not_false,Jk,Jb,Sum.elim_inr];exact ⟨i,xs,rfl,stop _ (.inl rfl) hm hk⟩
     | true=>
      simp only [Bool.not_true,Jl];rw [Jif n i (2*i+1) xs (by omega) (by omega) hlen];simp only [Jb,Sum.elim_inl];exact go _ h2i (.inl rfl) hm hk
   ·rw [Js (show ¬((2*i+2:Nat):Int)<(n':Int) by omega)];simp only [Jl];have hm : ∀c,Ch i c→c<n'→kl (hp xs c) (hp xs (2*i+1))=false:=by
     intro c hch hcn;rcases hch with rfl | rfl
     ·exact irr _
     ·omega
    rw [Jig n (2*i+1) i xs (by omega) (by omega) hlen hne];simp only [Jb];cases hk:kl (hp xs (2*i+1)) (hp xs i) with
    | false=>
     simp only [Bool.not_false,Jk,Jb,Sum.elim_inr];exact ⟨i,xs,rfl,stop _ (.inl rfl) hm hk⟩
    | true=>
     simp only [Bool.not_true,Jl];rw [Jif n i (2*i+1) xs (by omega) (by omega) hlen];simp only [Jb,Sum.elim_inl];exact go _ h2i (.inl rfl) hm hk
end Go.IM.V
namespace Go.IM.V
open Go Go.IM Go.Proofs
def Er (a b:DEv):Prop:=kl (pl a) (pl b)=true
theorem Er.trans {a b c:DEv} (h:Er a b) (h2:Er b c):Er a c:=by unfold Er at *;rw [Jdg] at *;omega
structure Cur (n:Nat) (xs:LL) (ys:List DEv):Prop where
 nb:n≤1000000
 len:n≤xs.length
 ne : ∀k,k<n→xs.getD k [] ≠ []
 heap:Hf 0 n xs
 srt : ∀q,q∈xs.take n→q.Pairwise Er
 ysrt:ys.Pairwise Er
 perm:((xs.take n).flatten).Perm ys
theorem Hf.root {n:Nat} {xs:LL} (h:Hf 0 n xs) : ∀k,k<n→kl (hp xs k) (hp xs 0)=false:=by
 intro k;induction k using Nat.strongRecOn with
 | ind k ih=>
  intro hk;by_cases e:k=0
  ·subst e;rw [JiY];omega
  ·have h1:=ih ((k - 1) / 2) (by omega) (by omega);have h2:=h ((k - 1) / 2) k (Nat.zero_le _) (by unfold Ch;omega) hk
   exact JhD h1 h2
theorem Jlj (n:Nat) (xs:LL):F158 (n:Nat) xs=some ((((n:Nat):Int),()),((xs,()),()),()):=rfl
theorem Jlk (n' n i:Nat) (xs:LL) (hnn:n'≤n) (hb:n≤1000000) (hi:i≤n) (hl:n≤xs.length) (hne : ∀k,k<n→xs.getD k [] ≠ []) :
  ∃(i':Nat) (xs':LL),JtH (i:Nat) (n':Nat) (n:Nat) xs=some ((decide ((i':Int) > (i:Int)),()),((((n:Nat):Int),()),(xs',()),()),()) ∧ ∀s,JgF s n' n i xs i' xs':=by
 obtain ⟨i',xs',h,hs⟩:=Jsw (i:Nat) n' n hnn hb n' i xs (by omega) hi hl hne;refine ⟨i',xs', ?_,hs⟩;unfold JtH;rw [Ji,h];simp only [Jb,Ji]
theorem F141_0 (n:Nat) (xs:LL):F141 0 (n:Nat) xs=some ((),((((n:Nat):Int),()),(xs,()),()),()):=by
 unfold F141;rw [Ji,JqB];unfold Jmd;rw [show (IntKind.wrap .i64 (((IntKind.wrap .i64 ((0:Int) - 1)):Int).tdiv 2) == 0)=true from rfl];simp only [Jk,Jb,Sum.elim_inr,Ji]
theorem JvB (n:Nat) (xs:LL) (hb:n≤1000000) (hl:n≤xs.length) (hne : ∀k,k<n→xs.getD k [] ≠ []) :
  ∃(i':Nat) (xs':LL),F137 0 (n:Nat) xs=some ((),((((n:Nat):Int),()),(xs',()),()),())∧JgF 0 n n 0 xs i' xs':=by
 obtain ⟨i',xs',h,hs⟩:=Jlk n n 0 xs (Je _) hb (Nat.zero_le _) hl hne;refine ⟨i',xs', ?_,hs 0⟩;unfold F137;rw [Ji,Jlj];simp only [Jb];rw [show JtH 0 (n:Nat) (n:Nat) xs=_ from h];simp only [Jb,Ji];rw [F141_0];simp only [Jb,Ji];cases decide ((i':Int) > ((0:Nat):Int)) <;> rfl
theorem JvA (n:Nat) (xs:LL) (h0:0<n) (hb:n≤1000000) (hl:n≤xs.length) (hne : ∀k,k<n→xs.getD k [] ≠ []) :
  ∃(i':Nat) (xs':LL),F138 (n:Nat) xs=some (((),()),((((n - 1:Nat):Int),()),(xs',()),()),())∧JgF 0 (n - 1) n 0 (sw 0 (n - 1) xs) i' xs':=by
 have hne' : ∀k,k<n→(sw 0 (n - 1) xs).getD k [] ≠ []:=by
  intro k hk;rw [JiB (by omega) (by omega)];split
  ·exact hne 0 (by omega)
  split
  ·exact hne (n - 1) (by omega)
  ·exact hne k hk
 obtain ⟨i',xs',h,hs⟩:=Jlk (n - 1) n 0 (sw 0 (n - 1) xs) (by omega) hb (Nat.zero_le _) (by rw [Jgd];exact hl) hne'
 refine ⟨i',xs', ?_,hs 0⟩;have q:=hs 0;unfold F138;rw [Ji,Jlj];simp only [Jb];rw [wz (n:=(n:Int) - 1) (by omega) (by omega),show ((n:Int) - 1)=((n - 1:Nat):Int) by omega];rw [show JsG (n:Nat) 0 ((n - 1:Nat):Int) xs=_ from Jif n 0 (n - 1) xs h0 (by omega) hl];simp only [Jb];rw [show JtH 0 ((n - 1:Nat):Int) (n:Nat) (sw 0 (n - 1) xs)=_ from h]
 simp only [Jb,Ji];have e:F161 (n:Nat) xs'=some (((),()),((((n - 1:Nat):Int),()),(xs',()),()),()):=by
  unfold F161;have hw:IntKind.wrap .i64 ((n:Int) - 1)=((n - 1:Nat):Int):=by rw [wz (by omega) (by omega)];omega
  rw [Ji,hw];rw [Jc (show 0≤((n - 1:Nat):Int)∧((n - 1:Nat):Int)<(n:Int) by omega)];rw [Jc (show (((0:Nat):Int)+((n - 1:Nat):Int)).toNat<xs'.length by rw [q.len,Jgd];omega)]
  rw [Jc (show 0≤((n - 1:Nat):Int)∧((n - 1:Nat):Int)≤(n:Int) by omega)];simp only [Jk,Ji,Nat.sub_zero]
 rw [e];simp only [Jb,Ji]
theorem Jsx (n:Nat) (hb:n≤1000000) : ∀(m:Nat) (xs:LL),2*m≤n→n≤xs.length→(∀k,k<n→xs.getD k [] ≠ [])→Hf m n xs →
  ∃xs':LL,JjA (n:Nat) ((m:Int) - 1) (n:Nat) xs=some ((),((((n:Nat):Int),()),(xs',()),()),())∧xs'.length=xs.length∧(xs'.take n).Perm (xs.take n)∧(∀k,k<n→xs'.getD k [] ≠ [])∧Hf 0 n xs':=by
 intro m;induction m with
 | zero=>
  intro xs _ hl hne h;refine ⟨xs, ?_,rfl,.refl _,hne,h⟩;rw [Jjz];unfold Jjq;rw [Js (by omega)];simp only [Jl,Jb,Sum.elim_inr,Ji]
 | succ m ih=>
  intro xs hm hl hne h;rw [Jjz];unfold Jjq;rw [Jc (by omega),Ji,show (((m+1:Nat):Int) - 1)=(m:Int) by omega];simp only [Jk];obtain ⟨i',xs',e,hs⟩:=Jlk n n m xs (Je _) hb (by omega) hl hne;have q:=hs m;rw [e];simp only [Jb,Sum.elim_inl,Ji];rw [wz (n:=(m:Int) - 1) (by omega) (by omega)]
  have hf:=q.heap (Je _) ⟨fun p c h1 h2 h3 h4=>h p c (by omega) h3 h4,fun p c h1 h2 h3 h4=>by unfold Ch at h2;omega⟩
  obtain ⟨xs2,e2,l2,p2,n2,h2⟩:=ih xs' (by omega) (by rw [q.len];exact hl) q.ne hf
  exact ⟨xs2,e2,by rw [l2,q.len],p2.trans (q.perm n (Je _) (Je _)),n2,h2⟩
theorem JvC (n:Nat) (xs:LL) (hb:n≤1000000) (hl:n≤xs.length) (hne : ∀k,k<n→xs.getD k [] ≠ []) :
  ∃xs':LL,F136 (n:Nat) xs=some ((),((((n:Nat):Int),()),(xs',()),()),())∧xs'.length=xs.length∧(xs'.take n).Perm (xs.take n)∧(∀k,k<n→xs'.getD k [] ≠ [])∧Hf 0 n xs':=by
 obtain ⟨xs',e,r⟩:=Jsx n hb (n / 2) xs (by omega) hl hne (fun p c h1 h2 h3=>by unfold Ch at h2;omega)
 refine ⟨xs', ?_,r⟩;unfold F136;rw [Ji,Jlj];simp only [Jb];rw [Int.tdiv_eq_ediv_of_nonneg (by omega),wz (n:=(n:Int) / 2) (by omega) (by omega),wz (n:=(n:Int) / 2 - 1) (by omega) (by omega),show ((n:Int) / 2 - 1)=(((n / 2:Nat):Int) - 1) by omega,e];simp only [Jb,Ji]
theorem Jsz (qs:LL) (hq:qs.length≤1000) : ∀(d k:Nat) (q:LL),k+d=qs.length→q.length≤k →
  JgN qs (qs.length:Nat) (k:Nat) q=some ((),(((),()),((),()),(q++(qs.drop k).filter (fun l => !l.isEmpty),()),()),()):=by
 intro d;induction d with
 | zero=>
  intro k q hk hqk;rw [JjC];unfold Jjs;rw [Js (by omega),List.drop_eq_nil_of_le (by omega)];simp only [Jl,Jb,Sum.elim_inr,List.filter_nil,List.append_nil]
 | succ d ih=>
  intro k q hk hqk;rw [JjC];unfold Jjs;have hkl:k<qs.length:=by omega
  rw [Jc (show (k:Int)<(qs.length:Int) by omega),Jc (show 0≤(k:Int)∧(k:Int)<(qs.length:Int) by omega),Ji,Qo hkl,List.drop_eq_getElem_cons hkl];simp only [Jk];rw [show IntKind.wrap .i64 ((k:Int)+1)=((k+1:Nat):Int) by rw [wz (by omega) (by omega)];rfl]
  cases hx:qs[k] with
  | nil=>
   rw [show decide (((([]:List DEv).length:Nat):Int) > 0)=false from rfl];simp only [Jl,Jb,Sum.elim_inl];rw [ih (k+1) q (by omega) (by omega)];rfl
  | cons e t=>
   rw [Jc (show ((((e::t):List DEv).length:Nat):Int) > 0 by simp only [Ju];omega),Jc (show q.length+([e::t]:LL).length<lim by have:lim=1099511627776:=rfl;simp only [Ju,JD];omega)]
   simp only [Jk,Jb,Sum.elim_inl];rw [ih (k+1) (q ++ [e::t]) (by omega) (by simp;omega)]
   simp [List.filter_cons]
theorem JvE (qs:LL) (ys:List DEv) (hq:qs.length≤1000) (hs : ∀q∈qs,q.Pairwise Er) (hy:ys.Pairwise Er) (hp:qs.flatten.Perm ys) :
  ∃(n:Nat) (xs:LL),F126 qs=some (((),()),((((n:Nat):Int),()),(xs,()),()),())∧Cur n xs ys:=by
 have hl:=Jsz qs hq qs.length 0 [] (by omega) (by simp);simp only [List.drop_zero,List.nil_append] at hl;generalize hf:qs.filter (fun l => !l.isEmpty)=zs at hl;have hzl:zs.length≤1000:=by rw [←hf];exact Jy (List.length_filter_le _ _) hq
 have hzn : ∀k,k<zs.length→zs.getD k [] ≠ []:=by
  intro k hk;rw [Qo hk];have:zs[k]∈qs.filter (fun l => !l.isEmpty):=by rw [hf];exact List.getElem_mem hk
  have:=(List.mem_filter.1 this).2
  simpa using this
 obtain ⟨xs,e,l1,p1,n1,h1⟩:=JvC zs.length zs (by omega) (Je _) hzn;refine ⟨zs.length,xs, ?_,⟨by omega,by omega,n1,h1, ?_,hy, ?_⟩⟩
 ·unfold F126;rw [show JgN qs (qs.length:Nat) 0 ([]:LL)=_ from hl];simp only [Jb];rw [e];simp only [Jb,Ji]
 ·intro q hq;have:=p1.mem_iff.1 hq
  rw [List.take_length,←hf] at this;exact hs q (List.mem_filter.1 this).1
 ·refine p1.flatten.trans ?_;rw [List.take_length,←hf,List.flatten_filter_not_isEmpty];exact hp
theorem Jcu {xs:LL} {n:Nat} {y:DEv} {t:List DEv} (h:0<n) (hl:n≤xs.length) (e:xs.getD 0 []=y::t):xs.take n=(y::t)::(xs.drop 1).take (n - 1):=by
 cases xs with
 | nil=>simp at hl;omega
 | cons x xs=>
  obtain ⟨m,rfl⟩ : ∃m,n=m+1:=⟨n - 1,by omega⟩;simp only [List.getD_cons_zero] at e;subst e;simp
theorem Cur.root {n : Nat} {xs : LL} {y : DEv} {ys : List DEv} (h : Cur n xs (y :: ys)) : 0 < n ∧ ∃ t, xs.getD 0 [] = y :: t := by
 have hy:y∈(xs.take n).flatten:=h.perm.mem_iff.2 (List.mem_cons_self ..);have hn:0<n:=by
  rcases Nat.eq_zero_or_pos n with h0 | h0
  ·rw [h0] at hy;simp at hy
  ·exact h0
 refine ⟨hn, ?_⟩;have h0:=h.ne 0 hn;cases hx:xs.getD 0 [] with
 | nil=>exact absurd hx h0
 | cons z t =>
  refine ⟨t, ?_⟩;have hz:hp xs 0=pl z:=by unfold hp;rw [hx];rfl
  have hmin : ∀e∈(xs.take n).flatten,kl (pl e) (pl z)=false:=by
   intro e he;obtain ⟨q,hq,he⟩:=List.mem_flatten.1 he;obtain ⟨k,hk,rfl⟩:=List.getElem_of_mem hq;have hkn:k<n:=by rw [JE] at hk;omega
   have hr:=h.heap.root k hkn;rw [hz] at hr;have hkx:(xs.take n)[k]=xs.getD k []:=by rw [Qo (by have:=h.len;omega),List.getElem_take]
   have hs:=h.srt _ (List.getElem_mem hk);rw [hkx] at he hs;unfold hp at hr;cases hq:xs.getD k [] with
   | nil=>rw [hq] at he;cases he
   | cons a l=>
    rw [hq] at he hs hr;rcases JJ.1 he with rfl | he
    ·exact hr
    ·have:=List.rel_of_pairwise_cons hs he
     exact JhD hr (Jfk this)
  have hzm:z∈y::ys:=h.perm.mem_iff.1 (by rw [Jcu hn h.len hx];simp)
  rcases JJ.1 hzm with rfl | hzy
  ·rfl
  ·have:=List.rel_of_pairwise_cons h.ysrt hzy
   have h2:=hmin y hy;unfold Er at this;rw [h2] at this;cases this
theorem Cur.nil {n:Nat} {xs:LL} (h:Cur n xs []):n=0:=by
 rcases Nat.eq_zero_or_pos n with h0 | h0
 ·exact h0
 ·exfalso
  have hn:=h.ne 0 h0;have hp:=h.perm.eq_nil;cases hx:xs.getD 0 [] with
  | nil=>exact hn hx
  | cons z t=>rw [Jcu h0 h.len hx] at hp;simp at hp
theorem JsH {n:Nat} {xs:LL} (h:Cur n xs []):F128 (n:Nat) xs=some ((dv0,false,()),((((n:Nat):Int),()),(xs,()),()),()):=by
 rw [h.nil];rfl
theorem JjH {n : Nat} {xs : LL} {y : DEv} {ys : List DEv} (h : Cur n xs (y :: ys)) :
  ∃(n':Nat) (xs':LL),F128 (n:Nat) xs=some ((y,true,()),((((n':Nat):Int),()),(xs',()),()),())∧Cur n' xs' ys:=by
 obtain ⟨hn,t,ht⟩:=h.root;have hnb:=h.nb;have hl:=h.len;have hyy:=(List.pairwise_cons.1 h.ysrt).2;unfold F128;rw [Ji];rw [show (((n:Nat):Int) == 0)=false from beq_eq_false_iff_ne.2 (by omega)];have hz:(((0:Nat):Int)+0).toNat=0:=rfl;have hz0:(0:Int).toNat=0:=rfl;have hz1:(1:Int).toNat=1:=rfl;simp only [hz,hz0,hz1,ht,Jl]
 rw [Jc (show 0≤(0:Int)∧(0:Int)<(n:Int) by omega),Jc (show 0<xs.length by omega),Jc (show 0≤(0:Int)∧(0:Int)<(((y::t).length:Nat):Int) by simp only [Ju];omega),Jc (show 0≤(1:Int)∧(1:Int)≤(((y::t).length:Nat):Int) by simp only [Ju];omega)]
 simp only [Jk,List.drop_succ_cons,List.drop_zero];have hsq:=h.srt _ (by rw [Jcu hn hl ht];exact List.mem_cons_self ..)
 have hst:=(List.pairwise_cons.1 hsq).2;by_cases htn:t = []
 ·subst htn;rw [show decide (((([]:List DEv).length:Nat):Int) > 0)=false from rfl];simp only [Jl];obtain ⟨i',xs',e,q⟩:=JvA n xs hn hnb hl h.ne;rw [e];simp only [Jb,Ji];refine ⟨n - 1,xs',rfl,by omega,by rw [q.len,Jgd];omega,fun k hk=>q.ne k (by omega),q.heap (Je _) ?_, ?_,hyy, ?_⟩
  ·refine ⟨fun p c h1 h2 h3 h4 => ?_,fun p c h1 h2 h3 h4=>by unfold Ch at h2;omega⟩
   have hpc:p<c:=by unfold Ch at h3;omega
   rw [Juu (by omega) (by omega),Juu (by omega) (by omega),Jd (by omega),Jd (by omega),Jd (by omega),Jd (by omega)];exact h.heap p c h1 h3 (by omega)
  ·intro r hr;have h1:=(q.perm (n - 1) (Je _) (by omega)).mem_iff.1 hr;have h2:r∈(sw 0 (n - 1) xs).take n:=(List.take_subset_take_left _ (by omega)) h1;exact h.srt r ((Jkd (by omega) (by omega) hl).mem_iff.1 h2)
  ·have h1:=(q.perm (n - 1) (Je _) (by omega)).flatten;refine h1.trans ?_;have h2:=(Jkd (i:=0) (j:=n - 1) hn (by omega) hl).flatten;have h3:(sw 0 (n - 1) xs).take n=(sw 0 (n - 1) xs).take (n - 1) ++ [[y]]:=by
    have hlt:n - 1<(sw 0 (n - 1) xs).length:=by rw [Jgd];omega
    have:=List.take_append_getElem hlt
    rw [show n - 1+1=n by omega] at this;rw [←this,←Qo hlt [],JiB (by omega) (by omega),Jf rfl,ht]
   rw [h3,List.flatten_append] at h2;have h4:=h2.trans h.perm;simp only [List.flatten_cons,List.flatten_nil,List.append_nil] at h4;have h5:(y::((sw 0 (n - 1) xs).take (n - 1)).flatten).Perm (y::ys):=(List.perm_append_comm (l₁ := [y])).trans h4;exact h5.cons_inv
 ·have htl:=JR.2 htn;rw [Jc (show ((t.length:Nat):Int) > 0 by omega)];simp only [Jk];have g : ∀k,(xs.set 0 t).getD k []=if k=0 then t else xs.getD k []:=fun k=>setD (by omega)
  obtain ⟨i',xs',e,q⟩:=JvB n (xs.set 0 t) hnb (by rw [JZ];exact hl) (fun k hk=>by rw [g];split;exact htn;exact h.ne k hk)
  rw [e];simp only [Jb,Ji];have hset:(xs.set 0 t).take n=t::(xs.drop 1).take (n - 1):=by
   have:=Jcu hn hl ht
   rw [List.take_set,this];rfl
  have hgp : ∀k,k≠0→hp (xs.set 0 t) k=hp xs k:=fun k hk=>by unfold hp;rw [g,Jd hk]
  refine ⟨n,xs',rfl,hnb,by rw [q.len,JZ];exact hl,q.ne,q.heap (Je _) ?_, ?_,hyy, ?_⟩
  ·refine ⟨fun p c h1 h2 h3 h4 => ?_,fun p c h1 h2 h3 h4=>by unfold Ch at h2;omega⟩
   have hpc:p<c:=by unfold Ch at h3;omega
   rw [hgp c (by omega),hgp p h2];exact h.heap p c h1 h3 h4
  ·intro r hr;have h1:=(q.perm n (Je _) (Je _)).mem_iff.1 hr;rw [hset] at h1;rcases JJ.1 h1 with rfl | h1
   ·exact hst
   ·exact h.srt r (by rw [Jcu hn hl ht];exact J5 _ h1)
  ·have h1:=(q.perm n (Je _) (Je _)).flatten;rw [hset] at h1;refine h1.trans ?_;have h2:=h.perm;rw [Jcu hn hl ht] at h2;simp only [List.flatten_cons,List.cons_append] at h2 ⊢;exact h2.cons_inv
theorem Jsy (s:Pl) : ∀(ys:List DEv) (n:Nat) (xs:LL) (c:Nat),Cur n xs ys→c+ys.length≤1000000 →
  ∃(n':Nat) (xs':LL),JgM (c:Nat) (n:Nat) s.1 s.2.1 xs=some ((((c+(ys.takeWhile fun e => !kl s (pl e)).length:Nat):Int),()),((((n':Nat):Int),()),(s.1,s.2.1,()),(xs',()),()),())∧Cur n' xs' (ys.dropWhile fun e => !kl s (pl e)):=by
 intro ys;induction ys with
 | nil=>
  intro n xs c h hc;refine ⟨n,xs, ?_,h⟩;have h0:=h.nil;subst h0;rw [JjB];unfold Jjr;rfl
 | cons y ys ih=>
  intro n xs c h hc;obtain ⟨hn,t,ht⟩:=h.root;have hl:=h.len;rw [JjB];unfold Jjr;have hz:(((0:Nat):Int)+0).toNat=0:=rfl;have hz0:(0:Int).toNat=0:=rfl;simp only [hz,hz0,ht,Ji];rw [Jc (show ((n:Nat):Int) > 0 by omega),Jc (show 0≤(0:Int)∧(0:Int)<(n:Int) by omega),Jc (show 0<xs.length by omega),Jc (show 0≤(0:Int)∧(0:Int)<(((y::t).length:Nat):Int) by simp only [Ju];omega)]
  simp only [Jk,JtE,Jb,JgQ];rw [JpI];have hk:kl (s.1,(s.2.1,())) ((pl y).1,((pl y).2.1,()))=kl s (pl y):=rfl;have hk2:kl (s.1,(s.2.1,())) ((pl (y.1,(y.2.1,(y.2.2.1,(y.2.2.2.1,(y.2.2.2.2.1,(y.2.2.2.2.2.1,(y.2.2.2.2.2.2.1,(y.2.2.2.2.2.2.2.1,()))))))))).1,((pl (y.1,(y.2.1,(y.2.2.1,(y.2.2.2.1,(y.2.2.2.2.1,(y.2.2.2.2.2.1,(y.2.2.2.2.2.2.1,(y.2.2.2.2.2.2.2.1,()))))))))).2.1,()))=kl s (pl y):=rfl
  simp only [List.getD_cons_zero];rw [hk2];cases hq:kl s (pl y) with
  | true=>
   simp only [Bool.not_true,Jl,Jb,Sum.elim_inr];refine ⟨n,xs, ?_, ?_⟩
   ·simp [List.takeWhile_cons,hq]
   ·simp [List.dropWhile_cons,hq];exact h
  | false=>
   simp only [Bool.not_false,Jk];obtain ⟨n',xs',e,h'⟩:=JjH h;rw [e];simp only [Jb,Sum.elim_inl,Ji];simp only [Ju] at hc;rw [show IntKind.wrap .i64 ((c:Int)+1)=((c+1:Nat):Int) by rw [wz (by omega) (by omega)];rfl]
   obtain ⟨n2,xs2,e2,h2⟩:=ih n' xs' (c+1) h' (by omega);rw [e2];refine ⟨n2,xs2, ?_, ?_⟩
   ·simp [List.takeWhile_cons,hq];omega
   ·simp [List.dropWhile_cons,hq];exact h2
theorem JvD {ys:List DEv} {n:Nat} {xs:LL} (s:Pl) (h:Cur n xs ys) (hy:ys.length≤1000000) :
  ∃(n':Nat) (xs':LL),F127 s (n:Nat) xs=some (((((ys.takeWhile fun e => !kl s (pl e)).length:Nat):Int),()),((((n':Nat):Int),()),(xs',()),()),())∧Cur n' xs' (ys.dropWhile fun e => !kl s (pl e)):=by
 obtain ⟨n',xs',e,h'⟩:=Jsy s ys n xs 0 h (by omega);refine ⟨n',xs', ?_,h'⟩;unfold F127;rw [Ji,show JgM 0 (n:Nat) s.1 s.2.1 xs=_ from e];simp only [Jb,Ji,JG]
end Go.IM.V
namespace Go.IM.V
open Go Go.IM Go.Proofs
theorem JbG (x:DEv):(x.1,(x.2.1,(x.2.2.1,(x.2.2.2.1,(x.2.2.2.2.1,(x.2.2.2.2.2.1,(x.2.2.2.2.2.2.1,(x.2.2.2.2.2.2.2.1,()))))))))=x:=rfl
theorem JoO (x:Pl):(x.1,(x.2.1,()))=x:=rfl
def Df (a b:DEv):Prop:=Er a b∨Er b a
theorem Jdf:lim=1099511627776:=rfl
theorem Jqy (a q:List DEv) (k:Nat) (e:DEv) (hk:k<a.length) (he:a.getD k dv0=e) (hl:q.length≤1000000) : ∀i:Nat,i≤q.length →
  ∃i':Nat,i'≤i∧Jqz a q (k:Nat) (i:Nat)=some ((((i':Nat):Int),()),(),())∧(∀j,i'≤j→j<i→Er e (q.getD j dv0))∧(0<i'→kl (pl e) (pl (q.getD (i' - 1) dv0))=false):=by
 intro i;induction i with
 | zero=>
  intro _;refine ⟨0,Je _, ?_,fun j h1 h2=>by omega,fun h=>by omega⟩;rw [Jmo];unfold Jqi;rfl
 | succ i ih=>
  intro hi;rw [Jmo];unfold Jqi;have hw:IntKind.wrap .i64 (((i+1:Nat):Int) - 1)=((i:Nat):Int):=by rw [wz (by omega) (by omega)];omega
  rw [hw];rw [Jc (show ((i+1:Nat):Int) > 0 by omega),Jc (show 0≤(k:Int)∧(k:Int)<(a.length:Int) by omega),Jc (show 0≤(i:Int)∧(i:Int)<(q.length:Int) by omega)];simp only [Jk,JjG,Jb,Jmw,JbG,JoO,Ji,he];cases hq:kl (pl e) (pl (q.getD i dv0)) with
  | false=>
   simp only [Jl,Jb,Sum.elim_inr];exact ⟨i+1,Je _,rfl,fun j h1 h2=>by omega,fun _=>hq⟩
  | true=>
   simp only [Jk,Jb,Sum.elim_inl];obtain ⟨i',h1,h2,h3,h4⟩:=ih (by omega);refine ⟨i',by omega,h2,fun j j1 j2 => ?_,h4⟩;rcases JB j i with hj | hj
   ·exact h3 j j1 hj
   ·rw [show j=i by omega];exact hq
theorem ins_ok {q:List DEv} {e:DEv} {i:Nat} (hs:q.Pairwise Er) (hd : ∀x∈q,Df x e) (hi:i≤q.length) (h1 : ∀j,i≤j→j<q.length→Er e (q.getD j dv0)) (h2:0<i→kl (pl e) (pl (q.getD (i - 1) dv0))=false) :
  (q.take i ++ [e]++q.drop i).Pairwise Er∧(q.take i ++ [e]++q.drop i).Perm (e::q):=by
 have hpq:(q.take i++q.drop i).Pairwise Er:=by rw [List.take_append_drop];exact hs
 obtain ⟨pa,pb,pc⟩:=List.pairwise_append.1 hpq;have ht : ∀x∈q.take i,Er x e:=by
  intro x hx;obtain ⟨j,hj,rfl⟩:=List.getElem_of_mem hx;have hji:j<i:=by rw [JE] at hj;omega
  have hl:Er (q.getD (i - 1) dv0) e:=by
   have hm:q.getD (i - 1) dv0∈q:=by rw [Qo (by omega)];exact List.getElem_mem _
   rcases hd _ hm with h | h
   ·exact h
   ·have:=h2 (by omega);unfold Er at h;rw [this] at h;cases h
  rw [List.getElem_take];by_cases ej:j=i - 1
  ·subst ej;rw [Qo (by omega)] at hl;exact hl
  ·rw [Qo (by omega)] at hl;exact (List.pairwise_iff_getElem.1 hs j (i - 1) (by omega) (by omega) (by omega)).trans hl
 have hr : ∀x∈q.drop i,Er e x:=by
  intro x hx;obtain ⟨j,hj,rfl⟩:=List.getElem_of_mem hx;rw [JI] at hj;rw [List.getElem_drop];have:=h1 (i+j) (by omega) (by omega)
  rw [Qo (by omega)] at this;exact this
 refine ⟨?_, ?_⟩
 ·rw [List.append_assoc,List.pairwise_append];refine ⟨pa, ?_,fun x hx y hy => ?_⟩
  ·exact List.pairwise_cons.2 ⟨hr,pb⟩
  ·rcases JJ.1 hy with rfl | hy
   ·exact ht x hx
   ·exact pc x hx y hy
 ·rw [List.append_assoc];have:(q.take i++([e]++q.drop i)).Perm (e::(q.take i++q.drop i)):=by
   simpa using (List.perm_middle (l₁:=q.take i) (l₂:=q.drop i) (a:=e))
  rw [List.take_append_drop] at this;exact this
theorem JqA (a:List DEv) (hl:a.length≤100000) (hd:a.Pairwise Df) : ∀(d k:Nat) (q:List DEv),k+d=a.length→q.length=k→q.Pairwise Er→q.Perm (a.take k) →
  ∃r:List DEv,JnW a (k:Nat) q=some (((),()),(),(r,()))∧r.Pairwise Er∧r.Perm a:=by
 intro d;induction d with
 | zero=>
  intro k q hk hq hs hp;refine ⟨q, ?_,hs, ?_⟩
  ·rw [Jmp];unfold Jqj;rw [Js (by omega)];rfl
  ·rw [List.take_of_length_le (by omega)] at hp;exact hp
 | succ d ih=>
  intro k q hk hq hs hp;have hkl:k<a.length:=by omega
  obtain ⟨i,hi,e,h1,h2⟩:=Jqy a q k (a.getD k dv0) hkl rfl (by omega) q.length (Je _);have hdq : ∀x∈q,Df x (a.getD k dv0):=by
   intro x hx;have hx:=hp.mem_iff.1 hx;obtain ⟨j,hj,rfl⟩:=List.getElem_of_mem hx;rw [JE] at hj;rw [List.getElem_take,Qo hkl];exact List.pairwise_iff_getElem.1 hd j k (by omega) hkl (by omega)
  obtain ⟨p1,p2⟩:=ins_ok hs hdq hi h1 h2;rw [Jmp];unfold Jqj;rw [Jc (show (k:Int)<(a.length:Int) by omega),e];simp only [Jk,Jb,Ji,JbG];have t1:(q.take i).length=i:=by rw [JE];omega
  have t2:(q.drop i).length=q.length - i:=JI ..;rw [Jc (show 0≤(i:Int)∧(i:Int)≤(q.length:Int) by omega),Jc (show (q.take i).length<lim by rw [t1,Jdf];omega),Jc (show 0≤(k:Int)∧(k:Int)<(a.length:Int) by omega)]
  rw [Jc (show (q.take i).length + [a.getD k dv0].length<lim by rw [t1,Jdf];simp only [Ju,JD];omega),Jc (show (q.take i ++ [a.getD k dv0]).length+(q.drop i).length<lim by rw [Jz,t1,t2,Jdf];simp only [Ju,JD];omega)]
  simp only [Jk,Jb,Sum.elim_inl];rw [show IntKind.wrap .i64 ((k:Int)+1)=((k+1:Nat):Int) by rw [wz (by omega) (by omega)];rfl]
  refine ih (k+1) _ (by omega) (by rw [Jz,Jz,t1,t2];simp only [Ju,JD];omega) p1 ?_
  have h3:a.take (k+1)=a.take k ++ [a.getD k dv0]:=by rw [Qo hkl,List.take_append_getElem]
  rw [h3];refine p2.trans ((hp.cons _).trans ?_);exact (List.perm_append_comm (l₁ := [a.getD k dv0]) (l₂:=a.take k))
theorem F43_eq (a:List DEv) (hl:a.length≤100000) (hd:a.Pairwise Df) : ∃r,F43 a=some ((r,()),(),())∧r.Pairwise Er∧r.Perm a:=by
 obtain ⟨r,e,h1,h2⟩:=JqA a hl hd a.length 0 [] (by omega) rfl List.Pairwise.nil (by simp);refine ⟨r, ?_,h1,h2⟩;unfold F43;rw [show JnW a 0 ([]:List DEv)=_ from e];rfl
theorem L9_run (l:LL) (hl:l.length≤64) (hq : ∀q∈l,q.length≤60) : ∀(d k:Nat) (q:List DEv),k+d=l.length→q.length≤60*k→L9_3 l (k:Nat) q=some (((),()),(),(q++(l.drop k).flatten,())):=by
 intro d;induction d with
 | zero=>
  intro k q hk hqk;rw [Jqt];unfold T9_3;rw [Js (by omega),List.drop_eq_nil_of_le (by omega)];simp
 | succ d ih=>
  intro k q hk hqk;have hkl:k<l.length:=by omega
  have hx:=hq _ (List.getElem_mem hkl);rw [Jqt];unfold T9_3;rw [Jc (show (k:Int)<(l.length:Int) by omega),Jc (show 0≤(k:Int)∧(k:Int)<(l.length:Int) by omega),Ji,Qo hkl,Jc (show q.length+l[k].length<lim by rw [Jdf];omega)]
  simp only [Jk,Jb,Sum.elim_inl];rw [show IntKind.wrap .i64 ((k:Int)+1)=((k+1:Nat):Int) by rw [wz (by omega) (by omega)];rfl]
  rw [ih (k+1) _ (by omega) (by rw [Jz];omega),List.drop_eq_getElem_cons hkl,List.flatten_cons,List.append_assoc]
theorem F9_eq (l:LL) (hl:l.length≤64) (hq : ∀q∈l,q.length≤60) (hd:l.flatten.Pairwise Df) (hfl:l.flatten.length≤100000) : ∃r,F9 l=some ((r,()),(),())∧r.Pairwise Er∧r.Perm l.flatten:=by
 obtain ⟨r,e,h1,h2⟩:=F43_eq l.flatten hfl hd;refine ⟨r, ?_,h1,h2⟩;unfold F9;have h:=L9_run l hl hq l.length 0 [] (by omega) (by simp);simp only [List.drop_zero,List.nil_append] at h;rw [show L9_3 l 0 ([]:List DEv)=_ from h];simp only [Jb,e]
theorem JsA (m : Int) : ∀ (ys : List DEv) (n : Nat) (xs : LL) (q : List DEv), Cur n xs ys → q.length + ys.length ≤ 1000000 →
  ∃(n':Nat) (xs':LL),JjE m (n:Nat) xs q=some (((),()),((((n':Nat):Int),()),(xs',()),()),(q++ys.take (m.toNat - q.length),())):=by
 intro ys;induction ys with
 | nil=>
  intro n xs q h hl;refine ⟨n,xs, ?_⟩;rw [JjD];unfold Jjt;rw [Ji,JsH h];simp only [List.take_nil,List.append_nil,Jb];cases decide ((((q.length:Nat):Int))<m)
  ·simp only [Jl,Jb,Sum.elim_inr]
  ·simp only [Jk,Bool.not_false,Jb,Sum.elim_inr,Ji]
 | cons y ys ih=>
  intro n xs q h hl;rw [JjD];unfold Jjt;rw [Ji];simp only [Ju] at hl;by_cases hm:((q.length:Nat):Int)<m
  ·rw [Jc hm];obtain ⟨n',xs',e,h'⟩:=JjH h;rw [e];simp only [Jk,Bool.not_true,Jl,Jb,JbG,Ji];rw [Jc (show q.length + [y].length<lim by rw [Jdf];simp only [Ju,JD];omega)]
   simp only [Jk,Jb,Sum.elim_inl];obtain ⟨n2,xs2,e2⟩:=ih n' xs' (q ++ [y]) h' (by simp;omega)
   refine ⟨n2,xs2, ?_⟩;rw [e2];have:(y::ys).take (m.toNat - q.length)=y::ys.take (m.toNat - (q ++ [y]).length):=by
    rw [show m.toNat - q.length=(m.toNat - (q ++ [y]).length)+1 by simp;omega]
    rfl
   rw [this];simp
  ·rw [Js hm];refine ⟨n,xs, ?_⟩;rw [show m.toNat - q.length=0 by omega];simp only [Jl,Jb,Sum.elim_inr,List.take_zero,List.append_nil,Ji]
theorem JvF (qs:LL) (ys:List DEv) (s:Pl) (m:Int) (hq:qs.length≤1000) (hs : ∀q∈qs,q.Pairwise Er) (hy:ys.Pairwise Er) (hp:qs.flatten.Perm ys) (hl:ys.length≤100000) :
  F110 qs s m=some (((ys.dropWhile fun e => !kl s (pl e)).take m.toNat,()),(),()):=by
 obtain ⟨n,xs,e1,h1⟩:=JvE qs ys hq hs hy hp;obtain ⟨n2,xs2,e2,h2⟩:=JvD s h1 (by omega);have hdl:(ys.dropWhile fun e => !kl s (pl e)).length≤ys.length:=(List.dropWhile_sublist _).length_le;obtain ⟨n3,xs3,e3⟩:=JsA m _ n2 xs2 [] h2 (by simp;omega)
 unfold F110;rw [e1];simp only [Jb,Ji,JoO];rw [e2];simp only [Jb,Ji];rw [e3];simp
theorem F85_eq (qs:LL) (ys:List DEv) (hq:qs.length≤1000) (hs : ∀q∈qs,q.Pairwise Er) (hy:ys.Pairwise Er) (hp:qs.flatten.Perm ys) (hl:ys.length≤100000) (h0 : ∀e∈ys,0≤e.1∧0≤e.2.2.1) :
  F85 qs=some ((ys,()),(),()):=by
 unfold F85;rw [JvF qs ys _ _ hq hs hy hp hl];have hdw:(ys.dropWhile fun e => !kl (0,((-1),())) (pl e))=ys:=by
  cases ys with
  | nil=>rfl
  | cons y ys=>
   have:=h0 y (List.mem_cons_self ..)
   have hk:kl (0,((-1),())) (pl y)=true:=by rw [Jdg];unfold pl;dsimp only;omega
   rw [List.dropWhile_cons_of_neg (by rw [hk];simp)]
 rw [hdw,List.take_of_length_le (by omega)];rfl
theorem F8_eq:F8=some ((true,()),(),()):=rfl
end Go.IM.V
namespace Go.IM.V
open Go Go.IM Go.Proofs
theorem Ju7 : ∀(d:Nat) (a:Int) (q:List Int),0≤a→a<128*128 ^ d→a<18446744073709551616→q.length+d<1000000 →
  ∃(a':Int) (q':List Int),Jqu a q=some ((a',(),()),(),(q',()))∧q'.length≤q.length+d:=by
 intro d;induction d with
 | zero=>
  intro a q h0 h1 h2 hq;refine ⟨a,q, ?_,by omega⟩;rw [Jmf];unfold Jp9;rw [Js (by omega)];rfl
 | succ d ih=>
  intro a q h0 h1 h2 hq;rw [Jmf];unfold Jp9;by_cases h:a > 127
  ·rw [Jc h,Jc (by rw [Jdf];simp only [Ju,JD];omega)]
   simp only [Jk,Jb,Sum.elim_inl];rw [Int.tdiv_eq_ediv_of_nonneg h0,Jmy (n:=a / 128) (by omega) (by omega)];obtain ⟨a',q',e,hl'⟩:=ih (a / 128) (q ++ [IntKind.wrap .u8 (IntKind.wrap .u64 (128+a.tmod 128))]) (by omega) (by rw [Int.pow_succ] at h1;omega) (by omega) (by simp;omega)
   refine ⟨a',q',e, ?_⟩;simp at hl';omega
  ·rw [Js h];exact ⟨a,q,rfl,by omega⟩
theorem Jic (a:Int) (q:List Int) (h0:0≤a) (h1:a<18446744073709551616) (hq:q.length<900000) : ∃q',F92 a q=some (((),()),(),(q',()))∧q'.length≤q.length+10:=by
 obtain ⟨a',q',e,hl⟩:=Ju7 9 a q h0 (by omega) h1 (by omega);refine ⟨q' ++ [IntKind.wrap .u8 a'], ?_,by simp;omega⟩
 unfold F92;rw [Jc (by rw [Jdf];omega),e]
 simp only [Jk,Jb];rw [Jc (by rw [Jdf];simp only [Ju,JD];omega)]
 rfl
theorem JqC (a q:List Int) (h1:a.length<1000) (hq:q.length<900000) : ∃q',F93 a q=some (((),()),(),(q',()))∧q'.length≤q.length+1010:=by
 obtain ⟨q',e,hl⟩:=Jic (a.length:Int) q (by omega) (by omega) hq;refine ⟨q'++a, ?_,by simp;omega⟩
 unfold F93;rw [Jmy (by omega) (by omega),e];simp only [Jb];rw [Jc (by rw [Jdf];omega)]
 rfl
theorem Ju6 (a:Int) : ∀(d k:Nat) (q:List Int),k+d=8→q.length+d<900000 → ∃q',JnQ a (k:Nat) q=some (((),()),(),(q',()))∧q'.length≤q.length+d:=by
 intro d;induction d with
 | zero=>
  intro k q hk hq;refine ⟨q, ?_,by omega⟩;rw [Jme];unfold Jp8;rw [Js (by omega)];rfl
 | succ d ih=>
  intro k q hk hq;rw [Jme];unfold Jp8;rw [Jc (show (k:Int)<8 by omega),Jc (by rw [wz (n:=8*(k:Int)) (by omega) (by omega),wz (by omega) (by omega)];omega),Jc (by rw [Jdf];simp only [Ju,JD];omega)]
  simp only [Jk,Jb,Sum.elim_inl];rw [show IntKind.wrap .i64 ((k:Int)+1)=((k+1:Nat):Int) by rw [wz (by omega) (by omega)];rfl]
  obtain ⟨q',e,hl⟩:=ih (k+1) (q ++ [IntKind.wrap .u8 (Jf3 .u64 a (IntKind.wrap .i64 (56 - (IntKind.wrap .i64 (8*(k:Int))))))]) (by omega) (by simp;omega)
  exact ⟨q',e,by simp at hl;omega⟩
theorem Jvm (a:Int) (q:List Int) (hq:q.length<800000) : ∃q',F94 a q=some (((),()),(),(q',()))∧q'.length≤q.length+8:=by
 obtain ⟨q',e,hl⟩:=Ju6 a 8 0 q rfl (by omega);refine ⟨q', ?_,by omega⟩;unfold F94;rw [Jc (by rw [Jdf];omega),show JnQ a 0 q=_ from e]
 rfl
theorem Jvq (a:Nat) : ∃x:Int,F68 a=some ((x,()),(),()):=by
 unfold F68 F99;simp only [Jb];cases ((FloatKind.f64).format.order a a != some Ordering.eq)
 ·exact ⟨_,rfl⟩
 ·exact ⟨_,rfl⟩
theorem JgB (s:ByteArray):(XS s).length=s.size:=by unfold XS;simp
theorem Jc8 (a:List Int):(Jke a).size=a.length:=by unfold Jke;show (Array.size _)=_;simp
structure EvG (e:Ev):Prop where
 w0:0≤e.1
 w1:e.1<100
 s0:0≤e.2.1
 s1:e.2.1<1000
 t0:0≤e.2.2.1
 t1:e.2.2.1<1000
 f:EvF e
theorem JbR.srt {w:Int} {q:List Ev} {t:Int} (h:JbR w 60 q t):q.Pairwise Er:=by
 refine List.pairwise_iff_getElem.2 fun i j hi hj hij => ?_
 have:=h.rise i j _ _ (Jj hi) (Jj hj) hij
 unfold Er;rw [Jdg];exact .inl this
theorem JbR.rises {w:Int} {q:List Ev} {t:Int} (h:JbR w 60 q t):q.Pairwise (fun a b=>a.2.2.1<b.2.2.1):=
 List.pairwise_iff_getElem.2 fun i j hi hj hij=>h.rise i j _ _ (Jj hi) (Jj hj) hij
theorem JbR.mem {w:Int} {q:List Ev} {t:Int} (h:JbR w 60 q t) (hw:0≤w∧w<100) : ∀e∈q,e.1=w∧EvG e:=by
 intro e he;obtain ⟨i,hi,rfl⟩:=List.getElem_of_mem he;obtain ⟨h1,h2,h3,h4,h5⟩:=h.who i _ (Jj hi);have ht:=h.t1;have hl:=h.len;exact ⟨h1,⟨by omega,by omega,by omega,by omega,by omega,by omega,h5⟩⟩
def FdL:Nat→LL→Prop
 | _, []=>True
 | w,q::qs=>(∃t,JbR (w:Nat) 60 q t)∧FdL (w+1) qs
theorem df_of {a b:DEv} (h:a.1≠b.1):Df a b:=by
 unfold Df Er;simp only [Jdg,pl];omega
structure Fds (qs:LL):Prop where
 len:qs.length≤6
 srt : ∀q∈qs,q.Pairwise Er
 ris : ∀q∈qs,q.Pairwise (fun a b=>a.2.2.1<b.2.2.1)
 l60 : ∀q∈qs,q.length≤60
 df:qs.flatten.Pairwise Df
 ev : ∀e∈qs.flatten,EvG e
 fl:qs.flatten.length≤1000
theorem FdL.ok : ∀(qs:LL) (w:Nat),FdL w qs→w+qs.length≤100→(∀q∈qs,q.Pairwise Er)∧(∀q∈qs,q.Pairwise (fun a b=>a.2.2.1<b.2.2.1))∧(∀q∈qs,q.length≤60)∧qs.flatten.Pairwise Df∧(∀e∈qs.flatten,EvG e∧(w:Int)≤e.1)∧qs.flatten.length≤60*qs.length:=by
 intro qs;induction qs with
 | nil=>
  intro w _ _;exact ⟨fun q h=>(by cases h),fun q h=>(by cases h),fun q h=>(by cases h),List.Pairwise.nil,fun q h=>(by cases h),by simp⟩
 | cons q qs ih=>
  intro w ⟨⟨t,h⟩,hr⟩ hl;simp only [Ju] at hl;obtain ⟨i1,i2,i3,i4,i5,i6⟩:=ih (w+1) hr (by omega);have hm:=h.mem (by omega);refine ⟨fun x hx => ?_,fun x hx => ?_,fun x hx => ?_, ?_,fun e he => ?_, ?_⟩
  ·rcases JJ.1 hx with rfl | hx
   ·exact h.srt
   ·exact i1 x hx
  ·rcases JJ.1 hx with rfl | hx
   ·exact h.rises
   ·exact i2 x hx
  ·rcases JJ.1 hx with rfl | hx
   ·exact h.len
   ·exact i3 x hx
  ·rw [List.flatten_cons,List.pairwise_append];refine ⟨h.srt.imp fun hh => .inl hh,i4,fun a ha b hb=>df_of ?_⟩;have:=(hm a ha).1
   have:=(i5 b hb).2
   omega
  ·rw [List.flatten_cons,List.mem_append] at he;rcases he with he | he
   ·exact ⟨(hm e he).2,by have:=(hm e he).1;omega⟩
   ·exact ⟨(i5 e he).1,by have:=(i5 e he).2;omega⟩
  ·rw [List.flatten_cons,Jz,Ju];have:=h.len
   omega
theorem FdL.fds {qs:LL} (h:FdL 0 qs) (hl:qs.length≤6):Fds qs:=by
 obtain ⟨i1,i2,i3,i4,i5,i6⟩:=h.ok qs 0 (by omega);exact ⟨hl,i1,i2,i3,i4,fun e he=>(i5 e he).1,by omega⟩
theorem F9_fds {qs:LL} (h:Fds qs) : ∃r,F9 qs=some ((r,()),(),())∧r.Pairwise Er∧qs.flatten.Perm r∧(∀e∈r,EvG e)∧r.length≤1000:=by
 obtain ⟨r,e,h1,h2⟩:=F9_eq qs (by have:=h.len;omega) h.l60 h.df (by have:=h.fl;omega)
 exact ⟨r,e,h1,h2.symm,fun e he=>h.ev e (h2.mem_iff.1 he),by rw [h2.length_eq];exact h.fl⟩
end Go.IM.V
namespace Go.IM.V
open Go Go.IM Go.Proofs
abbrev gv (v:List Int) (k:Nat):Int:=v.getD k 0
theorem Jux {v:List Int} {k:Nat} (h:v.length≤k):gv v k=0:=by
 unfold gv;rw [Jo,J1 h];rfl
theorem Jvw (v:List Int) (k:Nat):F53 v (k:Int)=some (r1 (gv v k)):=by
 unfold F53;simp only [cif];rw [Jd (by omega)];by_cases h:v.length≤k
 ·rw [Jf (by omega),Jux h]
 ·rw [Jd (by omega),Jf (by omega),Ji]
theorem F90_eq (a:List Int) (h:a.length<2 ^ 39):F90 a=some (r1 a):=by
 unfold F90;refine Jrh ?_ (fun h0 => ?_)
 ·rw [cif,Jf (by unfold lim;simp;omega)];rfl
 ·rw [JT h0]
def JeW (a:List Int):Nat→Nat
 | 0=>0
 | n+1=>if gv a n=0 then JeW a n else n+1
theorem Jhg (a:List Int) : ∀n,JeW a n≤n:=by
 intro n;induction n with
 | zero=>exact Je _
 | succ n ih=>simp only [JeW];split <;> omega
theorem JtQ (a : List Int) : ∀ n k, JeW a n ≤ k → k < n → gv a k = 0 := by
 intro n;induction n with
 | zero=>intro k _ h;omega
 | succ n ih=>
  intro k h1 h2;simp only [JeW] at h1;split at h1
  ·rename_i h;rcases JB k n with q | q
   ·exact ih k h1 q
   ·obtain rfl:k=n:=by omega
    exact h
  ·omega
def trim (a:List Int):List Int:=a.take (JeW a a.length)
theorem Jva (a:List Int) (hn:a.length<2 ^ 39) : ∀k,k≤a.length→Jqw a (k:Nat)=some (r1 ((JeW a k:Nat):Int)):=by
 intro k;induction k with
 | zero=>
  intro _;rw [Jmi];simp only [Jqc,cif];rw [Jd (by omega)];rfl
 | succ k ih=>
  intro hk;rw [Jmi];have hw:IntKind.wrap .i64 (((k+1:Nat):Int) - 1)=(k:Int):=by rw [w64 (by omega) (by omega)];omega
  simp only [Jqc,cif];rw [hw,Jf (by omega),Jf (by omega)];simp only [Ji];by_cases h:gv a k=0
  ·have hb:(a.getD k 0 == 0)=true:=by simpa using h
   rw [hb];simp only [Jk,Jb,Sum.elim_inl];rw [ih (by omega)];simp only [JeW];rw [Jf h]
  ·have hb:(a.getD k 0 == 0)=false:=by simpa using h
   rw [hb];simp only [Jl,Jb,Sum.elim_inr,JeW];rw [Jd h]
theorem F71_eq (a:List Int) (hn:a.length<2 ^ 39):F71 a=some (r1 (trim a)):=by
 unfold F71;rw [Jva a hn a.length (Je _)];have:=Jhg a a.length
 simp only [Jb,cif];rw [Jf (by omega),Ji,F90_eq _ (by rw [JE];omega)]
 rfl
theorem Juw (a:List Int) (k:Nat):gv (trim a) k=gv a k:=by
 unfold trim;rcases JB k (JeW a a.length) with h | h
 ·unfold gv;rw [Jo,Jo,List.getElem?_take,Jf h]
 ·rw [Jux (by rw [JE];omega)]
  rcases JB k a.length with h2 | h2
  ·exact (JtQ a a.length k h h2).symm
  ·exact (Jux h2).symm
theorem JqZ (a:List Int):(trim a).length=JeW a a.length:=by
 unfold trim;rw [JE];have:=Jhg a a.length;omega
theorem JsC (v:List Int) (hl:v.length<2 ^ 39):F90j v=some (((),()),(((v,()),()),())):=by
 unfold F90j;rw [Jc (show v.length<lim by unfold lim;omega)]
 rfl
def JlG (v:List Int) (k:Nat):List Int:=v++List.replicate (k+1 - v.length) 0
theorem Jvb (k:Nat) (x:Int) (hk:k<64) : ∀(d:Nat) (v:List Int),k+1 - v.length=d→v.length≤64→Jqx (k:Int) x v=some (((),()),(((),()),(JlG v k,()),()),()):=by
 intro d;induction d with
 | zero=>
  intro v hd hv;rw [Jmj];unfold Jqd;rw [Js (by omega)];unfold JlG;rw [hd];simp
 | succ d ih=>
  intro v hd hv;rw [Jmj];unfold Jqd;rw [Jc (show ((v.length:Nat):Int)≤(k:Int) by omega),Jc (by rw [Jdf];simp only [Ju,JD];omega)]
  simp only [Jk,Jb,Sum.elim_inl];rw [ih (v ++ [0]) (by simp;omega) (by simp;omega)]
  have:JlG (v ++ [0]) k=JlG v k:=by
   unfold JlG;have hl:(v ++ [0]).length=v.length+1:=by simp
   rw [hl,List.append_assoc,show k+1 - v.length=(k+1 - (v.length+1))+1 by omega,List.replicate_succ];rfl
  rw [this]
theorem JeE (v:List Int) (k:Nat):(JlG v k).length=max v.length (k+1):=by unfold JlG;simp;omega
theorem gv_pad (v:List Int) (k j:Nat):gv (JlG v k) j=gv v j:=by
 unfold JlG gv;rw [Jo,Jo];rcases JB j v.length with h | h
 ·rw [JF h]
 ·rw [JN h,J1 h,List.getElem?_replicate];split <;> rfl
def JgU (v:List Int) (k:Nat) (x:Int):List Int:=trim ((JlG v k).set k x)
theorem F54_eq (v:List Int) (k:Nat) (x:Int) (hk:k<64) (hl:v.length≤64):F54 v (k:Int) x=some (r1 (JgU v k x)):=by
 have hp:=JeE v k;unfold F54;rw [Js (show ¬(k:Int)<0 by omega),Js (show ¬(k:Int)≥64 by omega),JsC v (by omega)];simp only [Jl,Jb];rw [Jvb k x hk _ v rfl hl];simp only [Jb];rw [Jc (show 0≤(k:Int)∧(k:Int)<(((JlG v k).length:Nat):Int) by omega),Jc (show (k:Int).toNat<(JlG v k).length by omega)]
 simp only [Jk,Ji];rw [F71_eq _ (by rw [JZ];omega)]
 rfl
theorem Jn7 {v:List Int} {k:Nat} {x:Int} (hk:k<64) (hl:v.length≤64):(JgU v k x).length≤64:=by
 unfold JgU;rw [JqZ];have:=Jhg ((JlG v k).set k x) ((JlG v k).set k x).length
 rw [JZ,JeE] at this;rw [JZ,JeE];omega
theorem Juv (v:List Int) (k:Nat) (x:Int) (j:Nat):gv (JgU v k x) j=if j=k then x else gv v j:=by
 unfold JgU;rw [Juw];unfold gv;by_cases h:j=k
 ·subst h;rw [Jf rfl,Jo,List.getElem?_set_self (by rw [JeE];omega)];rfl
 ·rw [Jd h,Jo,List.getElem?_set_ne (fun q=>h q.symm),←List.getD_eq_getElem?_getD];exact gv_pad v k j
end Go.IM.V
namespace Go.IM.V
noncomputable section
open Go Go.IM Go.Proofs
def Gf (x:Nat):Prop:=x≤9218868437227405312
def Ju3 (x y:Nat):Nat:=((FloatKind.f64).format.add x y).getD 0
theorem dbl:FloatKind.f64.format=Ieee.double:=rfl
theorem dblS:Ieee.double.signWeight=9223372036854775808:=by decide +kernel
theorem dblI:Ieee.double.infRung=9218868437227405312:=by decide +kernel
theorem Gf.read {x:Nat} (h:Gf x):(∃m p,Ieee.double.read x = .number false m p)∨Ieee.double.read x = .infinity false:=by
 unfold Gf at h;have e2:x / 9223372036854775808=0:=by omega
 have e3:x % 9223372036854775808=x:=by omega
 unfold Ieee.Format.read;rw [dblS,dblI,e2,e3];dsimp only;by_cases h1:x<Ieee.double.binade
 ·rw [Jf h1];exact .inl ⟨_,_,rfl⟩
 ·rw [Jd h1];by_cases h2:x<9218868437227405312
  ·rw [Jf h2];exact .inl ⟨_,_,rfl⟩
  ·rw [Jd h2,Jf (by omega)];exact .inr rfl
theorem JgT (r:Nat):Ieee.double.word false r=r:=rfl
theorem JrT {m:Nat} {p:Int}:Gf (Ieee.double.write (.number false m p)):=by
 unfold Ieee.Format.write Ieee.Format.nearest Gf;dsimp only;split
 ·rw [JgT];exact Nat.zero_le _
 ·rw [JgT];exact Jy (Nat.min_le_right _ _) (Nat.le_of_eq dblI)
theorem gf_inf:Gf (Ieee.double.write (.infinity false)):=by
 unfold Ieee.Format.write Gf;dsimp only;rw [JgT];exact Nat.le_of_eq dblI
theorem sgn0 (m k:Nat):0≤Ieee.signed false m k:=Int.natCast_nonneg _
theorem Jq0 {a b : Ieee.Datum} (ha : (∃ m p, a = .number false m p) ∨ a = .infinity false) (hb : (∃ m p, b = .number false m p) ∨ b = .infinity false) : (∃ m p, a.sum b = some (.number false m p)) ∨ a.sum b = some (.infinity false) := by
 rcases ha with ⟨m,p,rfl⟩|rfl
 ·rcases hb with ⟨n,q,rfl⟩|rfl
  ·left;unfold Ieee.Datum.sum;dsimp only;have a1:=sgn0 m (p - min p q).toNat;have a2:=sgn0 n (q - min p q).toNat;have ht : ¬(Ieee.signed false m (p - min p q).toNat+Ieee.signed false n (q - min p q).toNat<0):=by omega
   generalize Ieee.signed false m (p - min p q).toNat+Ieee.signed false n (q - min p q).toNat=tt at ht;refine ⟨tt.natAbs,min p q, ?_⟩;have:(if tt=0 then false && false else decide (tt<0))=false:=by
    split
    ·rfl
    ·exact Js ht
   rw [this]
  ·exact .inr rfl
 ·rcases hb with ⟨n,q,rfl⟩|rfl
  ·exact .inr rfl
  ·exact .inr rfl
theorem Jh9 {x y:Nat} (hx:Gf x) (hy:Gf y):(FloatKind.f64.format.add x y).isSome=true∧Gf (Ju3 x y):=by
 have hs:=Jq0 hx.read hy.read;unfold Ju3;rw [dbl];unfold Ieee.Format.add;generalize (Ieee.double.read x).sum (Ieee.double.read y)=s at hs;rcases hs with ⟨m,p,rfl⟩|rfl
 ·rw [JU,Option.getD_some];exact ⟨rfl,JrT⟩
 ·rw [JU,Option.getD_some];exact ⟨rfl,gf_inf⟩
theorem JlI {x:Nat} (hx:Gf x):(FloatKind.f64.format.order x x != some Ordering.eq)=false:=by
 rw [dbl];unfold Ieee.Format.order;rcases hx.read with ⟨m,p,h1⟩|h1
 ·rw [h1];unfold Ieee.Datum.order;dsimp only;have:compare (Ieee.signed false m (p - min p p).toNat) (Ieee.signed false m (p - min p p).toNat) = .eq:=by simp [compare,compareOfLessAndEq]
  rw [this];rfl
 ·rw [h1];rfl
theorem Jfy:Gf 0:=Nat.zero_le _
theorem gf_qt : ∀i:Fin 60,((((FloatKind.f64).format.div (FloatKind.nearest .f64 ((i.val:Nat):Int)) (4616189618054758400)).getD 0)≤9218868437227405312):=by decide +kernel
theorem Jpw {i:Int} (h0:0≤i) (h:i<60):Gf (qtI i):=by
 have:=gf_qt ⟨i.toNat,by omega⟩
 rwa [show ((i.toNat:Nat):Int)=i by omega] at this
theorem JtD {x:Nat} (h:Gf x):F77 x=some (((x:Int),()),(),()):=by
 unfold F77 F103;simp only [Jb,JlI h,Jl]
theorem JqF {x:Nat} (h:Gf x):F57 x=some ((x,()),(),()):=by
 unfold F57;rw [JtD h];rfl
theorem F58_eq {x y:Nat} (h:Gf x) (h2:Gf y):F58 x y=some ((Ju3 x y,()),(),()):=by
 obtain ⟨h3,h4⟩:=Jh9 h h2;unfold F58;rw [h3];simp only [Jk];rw [show ((FloatKind.f64).format.add x y).getD 0=Ju3 x y from rfl,JqF h4];rfl
theorem JqE {x:Nat} (h:Gf x):F62 x=some ((x,()),(),()):=by
 unfold F62;rw [JlI h];rfl
theorem JsE {x:Nat} (h:Gf x):F38 x x=some ((true,()),(),()):=by
 unfold F38;rw [JtD h];simp only [Jb];simp
abbrev Cs:Type:=List (ByteArray × DCe)
abbrev cd0:DCe:=((0:Int),([],((0:Nat),())))
abbrev XX (e:DEv):ByteArray:=e.2.2.2.2.1
abbrev kdE (e:DEv):Int:=e.2.2.2.1
abbrev txE (e:DEv):List Int:=e.2.2.2.2.2.1
abbrev nuE (e:DEv):Nat:=e.2.2.2.2.2.2.1
def Jbw (c:Option DCe) (e:DEv):Option DCe:=
 if kdE e=1 then some (1,(txE e,(0,()))) else if kdE e=2 then some (2,([],(nuE e,()))) else if kdE e=3 then some (2,([],((if (c.getD cd0).1=2 then Ju3 (c.getD cd0).2.2.1 (nuE e) else nuE e),()))) else none
def JdH (m:Cs) (e:DEv):Cs:=if kdE e=4 then JjN (XX e) m else Jea (XX e) ((Jbw (QA (XX e) m) e).getD cd0) m
def cel (q:ByteArray) (l:List DEv):Option DCe:=l.foldl (fun c e=>if XX e=q then Jbw c e else c) none
theorem Jk9 (q:ByteArray) (l:List DEv) (e:DEv):cel q (l ++ [e])=if XX e=q then Jbw (cel q l) e else cel q l:=by
 unfold cel;rw [List.foldl_append];rfl
theorem Jo2 {α:Type} {q:ByteArray} : ∀{l:List (ByteArray × α)},q∉l.map (·.1)→QA q l=none:=by
 intro l h;exact Jgl fun a ha e=>h (by rw [←e];exact List.mem_map_of_mem ha)
theorem Jnc {α : Type} {q q' : ByteArray} : ∀ {l : List (ByteArray × α)}, (l.map (·.1)).Nodup → QA q (JjN q' l) = if q = q' then none else QA q l := by
 intro l;induction l with
 | nil=>intro _;simp [JjN,QA]
 | cons a l ih =>
  intro hn;rw [List.map_cons,List.nodup_cons] at hn;simp only [JjN];cases h:q' == a.1 with
  | true=>
   have h':=Jaz.1 h
   simp only [Jk];by_cases e:q=q'
   ·rw [Jf e];exact Jo2 (by rw [e,h'];exact hn.1)
   ·rw [Jd e];simp only [QA];have:(q == a.1)=false:=by
     cases hq:q == a.1 with
     | false=>rfl
     | true=>exact absurd ((Jaz.1 hq).trans h'.symm) e
    rw [this];rfl
  | false=>
   simp only [Jl,QA];rw [ih hn.2];cases hq:q == a.1 with
   | true=>
    have hq':=Jaz.1 hq
    have hne:q≠q':=fun e=>by
     rw [e] at hq';rw [hq',Jaz.2 rfl] at h;cases h
    rw [Jd hne];simp only [Jk];rw [Jd hne]
   | false=>rfl
theorem Jo0 {α:Type} {q:ByteArray} {v:α} : ∀{l:List (ByteArray × α)},(l.map (·.1)).Nodup→((Jea q v l).map (·.1)).Nodup:=by
 intro l;induction l with
 | nil=>intro _;simp [Jea]
 | cons a l ih=>
  intro hn;rw [List.map_cons,List.nodup_cons] at hn;simp only [Jea];cases h:q == a.1 with
  | true=>
   have h':=Jaz.1 h
   simp only [Jk,List.map_cons,List.nodup_cons];exact ⟨by rw [h'];exact hn.1,hn.2⟩
  | false=>
   simp only [Jl,List.map_cons,List.nodup_cons];refine ⟨fun hm => ?_,ih hn.2⟩;obtain ⟨b,hb,hb2⟩:=List.mem_map.1 hm;rcases JlM hb with e|⟨c,hc,e⟩
   ·rw [←hb2,e,Jaz.2 rfl] at h;cases h
   ·exact hn.1 (by rw [←hb2,←e];exact List.mem_map_of_mem hc)
theorem Jo3 {α : Type} {q : ByteArray} : ∀ {l : List (ByteArray × α)}, (l.map (·.1)).Nodup → ((JjN q l).map (·.1)).Nodup ∧ ∀ a ∈ JjN q l, a ∈ l := by
 intro l;induction l with
 | nil=>intro _;exact ⟨by simp [JjN],fun a h=>h⟩
 | cons a l ih=>
  intro hn;rw [List.map_cons,List.nodup_cons] at hn;simp only [JjN];cases h:q == a.1 with
  | true=>exact ⟨hn.2,fun b hb=>J5 _ hb⟩
  | false=>
   simp only [Jl,List.map_cons,List.nodup_cons];obtain ⟨i1,i2⟩:=ih hn.2;refine ⟨⟨fun hm => ?_,i1⟩,fun b hb => ?_⟩
   ·obtain ⟨b,hb,hb2⟩:=List.mem_map.1 hm;exact hn.1 (by rw [←hb2];exact List.mem_map_of_mem (i2 b hb))
   ·rcases JJ.1 hb with rfl | hb
    ·exact List.mem_cons_self ..
    ·exact J5 _ (i2 b hb)
theorem Jge {c:Option DCe} {e:DEv} (h:kdE e=1∨kdE e=2∨kdE e=3) : ∃x,Jbw c e=some x:=by
 unfold Jbw;rcases h with h | h | h
 ·rw [Jf h];exact ⟨_,rfl⟩
 ·rw [Jd (by omega),Jf h];exact ⟨_,rfl⟩
 ·rw [Jd (by omega),Jd (by omega),Jf h];exact ⟨_,rfl⟩
theorem JmP {m:Cs} {e:DEv} (hn:(m.map (·.1)).Nodup) (hk:1≤kdE e∧kdE e≤4) (q:ByteArray):QA q (JdH m e)=if XX e=q then Jbw (QA q m) e else QA q m:=by
 unfold JdH;by_cases h4:kdE e=4
 ·rw [Jf h4,Jnc hn];by_cases e1:q=XX e
  ·subst e1;rw [Jf rfl,Jf rfl];unfold Jbw;rw [Jd (by omega),Jd (by omega),Jd (by omega)]
  ·rw [Jd e1,Jd (fun h=>e1 h.symm)]
 ·rw [Jd h4,Jgm];by_cases e1:q=XX e
  ·subst e1;rw [Jf rfl,Jf rfl];obtain ⟨x,hx⟩:=Jge (c:=QA (XX e) m) (e:=e) (by omega);rw [hx];rfl
  ·rw [Jd e1,Jd (fun h=>e1 h.symm)]
theorem JmO {m:Cs} {e:DEv} (hn:(m.map (·.1)).Nodup):((JdH m e).map (·.1)).Nodup:=by
 unfold JdH;split
 ·exact (Jo3 hn).1
 ·exact Jo0 hn
def Gc (c:DCe):Prop:=(c.1=1∨c.1=2)∧Gf c.2.2.1∧c.2.1.length<1000
theorem JmQ {c : Option DCe} {e : DEv} (hg : EvF e) (hc : ∀ x, c = some x → Gc x) : ∀ x, Jbw c e = some x → Gc x := by
 intro x hx;obtain ⟨⟨k1,k2⟩,_,htx,hnum,_⟩:=hg;have hgn:Gf (nuE e):=by
  rcases hnum with h|⟨_,i,h0,h1,h⟩
  ·show Gf e.2.2.2.2.2.2.1;rw [h];exact Jfy
  ·show Gf e.2.2.2.2.2.2.1;rw [h];exact Jpw h0 h1
 have htl:(txE e).length<1000:=by
  show e.2.2.2.2.2.1.length<1000;rcases htx with hx|⟨_,c,_,_,hx⟩ <;> rw [hx] <;> simp
 unfold Jbw at hx;split at hx
 ·cases hx;exact ⟨.inl rfl,Jfy,htl⟩
 ·split at hx
  ·cases hx;exact ⟨.inr rfl,hgn,by simp⟩
  ·split at hx
   ·cases hx;refine ⟨.inr rfl, ?_,by simp⟩;dsimp only;split
    ·rename_i h2;cases c with
     | none=>cases h2
     | some c=>exact (Jh9 (hc c rfl).2.1 hgn).2
    ·exact hgn
   ·cases hx
theorem JpL {q:ByteArray} : ∀{l:List DEv} {c:Option DCe},(∀x,c=some x→Gc x)→(∀e∈l,EvF e) → ∀x,l.foldl (fun c e=>if XX e=q then Jbw c e else c) c=some x→Gc x:=by
 intro l;induction l with
 | nil=>intro c hc _ x hx;exact hc x hx
 | cons e l ih=>
  intro c hc hl x hx;rw [List.foldl_cons] at hx;refine ih ?_ (fun y hy=>hl y (J5 _ hy)) x hx;split
  ·exact JmQ (hl e (List.mem_cons_self ..)) hc
  ·exact hc
theorem Jds {q:ByteArray} {l:List DEv} (h : ∀e∈l,EvF e) : ∀x,cel q l=some x→Gc x:=JpL (fun _ h=>by cases h) h
end
end Go.IM.V
namespace Go.IM.V
open Go Go.IM Go.Proofs
theorem shr7 {n:Int} (h:0≤n):Jf3 .u64 n 7=n / 128:=by
 unfold Jf3;show n.fdiv (2 ^ 7)=_;rw [Int.fdiv_eq_ediv_of_nonneg _ (by omega)];rfl
theorem Ju9 : ∀(d:Nat) (a:Int) (q:List Int),0≤a→a<128*128 ^ d→q.length+d<1000000 →
  ∃(a':Int) (q':List Int),Jqv a q=some (((),a',()),(),(q',()))∧q'.length≤q.length+d:=by
 intro d;induction d with
 | zero=>
  intro a q h0 h1 hq;refine ⟨a,q, ?_,by omega⟩;rw [Jmh];unfold Jqb;rw [Js (by omega)];rfl
 | succ d ih=>
  intro a q h0 h1 hq;rw [Jmh];unfold Jqb;by_cases h:a≥128
  ·rw [Jc h,Jc (by rw [Jdf];simp only [Ju,JD];omega)]
   simp only [Jk,Jb,Sum.elim_inl];rw [shr7 h0];obtain ⟨a',q',e,hl'⟩:=ih (a / 128) (q ++ [(iOr .u8 (IntKind.wrap .u8 a) 128)]) (by omega) (by rw [Int.pow_succ] at h1;omega) (by simp;omega)
   refine ⟨a',q',e, ?_⟩;simp at hl';omega
  ·rw [Js h];exact ⟨a,q,rfl,by omega⟩
theorem Jid (a:Int) (q:List Int) (h0:0≤a) (h1:a<18446744073709551616) (hq:q.length<900000) : ∃q',F73 a q=some (((),()),(),(q',()))∧q'.length≤q.length+10:=by
 obtain ⟨a',q',e,hl⟩:=Ju9 9 a q h0 (by omega) (by omega);refine ⟨q' ++ [IntKind.wrap .u8 a'], ?_,by simp;omega⟩
 unfold F73;rw [e];simp only [Jb];rw [Jc (by rw [Jdf];simp only [Ju,JD];omega)]
 rfl
theorem JqD (a q:List Int) (h1:a.length<1000) (hq:q.length<900000) : ∃q',F76 a q=some (((),()),(),(q',()))∧q'.length≤q.length+1010:=by
 obtain ⟨q',e,hl⟩:=Jid (a.length:Int) q (by omega) (by omega) hq;refine ⟨q'++a, ?_,by simp;omega⟩
 unfold F76;rw [Jmy (by omega) (by omega),e];simp only [Jb];rw [Jc (by rw [Jdf];omega)]
 rfl
theorem Ju8 (a:Int) : ∀(k:Nat) (q:List Int),k≤8→q.length+k<900000 → ∃q',JnR a ((k:Int) - 1) q=some (((),()),(),(q',()))∧q'.length≤q.length+k:=by
 intro k;induction k with
 | zero=>
  intro q hk hq;refine ⟨q, ?_,by omega⟩;rw [Jmg];unfold Jqa;rw [Js (by omega)];rfl
 | succ k ih=>
  intro q hk hq;rw [Jmg];unfold Jqa;have e1:((k+1:Nat):Int) - 1=(k:Int):=by omega
  rw [e1,Jc (show (k:Int)≥0 by omega),Jc (by rw [wz (by omega) (by omega)];omega),Jc (by rw [Jdf];simp only [Ju,JD];omega)]
  simp only [Jk,Jb,Sum.elim_inl];rw [wz (n:=(k:Int) - 1) (by omega) (by omega)];obtain ⟨q',e,hl⟩:=ih (q ++ [IntKind.wrap .u8 (Jf3 .u64 a (IntKind.wrap .i64 (8*(k:Int))))]) (by omega) (by simp;omega)
  exact ⟨q',e,by simp at hl;omega⟩
theorem Jvp (a:Int) (q:List Int) (hq:q.length<800000) : ∃q',F74 a q=some (((),()),(),(q',()))∧q'.length≤q.length+8:=by
 obtain ⟨q',e,hl⟩:=Ju8 a 8 q (by omega) (by omega);refine ⟨q', ?_,by omega⟩;unfold F74;rw [show JnR a 7 q=_ from e];rfl
theorem Jvo (a:Nat) : ∃x:Int,F77 a=some ((x,()),(),()):=by
 unfold F77 F103;simp only [Jb];cases ((FloatKind.f64).format.order a a != some Ordering.eq)
 ·exact ⟨_,rfl⟩
 ·exact ⟨_,rfl⟩
theorem Jvv (e:Ev) (h:EvG e) : ∃q,F55 e=some (((),()),(),(q,()))∧q.length<100000:=by
 obtain ⟨h1,h2,h3,h4,h5,h6,⟨k1,k2⟩,⟨c,c0,c1,hc⟩,htx,hnum,hsub⟩:=h;have hsz:(XS e.2.2.2.2.1).length<1000:=by rw [JgB,hc,Jc8];simp
 have htl:e.2.2.2.2.2.1.length<1000:=by
  rcases htx with hx|⟨_,c,_,_,hx⟩ <;> rw [hx] <;> simp
 unfold F55;rw [Jmy (n:=e.1) (by omega) (by omega)];obtain ⟨q1,e1,l1⟩:=Jid e.1 [] (by omega) (by omega) (by simp);simp only [JD] at l1;rw [e1];simp only [Jb];obtain ⟨q2,e2,l2⟩:=Jid e.2.1 q1 (by omega) (by omega) (by omega);rw [e2];simp only [Jb];obtain ⟨q3,e3,l3⟩:=Jid e.2.2.1 q2 (by omega) (by omega) (by omega);rw [e3];simp only [Jb]
 obtain ⟨q4,e4,l4⟩:=JqD (XS e.2.2.2.2.1) (q3 ++ [e.2.2.2.1]) hsz (by simp;omega)
 rw [Jc (show q3.length + [e.2.2.2.1].length<lim by rw [Jdf];simp only [Ju,JD];omega),Jc (show e.2.2.2.1≥1 by omega),Jc (show e.2.2.2.1≤4 by omega),e4]
 simp only [Jk,Jb];simp only [Jz,Ju,JD] at l4;obtain ⟨q5,e5,l5⟩:=JqD e.2.2.2.2.2.1 q4 htl (by omega);obtain ⟨x,ex⟩:=Jvo e.2.2.2.2.2.2.1;obtain ⟨q6,e6,l6⟩:=Jvp x q4 (by omega);generalize e.2.2.2.1=kd at *;have hk:kd=1∨kd=2∨kd=3∨kd=4:=by omega
 rcases hk with rfl | rfl | rfl | rfl
 ·simp only [show ((1:Int) == 1)=true from rfl,Jk,Jl,e5,Jb];exact ⟨_,rfl,by omega⟩
 ·simp only [show ((2:Int) == 1)=false from rfl,show ((2:Int) == 2)=true from rfl,Jk,Jl,ex,e6,Jb];exact ⟨_,rfl,by omega⟩
 ·simp only [show ((3:Int) == 1)=false from rfl,show ((3:Int) == 2)=false from rfl,show ((3:Int) == 3)=true from rfl,Jk,Jl,ex,e6,Jb];exact ⟨_,rfl,by omega⟩
 ·simp only [show ((4:Int) == 1)=false from rfl,show ((4:Int) == 2)=false from rfl,show ((4:Int) == 3)=false from rfl,show ((4:Int) == 5)=false from rfl,Jk,Jl,Jb];exact ⟨_,rfl,by omega⟩
structure EvH (e:Ev):Prop where
 g:EvG e
 w:e.1<64
 s:1≤e.2.1
 t:1≤e.2.2.1
theorem F51_eq (e:Ev) (h:EvH e):F51 e=some ((0,()),(),()):=by
 obtain ⟨⟨h1,h2,h3,h4,h5,h6,⟨k1,k2⟩,⟨c,c0,c1,hc⟩,htx,hnum,hsub⟩,hw,hs,ht⟩:=h;have hsz:e.2.2.2.2.1.size=1:=by rw [hc,Jc8];rfl
 have htl:e.2.2.2.2.2.1.length≤1:=by
  rcases htx with hx|⟨_,c,_,_,hx⟩ <;> rw [hx] <;> simp
 have e5:(e.2.2.2.1 == 5)=false:=by simp;omega
 have s0:(e.2.1 == 0)=false:=by simp;omega
 have t0:(e.2.2.1 == 0)=false:=by simp;omega
 unfold F51 F89;rw [hsz];simp only [Jc (show e.2.2.2.1≥1 by omega),Jc (show e.1≥0 by omega),Jc hw,Jk,Jb,Bool.not_true,Jl,s0,t0,Js (show ¬e.2.2.2.1<1 by omega),Js (show ¬e.2.2.2.1 > 6 by omega),e5,Jc (show e.2.2.2.1≤4 by omega),show (((1:Nat):Int) == 0)=false from rfl,show decide (((1:Nat):Int) > 64)=false from rfl,
  Js (show ¬(((e.2.2.2.2.2.1.length:Nat):Int) > 1048576) by omega),Js (show ¬(e.2.1 > 9223372036854775807) by omega),Js (show ¬(e.2.2.1 > 9223372036854775807) by omega)]
 cases (e.2.2.2.1 == 1) <;> rfl
theorem Jvh (p:List Int) (J R:List Bool) (v:List Int) (t w:Int) (e:Ev) (ms:Cs) (hp:p.length<1000000) : ∀(d k:Nat) (mk:Int),k+d=p.length →
  ∃mk',JgK p ((p.length:Nat):Int) (k:Nat) J R v t w mk e.1 e.2.1 e.2.2.1 e.2.2.2.1 e.2.2.2.2.1 e.2.2.2.2.2.1 e.2.2.2.2.2.2.1 e.2.2.2.2.2.2.2.1 ms=some ((),(((),J,R,v,t,w,mk',()),(e.1,e.2.1,e.2.2.1,e.2.2.2.1,e.2.2.2.2.1,e.2.2.2.2.2.1,e.2.2.2.2.2.2.1,e.2.2.2.2.2.2.2.1,()),(ms,()),()),()):=by
 intro d;induction d with
 | zero=>
  intro k mk hk;rw [Jjx];unfold Jjo;rw [Js (by omega)];exact ⟨mk,rfl⟩
 | succ d ih=>
  intro k mk hk;rw [Jjx];unfold Jjo;rw [Jc (show (k:Int)<((p.length:Nat):Int) by omega),Jc (show 0≤(k:Int)∧(k:Int)<((p.length:Nat):Int) by omega)];simp only [Jk,Jb,Sum.elim_inl];rw [show IntKind.wrap .i64 ((k:Int)+1)=((k+1:Nat):Int) by rw [wz (by omega) (by omega)];rfl]
  exact ih (k+1) _ (by omega)
theorem Jmv {a:List Int} (h:a.length<1000000):Jvu a=some ((a,()),(),()):=by
 unfold Jvu;rw [Jc (show a.length<lim by rw [Jdf];omega)];rfl
theorem F23_eq (e : Ev) (J R : List Bool) (v : List Int) (t w mk : Int) (ms : Cs) (h : EvH e) (hk : kl (t, (w, ())) (pl e) = true) (hv : v.length ≤ 64) (hs : e.2.1 = gv v e.1.toNat + 1) (hm : ∀ c, QA (XX e) ms = some c → Gc c) :
  ∃mk',F23 e J R v t w mk ms=some ((0,()),(((),J,R,JgU v e.1.toNat e.2.1,e.2.2.1,e.1,mk',()),(JdH ms e,()),()),()):=by
 obtain ⟨q,hq,hql⟩:=Jvv e h.g;have hg:=h.g;have hf:=hg.f;have hw0:=hg.w0;have hw:=h.w;have hw1:(e.1.toNat:Int)=e.1:=by omega
 have hgn:Gf (nuE e):=by
  obtain ⟨_,_,_,hnum,_⟩:=hf;rcases hnum with h|⟨_,i,h0,h1,h⟩
  ·show Gf e.2.2.2.2.2.2.1;rw [h];exact Jfy
  ·show Gf e.2.2.2.2.2.2.1;rw [h];exact Jpw h0 h1
 have htl:(txE e).length<1000:=by
  obtain ⟨_,_,htx,_,_⟩:=hf;show e.2.2.2.2.2.1.length<1000;rcases htx with hx|⟨_,c,_,_,hx⟩ <;> rw [hx] <;> simp
 have h52:F52 e=some (((pl e),()),(),()):=rfl;have hcmp:F46 (pl e) (t,(w,()))=some ((Jn3 (pl e) (t,(w,())),()),(),()):=JgQ _ _;have hc0:decide (Jn3 (pl e) (t,(w,()))≤0)=false:=by rw [JpI,hk];rfl
 have h53:F53 v e.1=some (r1 (gv v e.1.toNat)):=by have:=Jvw v e.1.toNat;rwa [hw1] at this
 have h54:F54 v e.1 e.2.1=some (r1 (JgU v e.1.toNat e.2.1)):=by have:=F54_eq v e.1.toNat e.2.1 (by omega) hv;rwa [hw1] at this
 obtain ⟨mk',hL⟩:=Jvh q J R (JgU v e.1.toNat e.2.1) e.2.2.1 e.1 e ms (by omega) q.length 0 mk (by omega);refine ⟨mk', ?_⟩;unfold F23;rw [F51_eq e h];simp only [Jb,show ((0:Int) != 0)=false from rfl,Jl];rw [h52];simp only [Jb];rw [hcmp];simp only [Jb,hc0,Jl];rw [h53];simp only [Jb];have hws:IntKind.wrap .u64 (gv v e.1.toNat+1)=e.2.1:=by rw [←hs];exact Jmy hg.s0 (by have:=hg.s1;omega)
 have hne:(e.2.1 != IntKind.wrap .u64 (gv v e.1.toNat+1))=false:=by rw [hws];simp
 rw [hne];simp only [Jl];rw [h54];simp only [Jb];rw [hq];simp only [Jb];have hL':JgK q ((q.length:Nat):Int) 0 J R (JgU v e.1.toNat e.2.1) (pl e).1 (pl e).2.1 mk e.1 e.2.1 e.2.2.1 e.2.2.2.1 e.2.2.2.2.1 e.2.2.2.2.2.1 e.2.2.2.2.2.2.1 e.2.2.2.2.2.2.2.1 ms=_:=hL
 rw [hL'];simp only [Jb];have hk14:=hf.1;have hcase:kdE e=1∨kdE e=2∨kdE e=3∨kdE e=4:=by show e.2.2.2.1=1∨e.2.2.2.1=2∨e.2.2.2.1=3∨e.2.2.2.1=4;omega
 rcases hcase with hkd | hkd | hkd | hkd
 ·have hM:JdH ms e=Jea (XX e) (1,(txE e,(0,()))) ms:=by unfold JdH Jbw;rw [Jd (by omega),Jf hkd];rfl
  rw [hM,show e.2.2.2.1=1 from hkd,Jmv (a:=e.2.2.2.2.2.1) (by have:e.2.2.2.2.2.1.length<1000:=htl;omega)]
  rfl
 ·have hM:JdH ms e=Jea (XX e) (2,([],(nuE e,()))) ms:=by unfold JdH Jbw;rw [Jd (by omega),Jd (by omega),Jf hkd];rfl
  rw [hM,show e.2.2.2.1=2 from hkd,JqF (x:=e.2.2.2.2.2.2.1) hgn];rfl
 ·have hM:JdH ms e=Jea (XX e) (2,([],((if ((QA (XX e) ms).getD cd0).1=2 then Ju3 ((QA (XX e) ms).getD cd0).2.2.1 (nuE e) else nuE e),()))) ms:=by unfold JdH Jbw;rw [Jd (by omega),Jd (by omega),Jd (by omega),Jf hkd];rfl
  rw [hM,show e.2.2.2.1=3 from hkd,JqF (x:=e.2.2.2.2.2.2.1) hgn];simp only [show ((3:Int) == 1)=false from rfl,show ((3:Int) == 2)=false from rfl,show ((3:Int) == 3)=true from rfl,Jk,Jl,Jb];by_cases h2:((QA (XX e) ms).getD cd0).1=2
  ·rw [Jf h2];have hgc:Gf ((QA (XX e) ms).getD cd0).2.2.1:=by
    cases hq2:QA (XX e) ms with
    | none=>exact Jfy
    | some c=>exact (hm c hq2).2.1
   have hb:(((QA (XX e) ms).getD cd0).1 == 2)=true:=by rw [h2];rfl
   show (bif (((QA (XX e) ms).getD cd0).1 == 2) then _ else _)=_;rw [hb,Jk];show (F58 ((QA (XX e) ms).getD cd0).2.2.1 (nuE e)).bind _=_;rw [F58_eq hgc hgn];rfl
  ·rw [Jd h2];have hb:(((QA (XX e) ms).getD cd0).1 == 2)=false:=by simpa using h2
   show (bif (((QA (XX e) ms).getD cd0).1 == 2) then _ else _)=_;rw [hb,Jl]
 ·have hM:JdH ms e=JjN (XX e) ms:=by unfold JdH;rw [Jf hkd]
  rw [hM,show e.2.2.2.1=4 from hkd];rfl
end Go.IM.V
namespace Go.IM.V
open Go Go.IM
variable {P:Program}
abbrev JaY (e:Ty):Tm := { sl := [(0,.mv 0)],bx := [[.ms e]] }
abbrev Jlt (e:Ty):Tm := { sl := [(0,.mv 1)],bx := [[.ms e], [.ms e]] }
abbrev JtB {e:Ty} (l:List (ByteArray × e.El)):(Jlt e).E:=(((),()),((l,()),(l,()),()),())
theorem JnJ {e:Ty} (l:List (ByteArray × e.El)):JpO e e l=some l:=by unfold JpO;rw [dif_pos rfl]
theorem JpK [Orc P] {k:FuncId} {e:Ty} (hcal : ∀(m:M) (i:Nat) (es:Array MapEntry) (clock:Nat),m.mapOf i=some (es,clock)→m.newO (.map es clock)=some (m.nxt,m.mk1 (.map es clock))→Cal P k #[.map (some i)] m (.ret (.map (some m.nxt))) (m.mk1 (.map es clock))) :
  Con.OK P k ⟨JaY e,.ret (Jlt e),fun x=>some (JtB x.2.1.1.1)⟩:=by
 intro x y hF S0 env m args hT hB hsl hn;cases hF;generalize hl:x.2.1.1.1=l;have hx:x=(((),()),((l,()),()),()):=by
  obtain ⟨⟨⟨⟩,⟨⟩⟩,⟨⟨l',⟨⟩⟩,⟨⟩⟩,⟨⟩⟩:=x;cases hl;rfl
 have hRel:Rel P S0 env m ⟨args, []⟩ ((JaY e).inst 0 x):=⟨hT,Nat.zero_le _,fun i=>JeL hsl i,trivial⟩;have hbx:((JaY e).inst 0 x).bx = [[.ms e l]]:=by rw [hx];rfl
 have hms:Jqr P (((JaY e).inst 0 x).cx S0 env m) 0 e l:=by
  have:=hT.bx 0 [.ms e l] (by rw [hbx];rfl)
  exact this
 obtain ⟨kb,es,clock,g1,g2,g3,g4,g5,g6⟩:=hms;have g1':m.alive (env.β 0)=some kb:=g1
 have hmo:m.mapOf (env.β 0)=some (es,clock):=by unfold M.mapOf;rw [g1'];dsimp only;rw [g2]
 have hargs:args = #[.map (some (env.β 0))]:=by
  obtain ⟨⟨_,i,h1,_,h3⟩,_⟩:=hsl;have hh:(((JaY e).inst 0 x).cx S0 env m).has 0=true:=by
   show JM ((JaY e).inst 0 x).bx 0=true;rw [hbx];rfl
  have hii:i=env.β 0:=h3 hh;have hs1:args.size=1:=hn;have h1':args.getD 0 undef = .map (some i):=h1
  apply Array.ext
  ·exact hs1
  ·intro j hj hj2;have:j=0:=by omega
   subst this;rw [JH, Array.getElem?_eq_getElem hj] at h1';rw [hii] at h1';exact h1'
 obtain ⟨k0,k1,k2⟩:=hRel.newObj (cs := [.ms e l]) (o := .map es clock) rfl (fun Y hle hal hβ=>by
  refine ⟨_,es,clock,hal,rfl,rfl,rfl,hβ.symm,g6.mono hle.mono⟩)
 have hnb:((JaY e).inst 0 x).bx.length=1:=by rw [hbx];rfl
 have hmat:(Jlt e).mat (fun _ => .v (.s (.mv 1))) (newBox ((JaY e).inst 0 x) [.ms e l]).2 (JrN 1)=some (JtB l,⟨[0,1], []⟩):=by
  have hb:(newBox ((JaY e).inst 0 x) [.ms e l]).2.bx = [[.ms e l], [.ms e l]]:=by show ((JaY e).inst 0 x).bx ++ [_]=_;rw [hbx];rfl
  unfold Tm.mat;simp [slM,ptM,unV,pin,JrN,bxM,ceM,hb,JnJ,Jbj,bfM]
  rfl
 have hrep:J8 P ((newBox ((JaY e).inst 0 x) [.ms e l]).2.cx S0 (env.setβ ((JaY e).inst 0 x).bx.length m.nxt) (m.mk1 (.map es clock))) (.v (.s (.mv 1))) (.map (some m.nxt)):=by
  refine ⟨?_,m.nxt,rfl,Nat.lt_succ_self _,fun _ => ?_⟩
  ·show 1<(((JaY e).inst 0 x).bx ++ [_]).length;rw [hbx];simp
  ·show m.nxt=(env.setβ _ m.nxt).β 1;rw [←hnb];exact (J6 _ _ _).symm
 obtain ⟨hE,hs2⟩:=JbJ.of_mat (av:=fun _ => .map (some m.nxt)) k2 k1.T (hnb:_=1) (fun p _=>hrep) hmat;subst hargs;exact ⟨.ret (.map (some m.nxt)),m.mk1 (.map es clock),_,hcal m _ es clock hmo k0,hE,.map (some m.nxt),rfl,hs2.1⟩
end Go.IM.V
namespace Go.IM.V
noncomputable section
open Go Go.IM Go.Proofs
def b65:Code:=(.seq (.region 0 (Jq9 Try.f65 0) false) (.seq (.seq (.region 1 (Jq9 Try.f65 1) false) (.cond (.tmp 4) (.seq (.region 2 (Jq9 Try.f65 2) false) .ret) .skip)) (.seq (.region 3 (Jq9 Try.f65 3) false) .ret)))
theorem body65:Try.f65.body=some b65:=by kernel_rfl
def g65 (i:Nat) (m m1:M) (n:Nat):GR:=G Try.prog [(3,2,.op (.iface 107 (.map (some n))) m1)] [] 60 b65 (frame Try.f65 #[.map (some i)]) m
def gOb:GR→Prop
 | some (_,_,_,o)=>o
 | none=>False
def gIs (fn:Func) (P:Program) (v:Value) (m1:M):GR→Prop
 | some (e,a,m,_)=>e = .ret∧a.defers = []∧Qq P fn a.tmps m=some v∧m=m1
 | none=>False
theorem cal65 (m:M) (i:Nat) (es:Array MapEntry) (clock:Nat) (h:m.mapOf i=some (es,clock)) (hn:m.newO (.map es clock)=some (m.nxt,m.mk1 (.map es clock))) :
  Cal Try.prog 65 #[.map (some i)] m (.ret (.map (some m.nxt))) (m.mk1 (.map es clock)):=by
 have hX:Jbm #[.iface 107 (.map (some i))] m=some (.val (.iface 107 (.map (some m.nxt))) (m.mk1 (.map es clock))):=by
  unfold Jbm;dsimp only;rw [h];dsimp only;rw [hn]
 have e1 : ∀(m1:M) (n:Nat),gOb (g65 i m m1 n)=(True∧((True∧True)∧((((Jbm #[.iface 107 (.map (some i))] m=some (.val (.iface 107 (.map (some n))) m1))∧True)∧True)))):=fun m1 n=>by kernel_rfl
 have e3 : ∀(m1:M) (n:Nat),gIs Try.f65 Try.prog (.map (some n)) m1 (g65 i m m1 n)=(Out.ret=Out.ret∧([]:List Deferred) = []∧some (Value.map (some n))=some (.map (some n))∧m1=m1):=fun m1 n=>by kernel_rfl
 have o1:gOb (g65 i m (m.mk1 (.map es clock)) m.nxt):=by rw [e1];exact ⟨trivial,⟨trivial,trivial⟩,⟨hX,trivial⟩,trivial⟩
 have o3:gIs Try.f65 Try.prog (.map (some m.nxt)) (m.mk1 (.map es clock)) (g65 i m (m.mk1 (.map es clock)) m.nxt):=by rw [e3];exact ⟨rfl,rfl,rfl,rfl⟩
 cases hg:g65 i m (m.mk1 (.map es clock)) m.nxt with
 | none=>rw [hg] at o1;exact o1.elim
 | some r=>
  obtain ⟨e,a,m2,o⟩:=r;rw [hg] at o1 o3;obtain ⟨rfl,hd,hr,rfl⟩:=o3;exact Cal.ret (fun _=>rfl) Try.func65 body65 (Jvl 60 hg o1) (.inr rfl) hd hr
def i65:Tm:=JaY (.p (.i .u8) (.p (.l (.i .u8)) (.p (.f .f64) .u)))
def o65:OT := .ret (Jlt (.p (.i .u8) (.p (.l (.i .u8)) (.p (.f .f64) .u))))
def F65 (b0_0:List (ByteArray × DCe)):Option o65.E:=some (((),()),((b0_0,()),(b0_0,()),()),())
def c65:Con:=⟨i65,o65,fun x=>F65 x.2.1.1.1⟩
theorem c65_ok:Con.OK Try.prog 65 c65:=JpK cal65
end
end Go.IM.V