/- What the code of a law comes to, and what that tells: part 1. Lemmas alone; no conditions. -/
import Derived.Test.YtodkdfaempcjgaaProg
import Derived.KernelRfl
import Derived.Test.YtodkdfaempcjgaaImM5
import Derived.Test.YtodkdfaempcjgaaImM2
set_option linter.unusedVariables false
set_option linter.unusedSimpArgs false
set_option linter.constructorNameAsVariable false
namespace Go.IM.V
open Go Go.IM
variable {P:Program} {m m1:M} {S0:Nat→Prop} {env env1:Env} {X Y:Cx}
theorem repC_φ {p:Nat→Prop} {S1:Nat→Prop} {c:Cl} {w:Value} (h:repC P X c w):repC P { X with env := { X.env with φ:=p },S0:=S1 } c w:=by cases c <;> exact h
theorem repCs_φ {p:Nat→Prop} {S1:Nat→Prop} : ∀{cs:List Cl} {ws:List Value},repCs P X cs ws→repCs P { X with env := { X.env with φ:=p },S0:=S1 } cs ws:=by
 intro cs; induction cs with
 | nil=>intro ws h; cases ws <;> exact h
 | cons c cs ih=>intro ws h; cases ws with
  | nil=>exact h
  | cons w ws=>exact ⟨repC_φ h.1,ih h.2⟩
theorem repS_φ {p:Nat→Prop} {S1:Nat→Prop} {s:V.S1} {w:Value} (h:repS P X s w):repS P { X with env := { X.env with φ:=p },S0:=S1 } s w:=by
 cases s with
 | x=>trivial
 | s c=>exact repC_φ (c:=c) h
 | a cs=>obtain ⟨b,h1,h2⟩:=h; exact ⟨b,h1,repCs_φ h2⟩
theorem repSlots_φ {p:Nat→Prop} {S1:Nat→Prop} {av:Nat→Value} : ∀{l:List (Nat × V.S1)},repSlots P X av l→repSlots P { X with env := { X.env with φ:=p },S0:=S1 } av l:=by
 intro l; induction l with
 | nil=>intro h; trivial
 | cons q l ih=>intro h; exact ⟨repS_φ h.1,ih h.2⟩
theorem repSlots_le {X Y:Cx} (hle:CxLe X Y) {av:Nat→Value} : ∀{l:List (Nat × S1)},repSlots P X av l→repSlots P Y av l:=by
 intro l; induction l with
 | nil=>intro _; trivial
 | cons p l ih=>intro h; exact ⟨h.1.le hle,ih h.2⟩
theorem start_nobox {t:Tm} (ht:t.bx = []) {x:t.E} (hT:RelT P (t.cx x S0 env m) (t.inst 0 x).bx) {S1:Nat→Prop} (hS : ∀i,S1 i→S0 i∨env.φ i) :
  RelT P (t.cx x S1 { env with φ:=fun _=>False } m) (t.inst 0 x).bx∧(∀i,¬Wb (t.cx x S1 { env with φ:=fun _=>False } m) i) ∧
   ∀{av:Nat→Value} {l:List (Nat × V.S1)},repSlots P (t.cx x S0 env m) av l→repSlots P (t.cx x S1 { env with φ:=fun _=>False } m) av l:=by
 have hbx:(t.inst 0 x).bx = []:=by
  have h:(bxI id id t.bx x.2.1).length=0:=by rw [bxI_len,ht]; rfl
  exact List.eq_nil_of_length_eq_zero h
 have hSle : ∀i,(t.inst 0 x).S S1 { env with φ:=fun _=>False } i→(t.inst 0 x).S S0 env i:=by
  intro i w; rcases w with w|⟨j,hj,_⟩|w
  ·rcases hS i w with w | w
   ·exact .inl w
   ·exact .inr (.inr w)
  ·rw [hbx] at hj; exact absurd hj (Nat.not_lt_zero _)
  ·exact w.elim
 have hmono:Mono ((t.inst 0 x).S S0 env) m ((t.inst 0 x).S S1 { env with φ:=fun _=>False }) m:=fun i r hr hn=>⟨hr,fun w=>hn (hSle i w)⟩
 have hnj : ∀j,¬j<(t.inst 0 x).bx.length:=fun j hj=>by rw [hbx] at hj; exact Nat.not_lt_zero _ hj
 refine ⟨⟨hT.free,hT.bar,rfl,rfl,rfl,fun j hj=>absurd hj (hnj j),fun i w=>hT.slt i (hSle i w),fun j b hb => ?_,hT.bfd,fun j cs hcs => ?_,fun j j' hj=>absurd hj (hnj j),fun i w=>w.elim,fun j hj=>absurd hj (hnj j),hT.rts,hT.unq⟩,fun i w => ?_, ?_⟩
 ·exact BufOK.le (Wb:=fun _=>False) (Wl:=fun _=>False) (X:=t.cx x S0 env m) (Y:=t.cx x S1 { env with φ:=fun _=>False } m) (Fr2.refl hT.free) hmono (fun _ w=>w.elim) rfl (hT.bf j b hb) (fun _ _ _ w=>w)
 ·rw [hbx] at hcs; cases hcs
 ·rcases w with ⟨j,hj,_⟩|w
  ·exact hnj j hj
  ·exact w
 ·intro av l h; have hle:CxLe (t.cx x S0 env m) { t.cx x S1 { env with φ:=fun _=>False } m with env:=env,S0:=fun _=>False }:=
   ⟨hmono,Nat.le_refl _,fun _ _=>rfl,fun j b hb=>⟨b.live,hb,rfl⟩,fun _ _ h=>h,fun _ _ _ h=>h,fun _ w=>w.elim,fun _ w=>w,Nat.le_refl _,fun _ _ h=>h⟩
  exact repSlots_φ (p:=fun _=>False) (S1:=S1) (repSlots_le hle h)
def thTm (e:Ty) (n:Nat):Tm := { sl := [(0,.sb (.l e) n 0)],bx := [(List.range n).map .o],bf:=List.replicate n e }
def liTm (e:Ty):Tm := { sl := [(0,.v (.l (.l e)))] }
def bfL {e:Ty}:(n:Nat)→BfE (List.replicate n e)→List (List e.El)
 | 0,_ => []
 | n+1,x=>x.1::bfL n x.2
theorem bfL_len {e:Ty} : ∀{n:Nat} {x:BfE (List.replicate n e)},(bfL n x).length=n
 | 0,_=>rfl
 | n+1,x=>by show (_::_).length=_; rw [List.length_cons,bfL_len]
theorem bfI_bfL {e:Ty} : ∀{n:Nat} {x:BfE (List.replicate n e)} {k:Nat} {xs:List e.El},(bfL n x)[k]? = some xs→(bfI (List.replicate n e) x)[k]? = some ⟨e,xs,true,false⟩
 | 0,_,_,_,h=>by cases h
 | n+1,x,0,xs,h=>by cases h; rfl
 | n+1,x,k+1,xs,h=>bfI_bfL (n:=n) (x:=x.2) (k:=k) h
theorem thaw [Orc P] {k : FuncId} {ins : Tm} (hi : ins.bx = []) (hf : ins.bf = []) {e : Ty} {n : Nat} (hn : 0 < n) {F : ins.E → Option (OT.ret (thTm e n)).E} (h : Con.OK P k ⟨ins, .ret (thTm e n), F⟩) :
  Con.OK P k ⟨ins,.ret (liTm e),fun x=>(F x).map fun y=>((bfL n y.2.2,()),(),())⟩:=by
 intro x y2 hF S0 env m args hT hB hsl hnil; simp only [Option.map_eq_some_iff] at hF; obtain ⟨y,hy,rfl⟩:=hF; obtain ⟨hT',hW',hsl'⟩:=start_nobox hi hT (S1:=fun i=>S0 i∨env.φ i) (fun _ w=>w); obtain ⟨c,m1,env1,hcal,hend,v,rfl,hv⟩:=h x y hy _ _ m args hT' (fun i w=>absurd w (hW' i)) (hsl' hsl) hnil; have hfr:=hend.fr; have hwl' : ∀i,¬Wl (ins.cx x (fun i=>S0 i∨env.φ i) { env with φ:=fun _=>False } m) i:=by
  rintro i ⟨j,b,hb,_⟩
  have hb':(bfI ins.bf x.2.2)[j]? = some b:=hb
  have : ∀{l:List Ty} {z:BfE l},l = []→bfI l z = []:=by intro l z hl; subst hl; rfl
  rw [this hf] at hb'; cases hb'
 have hnxt:m.nxt≤m1.nxt:=hfr.nxt; have hS0 : ∀i,S0 i∨env.φ i→i<m.nxt:=fun i w=>hT.slt i (w.elim .inl (fun w => .inr (.inr w)))
 have hbx0:((thTm e n).inst 0 y).bx[0]? = some ((List.range n).map .o):=by
  show (bxI id id [(List.range n).map Pt.o] y.2.1)[0]? = _; have : ∀(l:List Nat) (z:CeE (l.map Pt.o)),ceI id id (l.map Pt.o) z=l.map Cl.o:=by
   intro l; induction l with
   | nil=>intro z; rfl
   | cons a l ih=>intro z; show _::_=_::_; rw [ih]; rfl
  show some (ceI id id ((List.range n).map Pt.o) y.2.1.1)=_; rw [this]
 have hrun : isRun ((List.range n).map Cl.o) = false := by
  cases n with
  | zero=>rfl
  | succ n=>cases n with
   | zero=>rfl
   | succ n=>
    have hany : ∀l:List Nat,(l.map Cl.o).any isSg=false:=by
     intro l; induction l with
     | nil=>rfl
     | cons a l ih=>rw [List.map_cons,List.any_cons,ih]; rfl
    rw [List.range_succ_eq_map,List.range_succ_eq_map]; exact (isRun2 _ _ _).1.trans (hany (_::_::_))
 have hhas:hasOf ((thTm e n).inst 0 y).bx 0=true:=(hasOf_get hbx0).trans (has1_cel hrun); obtain ⟨kb,cc,eo,fr,b1,b2,b3,b4,b5,b6⟩:=(hend.T.bx 0 _ hbx0).cel hrun; obtain ⟨_,⟨v1,v2⟩,v3⟩:=hv; obtain ⟨v4,eo',v5,v6⟩:=v3 hhas; have hrow:m1.row (env1.β 0)=some (cc,eo):=row_of b1 b2; have hty:eo'=eo:=by
  have h5:m1.typ (env1.β 0)=some eo':=v5; unfold M.typ at h5; have h7:m1.get (env1.β 0)=some kb:=alive_get b1; rw [h7] at h5; have h6:otyp kb.obj=some eo':=h5; rw [b2] at h6; cases h6; rfl
 subst hty; have hβ:m.nxt≤env1.β 0:=by
  rcases hend.wb (env1.β 0) (.inl ⟨0,by show 0<((thTm e n).inst 0 y).bx.length; exact lt_of_get hbx0,hhas,rfl⟩) with w | w
  ·exact absurd w (hW' _)
  ·exact w
 have hS1 : ∀i,S0 i∨env.φ i→((thTm e n).inst 0 y).S (fun i=>S0 i∨env.φ i) env1 i:=fun i w => .inl w
 let env2:Env := { τ:=fun _=>none,β:=fun _=>0,φ:=env.φ }
 let t2:Tm:=liTm e
 let y2:t2.E:=((bfL n y.2.2,()),(),())
 have hS2 : ∀i,(t2.inst 0 y2).S S0 env2 i→S0 i∨env.φ i:=by
  intro i w; rcases w with w|⟨j,hj,_⟩|w
  ·exact .inl w
  ·exact absurd hj (Nat.not_lt_zero _)
  ·exact .inr w
 refine ⟨.ret v,m1,env2,hcal,⟨hfr.mono (fun i w=>absurd w (hW' i)) (fun i w=>absurd w (hwl' i)),⟨hend.T.free,hend.T.bar,rfl,rfl,rfl,fun j hj=>absurd hj (Nat.not_lt_zero _),fun i w=>Nat.lt_of_lt_of_le (hS0 i (hS2 i w)) hnxt,fun j b hb=>(by cases hb),fun j j' b b' i hb=>(by cases hb),fun j cs hcs=>(by cases hcs),fun j j' hj=>absurd hj (Nat.not_lt_zero _),fun i w => .inr (.inr w),fun j hj=>absurd hj (Nat.not_lt_zero _),hend.T.rts,hend.T.unq⟩,
  fun j hj => ?_,fun i w => ?_,fun i w => ?_,fun j hj => ?_,fun j L hj => ?_,fun i w=>w⟩,v,rfl, ?_⟩
 ·have:(ins.inst 0 x).bx.length=0:=by show (bxI id id ins.bx x.2.1).length=0; rw [bxI_len,hi]; rfl
  exact absurd (show j<(ins.inst 0 x).bx.length from hj) (by omega)
 ·rcases w with ⟨j,hj,_⟩|w
  ·exact absurd hj (Nat.not_lt_zero _)
  ·exact .inl (.inr w)
 ·obtain ⟨j,b,hb,_⟩:=w; cases hb
 ·have:(ins.inst 0 x).bx.length=0:=by show (bxI id id ins.bx x.2.1).length=0; rw [bxI_len,hi]; rfl
  exact absurd (show j<(ins.inst 0 x).bx.length from hj) (by omega)
 ·have:(ins.inst 0 x).bx.length=0:=by show (bxI id id ins.bx x.2.1).length=0; rw [bxI_len,hi]; rfl
  exact absurd (show j<(ins.inst 0 x).bx.length from hj) (by omega)
 ·
  have hmono:Mono (((thTm e n).inst 0 y).S (fun i=>S0 i∨env.φ i) env1) m1 ((t2.inst 0 y2).S S0 env2) m1:=fun i r hr hn=>⟨hr,fun w=>hn (hS1 i (hS2 i w))⟩
  show repL P ((t2.inst 0 y2).S S0 env2) m1 (Ty.l e).n (repE P ((t2.inst 0 y2).S S0 env2) m1 (.l e)) (bfL n y.2.2) v; have hlen:(bfL n y.2.2).length=n:=bfL_len; have hcc:cc.size=n:=by
   have:=repCs_len b6
   simp at this; exact this.symm
  refine .inr ⟨env1.β 0,0,none,n, ?_,Nat.le_of_eq hlen,.inr ⟨cc,eo',hrow,fun w => ?_,v6, ?_,fun q xs hq => ?_⟩⟩
  ·exact v4.trans (congrArg (fun q=>Value.slice (some ⟨env1.β 0,0,none⟩) q n) hlen.symm)
  ·have:=hS0 _ (hS2 _ w); omega
  ·exact Nat.le_trans (Nat.le_of_eq (by rw [Nat.zero_add]; exact (Nat.mul_one _).trans hlen)) (Nat.le_of_eq hcc.symm)
  ·have hqn:q<n:=Nat.lt_of_lt_of_eq (lt_of_get hq) hlen; obtain ⟨w,hw,hwr⟩:=repCs_get b6 (k:=q) (c := .o q) (by rw [List.getElem?_map,List.getElem?_range hqn]; rfl)
   have hex:(cc.extract (0+q*(Ty.l e).n) (0+q*(Ty.l e).n+(Ty.l e).n)).toList = [w]:=by
    show (cc.extract (0+q*1) (0+q*1+1)).toList = [w]; apply List.ext_getElem?
    intro r; rw [Array.getElem?_toList,Array.getElem?_extract]; rw [Array.getElem?_toList] at hw; by_cases hr:r<1
    ·obtain rfl:r=0:=by omega
     rw [if_pos (by omega)]; simpa using hw
    ·rw [if_neg (by omega),List.getElem?_eq_none (by simp; omega)]
   rw [hex]; refine ⟨w,rfl, ?_⟩; obtain ⟨b,hb,hbw⟩:=hwr; have hb':(bfI (List.replicate n e) y.2.2)[q]? = some b:=hb
   rw [bfI_bfL hq] at hb'; cases hb'; have:=buf_repL (hend.T.bf q _ hb) hbw
   exact repL.mono (P:=P) (n:=e.n) hmono (fun _ _ z=>repE.mono hmono z) this
def iT:Tm := { sl := [] }
def oT:Tm := { sl := [(0,.v .b)] }
def cT:Con:=⟨iT,.ret oT,fun _=>some ((true,()),(),())⟩
theorem orc_ok [Orc P] {k:FuncId} (h : ∀args:Array Value,args.size=0→Orc.O P k args=some (.bool true)):Con.OK P k cT:=by
 intro x y hF S0 env m args hT hB hsl hnil; have hs:args.size=0:=hnil; have hy:y=((true,()),(),()):=by have:some ((true,()),(),())=some y:=hF; cases this; rfl
 subst hy; refine ⟨.ret (.bool true),m,env,⟨0,fun n _ => ?_⟩,⟨Fr2.refl hT.free,hT,fun j hj=>absurd hj (Nat.not_lt_zero _),fun i w => .inl w,fun i w => .inl w,fun j hj=>absurd hj (Nat.not_lt_zero _),fun j L hj=>absurd hj (Nat.not_lt_zero _),fun i w=>w⟩,⟨.bool true,rfl,ofV_rep (.bool true)⟩⟩; unfold callF; rw [h args hs]
theorem noL [Orc P] {N:Nat} {c:Code} {LO:Tab} (h:loopsOf c = []) : ∀b∈loopsOf c,∀con,lookC LO (headReg b)=some con→con.LOK P N b:=loops_of (l := []) h trivial
end Go.IM.V
namespace Go.IM.V
open Go Go.IM Go.Proofs
set_option maxRecDepth 100000 in
theorem run8:isT (run0 Try.prog 400 8 #[])=true:=by kernel_rfl
instance orc8:Orc Try.prog:=Orc.one Try.prog 8 400 run8
noncomputable def F8:Option (OT.ret oT).E:=some ((true,()),(),())
noncomputable def c8:Con:=⟨iT,.ret oT,fun _=>F8⟩
theorem c8_ok:Con.OK Try.prog 8 c8:=orc_ok (fun _ h=>if_pos ⟨rfl,h⟩)
end Go.IM.V
namespace Go.IM.V
open Go Go.IM
variable {P:Program}
end Go.IM.V
namespace Go.IM.V
open Go Go.IM
variable {P:Program} {m m1:M} {S0:Nat→Prop} {env env1:Env} {a:Act} {vs:VS} {X Y:Cx} {ρ:Type} {C LO:Tab}
def NB (X0 X:Cx):Prop := ∀i,Wb X i→Wb X0 i∨X.m.bar≤i
theorem NB.step {X0 X Y:Cx} (hb:X.m.bar≤X.m.nxt) (h:NB X0 X) (hs:Stp X Y):NB X0 Y:=by
 intro i w; rw [hs.fr.bar]; rcases hs.wb i w with w | w
 ·exact h i w
 ·exact .inr (Nat.le_trans hb w)
noncomputable def vopR (P : Program) (C : Tab) (n0 : Nat) (vs : VS) (o : Oper) (K : Sl → VS → Option ρ) (Kp : Value → VS → Option ρ) : Option ρ :=
 match o.op with
 | .store t x y=>match vs.ev x with
  | .v (.s (.p j off))=>bif Nat.ble n0 j && (List.range n0).all (hasOf vs.bx) then match vstore P t (.v (.s (.p j off))) (vs.ev y) vs with
    | some (none,z,vs1)=>K z vs1
    | _=>none
   else none
  | _=>none
 | _=>vop P C true vs o K Kp
theorem vopR_sound [Orc P] (hC : TabOK P C) {o : Oper} (h : Rel P S0 env m a vs) {X0 : Cx} (hle : CxLe X0 (vs.cx S0 env m)) (hnb : NB X0 (vs.cx S0 env m)) {K : Sl → VS → Option ρ} {Kp : Value → VS → Option ρ} {r : ρ} (hv : vopR P C X0.nb vs o K Kp = some r) : OpE P S0 env m a vs o K Kp r := by
 unfold vopR at hv; split at hv
 ·rename_i t x y hop; split at hv
  ·rename_i j off hx; cases hc : (Nat.ble X0.nb j && (List.range X0.nb).all (hasOf vs.bx)) with
   | false=>rw [hc] at hv; cases hv
   | true =>
    rw [hc] at hv; simp only [cond_true] at hv; rw [Bool.and_eq_true] at hc; have hj0:=Nat.le_of_ble_eq_true hc.1; split at hv
    ·rename_i z vs1 hst; have hrx := ev_rep h x; rw [hx] at hrx; obtain ⟨_, rfl, m1, g1, g2, g3⟩ := vstore_soundN h (fun j' off' e hj hh => by
      cases e; rcases hnb (env.β j) (.inl ⟨j,hj,hh,rfl⟩) with w | w
      ·exfalso
       rcases w with ⟨j1,k1,k2,k3⟩|w
       ·have e1:=hle.β j1 k1; have h1:hasOf vs.bx j1=true:=by
         have:=hc.2
         rw [List.all_eq_true] at this; exact this j1 (List.mem_range.2 k1)
        have:=h.T.bxd j1 j (Nat.lt_of_lt_of_le k1 hle.nb) hj h1 hh (e1.trans k3)
        omega
       ·exact h.T.φd j hj hh (hle.φ _ w)
      ·exact w) hrx (ev_rep h y) hst
     refine .inl ⟨undef,m1,env,undefS,vs1,.inr (.inl ⟨?_,rfl⟩),g2,g3,undefS_rep,hv,fun y hy => ?_⟩
     ·unfold iop; rw [hop]; dsimp only; rw [g1]; rfl
     ·rw [hop] at hy; cases hy
    ·cases hv
  ·cases hv
 ·exact vop_sound hC h (low:=true) (fun q=>by cases q) hv
noncomputable def vopsR (P : Program) (C : Tab) (n0 : Nat) (ops : Array Oper) : List Nat → VS → (VS → Option ρ) → (Value → VS → Option ρ) → Option ρ
 | [],vs,K,_=>K vs
 | i::rest,vs,K,Kp=>match ops[i]? with
  | none=>none
  | some o=>bif okOp o then
    vguard vs ops o (fun vs=>vopR P C n0 vs o (fun x vs1=>splitK (splitO C o) x fun x=>bif vs1.fits o.dst then vopsR P C n0 ops rest (vs1.put o.dst x) K Kp else none) Kp) (fun vs=>bif vs.fits o.dst then vopsR P C n0 ops rest (vs.put o.dst undefS) K Kp else none)
   else none
theorem vopsR_sound [Orc P] (hC : TabOK P C) {ops : Array Oper} (D : List Deferred) {K : VS → Option ρ} {Kp : Value → VS → Option ρ} {r : ρ} {X0 : Cx} : ∀ (l : List Nat) {env : Env} {m : M} {tm : Array Value} {ds : List Deferred} {vs : VS}, vopsR P C X0.nb ops l vs K Kp = some r → Rel P S0 env m ⟨tm, ds⟩ vs → CxLe X0 (vs.cx S0 env m) → NB X0 (vs.cx S0 env m) →
  ∃e tm1 ds1 m1 env1 vs1,Ops P ops l ⟨tm,ds++D⟩ m e ⟨tm1,ds1++D⟩ m1∧Rel P S0 env1 m1 ⟨tm1,ds1⟩ vs1∧Stp (vs.cx S0 env m) (vs1.cx S0 env1 m1)∧tm1.size=tm.size∧((e = .normal∧K vs1=some r) ∨ ∃w,e = .pnc w∧Kp w vs1=some r):=by
 intro l; induction l with
 | nil=>intro env m tm ds vs hv h hle hb; exact ⟨.normal,tm,ds,m,env,vs,Ops.nil,h,Stp.refl h.T.free,rfl,.inl ⟨rfl,hv⟩⟩
 | cons i rest ih =>
  intro env m tm ds vs hv h hle hb; simp only [vopsR] at hv; split at hv
  ·cases hv
  ·rename_i o ho; obtain ⟨hok, hv⟩ := cond_some hv; obtain ⟨vs', h', hsame, hv⟩ := vguard_sound h hv; have hcx' := hsame.cx S0 env m
   rw [←hcx'] at hb hle ⊢; clear h hsame hcx'; have h:=h'; rcases hv with ⟨hw,hv⟩|⟨hw,hv⟩
   ·rcases vopR_sound hC h hle hb hv with ⟨v,m1,env1,x,vs1,h1,h2,h3,h4,h5,_⟩|⟨d,k,l,h1,h2,h3,_,h5⟩|⟨w,m1,env1,vs1,h1,h2,h3,h5⟩
    ·obtain ⟨hfit1,h5⟩:=cond_some (splitK_some h5); have h6:=h2.put hfit1 h4; have h5:vopsR P C X0.nb ops rest (vs1.put o.dst x) K Kp=some r:=h5; rw [put_defers tm ds ds] at h6; have hcx:(vs1.put o.dst x).cx S0 env1 m1=vs1.cx S0 env1 m1:=by cases o.dst <;> rfl
     have hb1:=NB.step h.T.bar hb h3; have hle1:=hle.trans h3.le; obtain ⟨e,tm2,ds2,m2,env2,vs2,g1,g2,g3,g4,g5⟩:=ih h5 h6 (by rw [hcx]; exact hle1) (by rw [hcx]; exact hb1)
     rw [hcx] at g3; refine ⟨e,tm2,ds2,m2,env2,vs2, ?_,g2,h3.trans h.T.free g3,by rw [g4]; exact put_size _ _ _,g5⟩
     have hp2:(⟨tm,ds++D⟩:Act).put o.dst v=⟨((⟨tm,ds⟩:Act).put o.dst v).tmps,ds++D⟩:=put_defers _ _ _ _ _; rw [←hp2] at g1; rcases Comes.defers (ds':=ds++D) h1 with h7|⟨h7,rfl⟩|⟨f,args,m0,h7,h8⟩
     ·exact Ops.val ho hw hok h7 g1
     ·exact Ops.skip ho hw hok h7 g1
     ·exact Ops.call' ho hw hok h7 h8 g1
    ·obtain ⟨hfit1,h5⟩:=cond_some (splitK_some h5); have h5:vopsR P C X0.nb ops rest (({ vs' with df:=(k,l)::vs'.df }:VS).put o.dst undefS) K Kp=some r:=h5; have h6:Rel P S0 env m ⟨tm,d::ds⟩ { vs' with df:=(k,l)::vs'.df }:=⟨h.T,h.size,h.sl,h2,h3,h.df⟩; have h7:Rel P S0 env m ⟨((⟨tm,d::ds⟩:Act).put o.dst undef).tmps,d::ds⟩ (({ vs' with df:=(k,l)::vs'.df }:VS).put o.dst undefS):=by
      have:=h6.put (d:=o.dst) (x:=undefS) (v:=undef) hfit1 undefS_rep
      rw [put_defers tm (d::ds) (d::ds)] at this; exact this
     have hcx:(({ vs' with df:=(k,l)::vs'.df }:VS).put o.dst undefS).cx S0 env m=vs'.cx S0 env m:=by cases o.dst <;> rfl
     obtain ⟨e,tm2,ds2,m2,env2,vs2,g1,g2,g3,g4,g5⟩:=ih h5 h7 (by rw [hcx]; exact hle) (by rw [hcx]; exact hb)
     rw [hcx] at g3; refine ⟨e,tm2,ds2,m2,env2,vs2, ?_,g2,g3,by rw [g4]; exact put_size _ _ _,g5⟩
     refine Ops.dfr (m1:=m) (d:=d) ho hw hok (by rw [eval_defers tm (ds++D) ds]; exact h1) ?_
     have hp2:(⟨tm,d::(ds++D)⟩:Act).put o.dst undef=⟨((⟨tm,d::ds⟩:Act).put o.dst undef).tmps,(d::ds)++D⟩:=put_defers _ _ _ _ _; rw [←hp2] at g1; exact g1
    ·refine ⟨.pnc w,tm,ds,m1,env1,vs1, ?_,h2,h3,rfl,.inr ⟨w,rfl,h5⟩⟩; rcases h1 with h1|⟨f,args,h1,h6⟩
     ·exact Ops.pnc ho hw hok (by rw [eval_defers tm (ds++D) ds]; exact h1)
     ·exact Ops.call_pnc ho hw hok (by rw [eval_defers tm (ds++D) ds]; exact h1) h6
   ·obtain ⟨hfit,hv⟩:=cond_some hv; have h6:=h.put hfit undefS_rep; rw [put_defers tm ds ds] at h6; have hcx:(vs'.put o.dst undefS).cx S0 env m=vs'.cx S0 env m:=by cases o.dst <;> rfl
    obtain ⟨e,tm2,ds2,m2,env2,vs2,g1,g2,g3,g4,g5⟩:=ih hv h6 (by rw [hcx]; exact hle) (by rw [hcx]; exact hb)
    rw [hcx] at g3; refine ⟨e,tm2,ds2,m2,env2,vs2, ?_,g2,g3,by rw [g4]; exact put_size _ _ _,g5⟩
    have hp2:(⟨tm,ds++D⟩:Act).put o.dst undef=⟨((⟨tm,ds⟩:Act).put o.dst undef).tmps,ds++D⟩:=put_defers _ _ _ _ _; rw [←hp2] at g1; exact Ops.unwanted ho hw g1
noncomputable def vrunR (P:Program) (C:Tab) (n0:Nat):Nat→Code→VS→(Out→VS→Option ρ)→Option ρ
 | 0,_,_,_=>none
 | n+1,c,vs,K=>
  match c with
  | .skip | .label _=>K .normal vs
  | .exit id=>K (.exit id) vs
  | .ret=>K .ret vs
  | .region id ops false=>vopsR P C n0 ops (List.range ops.size) vs (K .normal) (fun v vs1=>K (.pnc v) vs1)
  | .seq x y=>vrunR P C n0 n x vs fun o vs1=>match o with
   | .normal=>vrunR P C n0 n y vs1 K
   | o=>K o vs1
  | .cond c x y=>if okOperand c then match vs.ev c with
   | .v (.s (.c (.bool b)))=>cond b (vrunR P C n0 n x (vs.setO c true) K) (vrunR P C n0 n y (vs.setO c false) K)
   | _=>none
   else none
  | .block id b=>vrunR P C n0 n b vs fun o vs1=>match o with
   | .exit id'=>bif Nat.beq id' id then K .normal vs1 else K (.exit id') vs1
   | o=>K o vs1
  | _=>none
theorem vrunR_sound [Orc P] (hC : TabOK P C) {X0 : Cx} (D : List Deferred) : ∀ (n : Nat) {c : Code} {K : Out → VS → Option ρ} {r : ρ} {env : Env} {m : M} {tm : Array Value} {ds : List Deferred} {vs : VS},
  vrunR P C X0.nb n c vs K=some r→Rel P S0 env m ⟨tm,ds⟩ vs→CxLe X0 (vs.cx S0 env m)→NB X0 (vs.cx S0 env m) →
  ∃e tm1 ds1 m1 env1 vs1,Ev.To P c ⟨tm,ds++D⟩ m e ⟨tm1,ds1++D⟩ m1∧Rel P S0 env1 m1 ⟨tm1,ds1⟩ vs1∧Stp (vs.cx S0 env m) (vs1.cx S0 env1 m1)∧tm1.size=tm.size∧K e vs1=some r:=by
 intro n; induction n with
 | zero=>intro c K r env m tm ds vs hv; cases hv
 | succ n ih =>
  intro c K r env m tm ds vs hv h hle hnb; cases c with
  | skip=>exact ⟨_,tm,ds,m,env,vs,To.skip,h,Stp.refl h.T.free,rfl,hv⟩
  | label=>exact ⟨_,tm,ds,m,env,vs,To.label,h,Stp.refl h.T.free,rfl,hv⟩
  | exit id=>exact ⟨_,tm,ds,m,env,vs,To.exit,h,Stp.refl h.T.free,rfl,hv⟩
  | ret=>exact ⟨_,tm,ds,m,env,vs,To.ret,h,Stp.refl h.T.free,rfl,hv⟩
  | region id ops draw=>
   cases draw with
   | true=>cases hv
   | false=>
    simp only [vrunR] at hv; obtain ⟨e,tm1,ds1,m1,env1,vs1,g1,g2,g3,g4,g5⟩:=vopsR_sound hC D _ hv h hle hnb; refine ⟨e,tm1,ds1,m1,env1,vs1,To.region rfl g1,g2,g3,g4, ?_⟩; rcases g5 with ⟨rfl,g5⟩|⟨w,rfl,g5⟩ <;> exact g5
  | seq x y=>
   simp only [vrunR] at hv; obtain ⟨e,tm1,ds1,m1,env1,vs1,g1,g2,g3,g4,g5⟩:=ih hv h hle hnb; by_cases he:e = .normal
   ·subst he; dsimp only at g5; obtain ⟨e2,tm2,ds2,m2,env2,vs2,k1,k2,k3,k4,k5⟩:=ih g5 g2 (hle.trans g3.le) (NB.step h.T.bar hnb g3); exact ⟨e2,tm2,ds2,m2,env2,vs2,To.seq g1 k1,k2,g3.trans h.T.free k3,k4.trans g4,k5⟩
   ·refine ⟨e,tm1,ds1,m1,env1,vs1,To.seq_out g1 he,g2,g3,g4, ?_⟩; cases e <;> first | exact absurd rfl he | exact g5
  | cond c x y =>
   simp only [vrunR] at hv; split at hv
   ·rename_i hok; split at hv
    ·rename_i b hcv; have hrc:=ev_rep h c; rw [hcv] at hrc; have hev:(⟨tm,ds++D⟩:Act).eval c = .bool b:=by rw [eval_defers tm (ds++D) ds]; exact hrc.1
     have hset:Rel P S0 env m ⟨tm,ds⟩ (vs.setO c b)∧(vs.setO c b).cx S0 env m=vs.cx S0 env m:=by
      cases c with
      | tmp t=>exact ⟨h.setB hcv,rfl⟩
      | _=>exact ⟨h,rfl⟩
     obtain ⟨hset,hcxs⟩:=hset; cases b with
     | true=>
      obtain ⟨e,tm1,ds1,m1,env1,vs1,g1,g2,g3,g4,g5⟩:=ih hv hset (by rw [hcxs]; exact hle) (by rw [hcxs]; exact hnb)
      rw [hcxs] at g3; exact ⟨e,tm1,ds1,m1,env1,vs1,To.cond hok hev g1,g2,g3,g4,g5⟩
     | false=>
      obtain ⟨e,tm1,ds1,m1,env1,vs1,g1,g2,g3,g4,g5⟩:=ih hv hset (by rw [hcxs]; exact hle) (by rw [hcxs]; exact hnb)
      rw [hcxs] at g3; exact ⟨e,tm1,ds1,m1,env1,vs1,To.cond hok hev g1,g2,g3,g4,g5⟩
    ·cases hv
   ·cases hv
  | block id b=>
   simp only [vrunR] at hv; obtain ⟨e,tm1,ds1,m1,env1,vs1,g1,g2,g3,g4,g5⟩:=ih hv h hle hnb; by_cases he : ∃id',e = .exit id'
   ·obtain ⟨id',rfl⟩:=he; dsimp only at g5; cases hq:Nat.beq id' id with
    | true=>
     rw [hq] at g5; have:=Nat.eq_of_beq_eq_true hq
     subst this; exact ⟨_,tm1,ds1,m1,env1,vs1,To.block g1,g2,g3,g4,g5⟩
    | false=>
     rw [hq] at g5; exact ⟨_,tm1,ds1,m1,env1,vs1,To.block_out g1 (by intro h2; cases h2; exact Nat.ne_of_beq_eq_false hq rfl),g2,g3,g4,g5⟩
   ·refine ⟨e,tm1,ds1,m1,env1,vs1,To.block_out g1 (fun h2=>he ⟨_,h2⟩),g2,g3,g4, ?_⟩; cases e <;> first | exact absurd ⟨_,rfl⟩ he | exact g5
  | _=>cases hv
def vleafR (P:Program) (fn:Func) (n:Nat) (o:OT) (out:Out) (vs:VS):Option o.E:=
 match out,vs.df with
 | .ret, []=>vleafE P fn n o .ret vs
 | .normal, []=>vleafE P fn n o .ret vs
 | _,_=>none
noncomputable def vfnR (P:Program) (C:Tab) (fn:Func) (c:Code) (ins:Tm) (o:OT) (x:ins.E):Option o.E:=
 vrunR P C ins.bx.length 100 c (ins.inst fn.ntmps x) (vleafR P fn ins.bx.length o)
theorem fn_okR [Orc P] (hC : TabOK P C) {k : FuncId} {fn : Func} {c : Code} (hor : ∀ args, Orc.O P k args = none) (hf : P.funcs[k]? = some fn) (hb : fn.body = some c) (ins : Tm) (out : OT) : Con.OKR P k ⟨ins, out, vfnR P C fn c ins out⟩ := by
 intro x y hF S0 env m args hT hsl _; have hRel:Rel P S0 env m (frame fn args) (ins.inst fn.ntmps x):=⟨hT,frame_size fn args,fun i=>by rw [frame_get]; exact accL_rep hsl i,trivial⟩
 obtain ⟨e,tm1,ds1,m2,env2,vs2,⟨n1,g1⟩,k2,hst,g4,g5⟩:=vrunR_sound (X0:=ins.cx x S0 env m) (tm:=(frame fn args).tmps) (ds := []) hC [] 100 (show vrunR P C (ins.cx x S0 env m).nb 100 c (ins.inst fn.ntmps x) (vleafR P fn ins.bx.length out)=some y from by rw [show (ins.cx x S0 env m).nb=ins.bx.length from bxI_len]; exact hF) hRel (CxLe.refl _) (fun i w => .inl w)
 rw [List.append_nil] at g1; have hnb : (ins.cx x S0 env m).nb = ins.bx.length := bxI_len; have lv : (e = .ret ∨ e = .normal) → vs2.df = [] → vleafE P fn ins.bx.length out .ret vs2 = some y →
   ∃c1 m1 env1,Cal P k args m c1 m1∧Ended P (ins.cx x S0 env m) S0 env1 m1 (out.out y).2.1 (out.out y).2.2∧EndsC P ((out.out y).2.1.cx (out.out y).2.2 S0 env1 m1) (out.out y).1 (slI id id (out.out y).2.1.sl (out.out y).2.2.1) c1:=by
  intro he hdf k4; have hds:ds1 = []:=by
   have:=k2.df
   rw [hdf] at this; cases ds1 with
   | nil=>rfl
   | cons=>exact this.elim
  subst hds; have hst:Stp (ins.cx x S0 env m) (vs2.cx S0 env2 m2):=hst; have hcal : ∀co m3,(∀n,leave P (E P n) fn tm1 [] .ret m2=some (co,m3))→Cal P k args m co m3:=fun co m3 hall=>⟨n1,fun n hn=>by
   unfold callF; rw [hor]; dsimp only; rw [hf]; dsimp only; rw [hb]; dsimp only; have hfr:(frame fn args)=⟨(frame fn args).tmps, []⟩:=rfl; rw [hfr,g1 n hn]; rcases he with rfl | rfl
   ·simpa using hall n
   ·simpa using hall n⟩
  unfold vleafE at k4; dsimp only at k4
  ·obtain ⟨env2', r1, r2⟩ := rehome_sound (o := out) (n := ins.bx.length) k2 rfl; have hst := hst.trans hT.free r2; clear r2; generalize rehome out ins.bx.length vs2 = vs3 at *; obtain ⟨hkeys, k4⟩ := cond_some k4; simp only [Option.bind_eq_some_iff] at k4; obtain ⟨l, hl, hm⟩ := k4; obtain ⟨hlen, ws, hws, hrep0⟩ := vresL_sound r1 hl; have hwl : ws.length = fn.results.size := by
    have h5 : ∀{l:List S1} {ws:List Value},repSs P (vs3.cx S0 env2' m2) l ws→l.length=ws.length:=by
     intro l; induction l with
     | nil=>intro ws h; cases ws with
      | nil=>rfl
      | cons=>exact h.elim
     | cons c l ih=>intro ws h; cases ws with
      | nil=>exact h.elim
      | cons w ws=>simp [ih h.2]
    rw [←h5 hrep0,hlen]; simp
   split at hm
   case h_2=>cases hm
   rename_i rt hrt; obtain ⟨env3,g2',g3',hrep⟩:=prep_sound (pl:=rt.sl) (bf:=rt.bf) r1 hrep0 rfl; have hst:=hst.trans hT.free g3'; clear g3'; obtain ⟨h1,⟨q,hq⟩,_,h4⟩:=OT.mat_some hm; have h4:=h4 rfl _ hkeys; obtain ⟨hE,hs2⟩:=Ended.of_mat hst g2'.T hnb (av:=fun i=>ws.toArray.getD i undef) (fun p _=>accS_rep hrep p.1) hq; have hsll:(out.out y).2.1.sl.length=ws.length:=by rw [hwl,←List.length_map (f:=(·.1)),h4,List.length_range]
   have hss:=slots_list (ws:=ws) (n:=0) (l:=(out.out y).2.1.sl) (x:=(out.out y).2.2.1) (fun i hi=>by
    rw [←List.getElem?_map,h4,List.getElem?_range (by rw [←hwl,←hsll]; exact hi),Nat.zero_add]) (by rw [hsll]; omega) (fun i=>by rw [Array.getD_eq_getD_getElem?]; simp) hs2
   rw [List.drop_zero] at hss; have hres : ∃ v, iresults P fn tm1 m2 = some v ∧ repV P ((out.out y).2.1.cx (out.out y).2.2 S0 (env3.sub q True) m2) (resSl (slI id id (out.out y).2.1.sl (out.out y).2.2.1)) v := by
    unfold iresults; rw [hws]; have hsl2:(slI id id (out.out y).2.1.sl (out.out y).2.2.1).length=ws.length:=by
     rw [←hsll]; have : ∀{l:List (Nat × Pt)} {x:SlE l},(slI id id l x).length=l.length:=by
      intro l; induction l with
      | nil=>intro x; rfl
      | cons p l ih=>intro x; show (_::_).length=_; simp [ih]
     exact this
    generalize slI id id (out.out y).2.1.sl (out.out y).2.2.1=L at hss hsl2; cases L with
    | nil=>cases ws with
     | nil=>exact ⟨_,rfl, #[],rfl,trivial⟩
     | cons=>simp at hsl2
    | cons p L=>
     cases ws with
     | nil=>simp at hsl2
     | cons w ws=>
      cases L with
      | nil=>cases ws with
       | nil=>exact ⟨w,rfl,hss.1⟩
       | cons=>simp at hsl2
      | cons p2 L=>cases ws with
       | nil=>simp at hsl2
       | cons w2 ws=>exact ⟨_,rfl,_,rfl,hss⟩
   obtain ⟨v,hv1,hv2⟩:=hres; have hlv : ∀n,leave P (E P n) fn tm1 [] .ret m2=some (.ret v,m2):=fun n=>by simp only [leave,hv1,Option.map_some]
   refine ⟨.ret v,m2,env3.sub q True,hcal _ _ hlv,hE, ?_⟩; rw [h1]; exact ⟨v,rfl,hv2⟩
 unfold vleafR at g5; cases e with
 | ret=>
  cases hd:vs2.df with
  | nil=>rw [hd] at g5; exact lv (.inl rfl) hd g5
  | cons=>rw [hd] at g5; cases g5
 | normal=>
  cases hd:vs2.df with
  | nil=>rw [hd] at g5; exact lv (.inr rfl) hd g5
  | cons=>rw [hd] at g5; cases g5
 | exit id=>cases hd:vs2.df <;> (rw [hd] at g5; cases g5)
 | pnc v=>cases hd:vs2.df <;> (rw [hd] at g5; cases g5)
theorem Con.OKR.congr [Orc P] {k:FuncId} {ins:Tm} {out:OT} {F G:ins.E→Option out.E} (h:Con.OKR P k ⟨ins,out,F⟩) (hG : ∀x,G x=F x):Con.OKR P k ⟨ins,out,G⟩:=by
 have:G=F:=funext hG
 rw [this]; exact h
theorem Con.OKR.ok [Orc P] {k:FuncId} {con:Con} (h:Con.OKR P k con):Con.OK P k con:=fun x y hF S0 env m args hT _ hsl hn=>h x y hF S0 env m args hT hsl hn
end Go.IM.V
namespace Go.IM.V
open Go Go.IM
variable {P:Program} {C LO:Tab}
def codeOf (fn:Func):Code:=fn.body.getD .skip
def lps:Code→List Code
 | .seq x y=>lps x++lps y
 | .cond _ x y=>lps x++lps y
 | .block _ x=>lps x
 | .loop b=>b::lps b
 | _ => []
def lpOf (fn:Func) (r:Nat):Code:=((lps (codeOf fn)).find? fun b=>Nat.beq (headReg b) r).getD .skip
theorem bodyOf {fn:Func} (h:fn.body.isSome=true):fn.body=some (codeOf fn):=by
 unfold codeOf; cases hb:fn.body with
 | none=>rw [hb] at h; cases h
 | some c=>rfl
def LoopsX (P:Program) [Orc P] (fn:Func):Tab→Prop
 | []=>True
 | (r,con)::l=>con.LOK P fn.ntmps (lpOf fn r)∧LoopsX P fn l
theorem LoopsX.get [Orc P] {fn:Func} {l:Tab} (h:LoopsX P fn l) {r:Nat} {con:Con} (hc:lookC l r=some con):con.LOK P fn.ntmps (lpOf fn r):=by
 induction l with
 | nil=>cases hc
 | cons p l ih=>
  obtain ⟨r',c'⟩:=p; simp only [lookC] at hc; cases hb:Nat.beq r' r with
  | true=>rw [hb] at hc; cases hc; have:=Nat.eq_of_beq_eq_true hb; subst this; exact h.1
  | false=>rw [hb] at hc; exact ih h.2 hc
theorem loopsX [Orc P] {fn:Func} {c:Code} {rs:List Nat} (h:loopsOf c=rs.map (lpOf fn)∧rs.map (fun r=>headReg (lpOf fn r))=rs) (hL:LoopsX P fn LO) : ∀b∈loopsOf c,∀con,lookC LO (headReg b)=some con→con.LOK P fn.ntmps b:=by
 intro b hb con hc; rw [h.1] at hb; obtain ⟨r,hr,rfl⟩:=List.mem_map.1 hb; have:headReg (lpOf fn r)=r:=by
  have h2:=h.2; obtain ⟨i,hi⟩:=List.getElem?_of_mem hr; have h3:=congrArg (·[i]?) h2; simp only [List.getElem?_map,hi,Option.map_some,Option.some.injEq] at h3; exact h3
 rw [this] at hc; exact hL.get hc
theorem Con.OK.of [Orc P] {k:FuncId} {con:Con} {F:con.ins.E→Option con.out.E} (h:Con.OK P k ⟨con.ins,con.out,F⟩) (hF : ∀x,F x=con.F x):Con.OK P k con:=by
 obtain ⟨i,o,G⟩:=con; exact h.congr fun x=>(hF x).symm
theorem Con.LOK.of [Orc P] {N:Nat} {b:Code} {con:Con} {F:con.ins.E→Option con.out.E} (h:Con.LOK P N b ⟨con.ins,con.out,F⟩) (hF : ∀x,con.F x=F x):Con.LOK P N b con:=by
 obtain ⟨i,o,G⟩:=con; exact h.congr hF
theorem Con.OKR.of [Orc P] {k:FuncId} {con:Con} {F:con.ins.E→Option con.out.E} (h:Con.OKR P k ⟨con.ins,con.out,F⟩) (hF : ∀x,F x=con.F x):Con.OKR P k con:=by
 obtain ⟨i,o,G⟩:=con; exact h.congr fun x=>(hF x).symm
theorem fnX [Orc P] {k:FuncId} {fn:Func} {con:Con} (C:Tab) (hC:TabOK P C) (hf:P.funcs[k]? = some fn) (hor : ∀args,Orc.O P k args=none:=by exact fun _=>rfl) (hb:(fn.body.isSome,loopsOf (codeOf fn))=(true, []):=by kernel_rfl) (he : ∀x,vfn P C [] fn (codeOf fn) con.ins con.out x=con.F x:=by intro x; kernel_rfl):Con.OK P k con:=
 (fn_ok hC hor hf (bodyOf (Prod.mk.inj hb).1) (noL (Prod.mk.inj hb).2) con.ins con.out).of he
theorem fnL [Orc P] {k:FuncId} {fn:Func} {con:Con} (C LO:Tab) (rs:List Nat) (hC:TabOK P C) (hL:LoopsX P fn LO) (hf:P.funcs[k]? = some fn) (hor : ∀args,Orc.O P k args=none:=by exact fun _=>rfl) (hb:(fn.body.isSome,loopsOf (codeOf fn),rs.map (fun r=>headReg (lpOf fn r)))=(true,rs.map (lpOf fn),rs):=by kernel_rfl) (he : ∀x,vfn P C LO fn (codeOf fn) con.ins con.out x=con.F x:=by intro x; kernel_rfl):Con.OK P k con:=
 (fn_ok hC hor hf (bodyOf (Prod.mk.inj hb).1) (loopsX (Prod.mk.inj (Prod.mk.inj hb).2) hL) con.ins con.out).of he
theorem fnR [Orc P] {k:FuncId} {fn:Func} {con:Con} (C:Tab) (hC:TabOK P C) (hf:P.funcs[k]? = some fn) (hor : ∀args,Orc.O P k args=none:=by exact fun _=>rfl) (hb:fn.body.isSome=true:=by kernel_rfl) (he : ∀x,vfnR P C fn (codeOf fn) con.ins con.out x=con.F x:=by intro x; kernel_rfl):Con.OKR P k con:=
 (fn_okR hC hor hf (bodyOf hb) con.ins con.out).of he
theorem lpX [Orc P] {fn:Func} {con:Con} {r:Nat} (C LO:Tab) (rs:List Nat) (T:con.ins.E→Option (con.ins.E ⊕ con.out.E)) (hC:TabOK P C) (hL:LoopsX P fn LO) (hb:(loopsOf (lpOf fn r),rs.map (fun r=>headReg (lpOf fn r)))=(rs.map (lpOf fn),rs):=by kernel_rfl) (he : ∀x,vround P C LO fn.ntmps (lpOf fn r) con.ins con.out x=T x:=by intro x; kernel_rfl) (hT : ∀x,con.F x=loopF T x:=by exact fun x=>rfl):Con.LOK P fn.ntmps (lpOf fn r) con:=
 (loop_ok hC (loopsX (Prod.mk.inj hb) hL) con.ins con.out).of fun x=>by rw [hT]; exact (congrArg (fun T=>loopF T x) (funext he)).symm
end Go.IM.V
namespace Go.IM.V
open Go Go.IM Go.Proofs
abbrev DCe:Type:=(Int × ((List Int) × (Nat × Unit)))
abbrev tDCe:Ty:=(.p (.i .u8) (.p (.l (.i .u8)) (.p (.f .f64) .u)))
abbrev DEv:Type:=(Int × (Int × (Int × (Int × (ByteArray × ((List Int) × (Nat × (Int × Unit))))))))
abbrev tDEv:Ty:=(.p (.i .i64) (.p (.i .u64) (.p (.i .u64) (.p (.i .u8) (.p .s (.p (.l (.i .u8)) (.p (.f .f64) (.p (.i .i64) .u))))))))
abbrev DVn:Type:=((Int × (Int × Unit)) × (DCe × (Bool × Unit)))
abbrev tDVn:Ty:=(.p (.p (.i .u64) (.p (.i .i64) .u)) (.p tDCe (.p .b .u)))
abbrev zE:DEv:=((0:Int),((0:Int),((0:Int),((0:Int),(ByteArray.empty,([],((0:Nat),((0:Int),()))))))))
abbrev zV:DVn:=(((0:Int),((0:Int),())),(((0:Int),([],((0:Nat),()))),(false,())))
abbrev ZFt:Type:=(Unit × ((List Bool) × ((List Bool) × ((List Int) × (Int × (Int × (Int × Unit)))))))
abbrev ZVt:Type:=((List DVn) × ((List DVn) × ((List DVn) × ((List DVn) × Unit))))
abbrev ZMt:Type:=(Unit × (Unit × (Unit × (Unit × (Unit × Unit)))))
abbrev ZUt:Type:=(Unit × (Unit × (Unit × Unit)))
abbrev ZKt:Type:=((List (ByteArray × DCe)) × Unit)
abbrev ZHt:Type:=((Int × Unit) × (((List (List DEv)) × Unit) × Unit))
noncomputable def F103 (a0:Nat):Option ((Bool × Unit) × Unit × Unit):=
 (some ((((FloatKind.f64).format.order (a0) (a0) != some Ordering.eq),()),(),()))
noncomputable def c103:Con:=⟨{ sl := [(0,.v (.f .f64))] },(.ret { sl := [(0,.v .b)] }),fun x=>F103 x.1.1⟩
theorem c103_ok:Con.OK Try.prog 103 c103:=fnX [] trivial Try.func103
noncomputable def F77 (a0:Nat):Option ((Int × Unit) × Unit × Unit):=
 ((F103 a0).bind fun y0=>(bif y0.1.1 then (some ((9221120237041090561,()),(),())) else (some (((((a0):Nat):Int),()),(),()))))
noncomputable def c77:Con:=⟨{ sl := [(0,.v (.f .f64))] },(.ret { sl := [(0,.v (.i .u64))] }),fun x=>F77 x.1.1⟩
theorem c77_ok:Con.OK Try.prog 77 c77:=fnX [(103,c103)] ⟨c103_ok,trivial⟩ Try.func77
noncomputable def F38 (a0:Nat) (a1:Nat):Option ((Bool × Unit) × Unit × Unit):=
 ((F77 a0).bind fun y0=>((F77 a1).bind fun y1=>(some ((((y0.1.1:Int) == y1.1.1),()),(),()))))
noncomputable def c38:Con:=⟨{ sl := [(0,.v (.f .f64)),(1,.v (.f .f64))] },(.ret { sl := [(0,.v .b)] }),fun x=>F38 x.1.1 x.1.2.1⟩
theorem c38_ok:Con.OK Try.prog 38 c38:=fnX [(77,c77)] ⟨c77_ok,trivial⟩ Try.func38
noncomputable def F89 (a0:Int):Option ((Bool × Unit) × Unit × Unit):=
 (bif (decide ((a0:Int)≥0)) then (some (((decide ((a0:Int)<64)),()),(),())) else (some ((false,()),(),())))
noncomputable def c89:Con:=⟨{ sl := [(0,.v (.i .i64))] },(.ret { sl := [(0,.v .b)] }),fun x=>F89 x.1.1⟩
theorem c89_ok:Con.OK Try.prog 89 c89:=fnX [] trivial Try.func89
noncomputable def F51 (a0:DEv):Option ((Int × Unit) × Unit × Unit):=
 (bif (decide ((a0.2.2.2.1:Int)≥1)) then ((F89 a0.1).bind fun y0=>(bif (!y0.1.1) then (some ((1,()),(),())) else (bif ((a0.2.1:Int) == 0) then (some ((1,()),(),())) else (bif ((a0.2.2.1:Int) == 0) then (some ((1,()),(),())) else (bif (decide ((a0.2.2.2.1:Int)<1)) then (some ((1,()),(),())) else (bif (decide ((a0.2.2.2.1:Int) > 6)) then (some ((1,()),(),())) else (bif ((a0.2.2.2.1:Int) == 5) then ((F89 a0.2.2.2.2.2.2.2.1).bind fun y1=>(bif (!y1.1.1) then (some ((1,()),(),())) else (bif (decide ((a0.2.2.2.1:Int)≤4)) then (bif ((((a0.2.2.2.2.1.size:Nat):Int):Int) == 0) then (some ((6,()),(),())) else (bif (decide ((((a0.2.2.2.2.1.size:Nat):Int):Int) > 64)) then (some ((6,()),(),())) else (bif ((a0.2.2.2.1:Int) == 1) then (bif (decide (((((a0.2.2.2.2.2.1).length:Nat):Int):Int) > 1048576)) then (some ((6,()),(),())) else (bif (decide ((a0.2.1:Int) > 9223372036854775807)) then (some ((8,()),(),())) else (bif (decide ((a0.2.2.1:Int) > 9223372036854775807)) then (some ((8,()),(),())) else (some ((0,()),(),()))))) else (bif (decide ((a0.2.1:Int) > 9223372036854775807)) then (some ((8,()),(),())) else (bif (decide ((a0.2.2.1:Int) > 9223372036854775807)) then (some ((8,()),(),())) else (some ((0,()),(),()))))))) else (bif ((a0.2.2.2.1:Int) == 1) then (bif (decide (((((a0.2.2.2.2.2.1).length:Nat):Int):Int) > 1048576)) then (some ((6,()),(),())) else (bif (decide ((a0.2.1:Int) > 9223372036854775807)) then (some ((8,()),(),())) else (bif (decide ((a0.2.2.1:Int) > 9223372036854775807)) then (some ((8,()),(),())) else (some ((0,()),(),()))))) else (bif (decide ((a0.2.1:Int) > 9223372036854775807)) then (some ((8,()),(),())) else (bif (decide ((a0.2.2.1:Int) > 9223372036854775807)) then (some ((8,()),(),())) else (some ((0,()),(),())))))))) else (bif (decide ((a0.2.2.2.1:Int)≤4)) then (bif ((((a0.2.2.2.2.1.size:Nat):Int):Int) == 0) then (some ((6,()),(),())) else (bif (decide ((((a0.2.2.2.2.1.size:Nat):Int):Int) > 64)) then (some ((6,()),(),())) else (bif ((a0.2.2.2.1:Int) == 1) then (bif (decide (((((a0.2.2.2.2.2.1).length:Nat):Int):Int) > 1048576)) then (some ((6,()),(),())) else (bif (decide ((a0.2.1:Int) > 9223372036854775807)) then (some ((8,()),(),())) else (bif (decide ((a0.2.2.1:Int) > 9223372036854775807)) then (some ((8,()),(),())) else (some ((0,()),(),()))))) else (bif (decide ((a0.2.1:Int) > 9223372036854775807)) then (some ((8,()),(),())) else (bif (decide ((a0.2.2.1:Int) > 9223372036854775807)) then (some ((8,()),(),())) else (some ((0,()),(),()))))))) else (bif ((a0.2.2.2.1:Int) == 1) then (bif (decide (((((a0.2.2.2.2.2.1).length:Nat):Int):Int) > 1048576)) then (some ((6,()),(),())) else (bif (decide ((a0.2.1:Int) > 9223372036854775807)) then (some ((8,()),(),())) else (bif (decide ((a0.2.2.1:Int) > 9223372036854775807)) then (some ((8,()),(),())) else (some ((0,()),(),()))))) else (bif (decide ((a0.2.1:Int) > 9223372036854775807)) then (some ((8,()),(),())) else (bif (decide ((a0.2.2.1:Int) > 9223372036854775807)) then (some ((8,()),(),())) else (some ((0,()),(),()))))))))))))) else ((F89 a0.1).bind fun y2=>(bif (!y2.1.1) then (some ((1,()),(),())) else (bif ((a0.2.1:Int) == 0) then (some ((1,()),(),())) else (bif ((a0.2.2.1:Int) == 0) then (some ((1,()),(),())) else (bif (decide ((a0.2.2.2.1:Int)<1)) then (some ((1,()),(),())) else (bif (decide ((a0.2.2.2.1:Int) > 6)) then (some ((1,()),(),())) else (bif ((a0.2.2.2.1:Int) == 5) then ((F89 a0.2.2.2.2.2.2.2.1).bind fun y3=>(bif (!y3.1.1) then (some ((1,()),(),())) else (bif ((a0.2.2.2.1:Int) == 1) then (bif (decide (((((a0.2.2.2.2.2.1).length:Nat):Int):Int) > 1048576)) then (some ((6,()),(),())) else (bif (decide ((a0.2.1:Int) > 9223372036854775807)) then (some ((8,()),(),())) else (bif (decide ((a0.2.2.1:Int) > 9223372036854775807)) then (some ((8,()),(),())) else (some ((0,()),(),()))))) else (bif (decide ((a0.2.1:Int) > 9223372036854775807)) then (some ((8,()),(),())) else (bif (decide ((a0.2.2.1:Int) > 9223372036854775807)) then (some ((8,()),(),())) else (some ((0,()),(),()))))))) else (bif ((a0.2.2.2.1:Int) == 1) then (bif (decide (((((a0.2.2.2.2.2.1).length:Nat):Int):Int) > 1048576)) then (some ((6,()),(),())) else (bif (decide ((a0.2.1:Int) > 9223372036854775807)) then (some ((8,()),(),())) else (bif (decide ((a0.2.2.1:Int) > 9223372036854775807)) then (some ((8,()),(),())) else (some ((0,()),(),()))))) else (bif (decide ((a0.2.1:Int) > 9223372036854775807)) then (some ((8,()),(),())) else (bif (decide ((a0.2.2.1:Int) > 9223372036854775807)) then (some ((8,()),(),())) else (some ((0,()),(),())))))))))))))
noncomputable def c51:Con:=⟨{ sl := [(0,.v tDEv)] },(.ret { sl := [(0,.v (.i .i64))] }),fun x=>F51 x.1.1⟩
theorem c51_ok:Con.OK Try.prog 51 c51:=fnX [(89,c89)] ⟨c89_ok,trivial⟩ Try.func51
noncomputable def F111 (a0:Int):Option ((Bool × Unit) × Unit × Unit):=
 (some ((((a0:Int) != a0),()),(),()))
noncomputable def c111:Con:=⟨{ sl := [(0,.v (.i .u64))] },(.ret { sl := [(0,.v .b)] }),fun x=>F111 x.1.1⟩
theorem c111_ok:Con.OK Try.prog 111 c111:=fnX [] trivial Try.func111
noncomputable def F112 (a0:Int):Option ((Bool × Unit) × Unit × Unit):=
 (some ((((a0:Int) != a0),()),(),()))
noncomputable def c112:Con:=⟨{ sl := [(0,.v (.i .i64))] },(.ret { sl := [(0,.v .b)] }),fun x=>F112 x.1.1⟩
theorem c112_ok:Con.OK Try.prog 112 c112:=fnX [] trivial Try.func112
noncomputable def F87 (a0:Int) (a1:Int):Option ((Int × Unit) × Unit × Unit):=
 ((F111 a0).bind fun y0=>((F111 a1).bind fun y1=>(bif y0.1.1 then (bif y1.1.1 then (some ((0,()),(),())) else (some (((-1),()),(),()))) else (bif y1.1.1 then (some ((1,()),(),())) else (bif (decide ((a0:Int)<a1)) then (some (((-1),()),(),())) else (bif (decide ((a0:Int) > a1)) then (some ((1,()),(),())) else (some ((0,()),(),()))))))))
noncomputable def c87:Con:=⟨{ sl := [(0,.v (.i .u64)),(1,.v (.i .u64))] },(.ret { sl := [(0,.v (.i .i64))] }),fun x=>F87 x.1.1 x.1.2.1⟩
theorem c87_ok:Con.OK Try.prog 87 c87:=fnX [(111,c111)] ⟨c111_ok,trivial⟩ Try.func87
noncomputable def F88 (a0:Int) (a1:Int):Option ((Int × Unit) × Unit × Unit):=
 ((F112 a0).bind fun y0=>((F112 a1).bind fun y1=>(bif y0.1.1 then (bif y1.1.1 then (some ((0,()),(),())) else (some (((-1),()),(),()))) else (bif y1.1.1 then (some ((1,()),(),())) else (bif (decide ((a0:Int)<a1)) then (some (((-1),()),(),())) else (bif (decide ((a0:Int) > a1)) then (some ((1,()),(),())) else (some ((0,()),(),()))))))))
noncomputable def c88:Con:=⟨{ sl := [(0,.v (.i .i64)),(1,.v (.i .i64))] },(.ret { sl := [(0,.v (.i .i64))] }),fun x=>F88 x.1.1 x.1.2.1⟩
theorem c88_ok:Con.OK Try.prog 88 c88:=fnX [(112,c112)] ⟨c112_ok,trivial⟩ Try.func88
noncomputable def T86_3 (a3:Int) (a6:(List Int)) (a7:Int) (a8:Int):Option (((Int × ((List Int) × (Int × (Int × Unit)))) × Unit × Unit) ⊕ (((Int × Unit) × Unit × Unit) ⊕ (Unit × Unit × Unit))):=
 (bif (decide ((a8:Int)<a7)) then (bif (decide (0≤(a8:Int)∧(a8:Int)<(((a6).length:Nat):Int))) then (bif ((((a6).getD (a8:Int).toNat (0:Int)):Int) != a3) then (some (.inr (.inl ((((a6).getD (a8:Int).toNat (0:Int)),()),(),())))) else (some (.inl ((a3,a6,a7,(IntKind.wrap .i64 (a8+1)),()),(),())))) else none) else (some (.inr (.inr ((),(),())))))
noncomputable def L86_3 (a3:Int) (a6:(List Int)) (a7:Int) (a8:Int):Option (((Int × Unit) × Unit × Unit) ⊕ (Unit × Unit × Unit)):=loopF (fun x:((Int × ((List Int) × (Int × (Int × Unit)))) × Unit × Unit)=>T86_3 x.1.1 x.1.2.1 x.1.2.2.1 x.1.2.2.2.1) ((a3,a6,a7,a8,()),(),())
theorem L86_3_eq (a3:Int) (a6:(List Int)) (a7:Int) (a8:Int):L86_3 a3 a6 a7 a8=(T86_3 a3 a6 a7 a8).bind (Sum.elim (fun x=>L86_3 x.1.1 x.1.2.1 x.1.2.2.1 x.1.2.2.2.1) some):=loopF_eq _ _
noncomputable def k86_3:Con:=⟨{ sl := [(3,.v (.i .i64)),(6,.v (.l (.i .i64))),(7,.v (.i .i64)),(8,.v (.i .i64))] },(.two (.ret { sl := [(2,.v (.i .i64))] }) (.exit 0 { sl := [] })),fun x=>L86_3 x.1.1 x.1.2.1 x.1.2.2.1 x.1.2.2.2.1⟩
theorem k86_3_ok:Con.LOK Try.prog Try.f86.ntmps (lpOf Try.f86 3) k86_3:=lpX [] [] [] (fun x=>T86_3 x.1.1 x.1.2.1 x.1.2.2.1 x.1.2.2.2.1) trivial trivial
noncomputable def F86 (a0:(List Int)):Option ((Int × Unit) × Unit × Unit):=
 ((L86_3 0 a0 (((a0).length:Nat):Int) 0).bind fun y0=>(Sum.elim (fun y1=>(some (y1.1,(),()))) (fun y1=>(some ((0,()),(),()))) y0))
noncomputable def c86:Con:=⟨{ sl := [(0,.v (.l (.i .i64)))] },(.ret { sl := [(0,.v (.i .i64))] }),fun x=>F86 x.1.1⟩
theorem c86_ok:Con.OK Try.prog 86 c86:=fnL [] [(3,k86_3)] [3] trivial ⟨k86_3_ok,trivial⟩ Try.func86
noncomputable def F46 (a0:(Int × (Int × Unit))) (a1:(Int × (Int × Unit))):Option ((Int × Unit) × Unit × Unit):=
 ((F87 a0.1 a1.1).bind fun y0=>((F88 a0.2.1 a1.2.1).bind fun y1=>((F86 [y0.1.1,y1.1.1]).bind fun y2=>(some (y2.1,(),())))))
noncomputable def c46:Con:=⟨{ sl := [(0,.v (.p (.i .u64) (.p (.i .i64) .u))),(1,.v (.p (.i .u64) (.p (.i .i64) .u)))] },(.ret { sl := [(0,.v (.i .i64))] }),fun x=>F46 x.1.1 x.1.2.1⟩
theorem c46_ok:Con.OK Try.prog 46 c46:=fnX [(86,c86),(87,c87),(88,c88)] ⟨c86_ok,c87_ok,c88_ok,trivial⟩ Try.func46
noncomputable def F52 (a0:DEv):Option (((Int × (Int × Unit)) × Unit) × Unit × Unit):=
 (some (((a0.2.2.1,(a0.1,())),()),(),()))
noncomputable def c52:Con:=⟨{ sl := [(0,.v tDEv)] },(.ret { sl := [(0,.v (.p (.i .u64) (.p (.i .i64) .u)))] }),fun x=>F52 x.1.1⟩
theorem c52_ok:Con.OK Try.prog 52 c52:=fnX [] trivial Try.func52
noncomputable def F57 (a0:Nat):Option ((Nat × Unit) × Unit × Unit):=
 ((F77 a0).bind fun y0=>(some (((y0.1.1:Int).toNat,()),(),())))
noncomputable def c57:Con:=⟨{ sl := [(0,.v (.f .f64))] },(.ret { sl := [(0,.v (.f .f64))] }),fun x=>F57 x.1.1⟩
theorem c57_ok:Con.OK Try.prog 57 c57:=fnX [(77,c77)] ⟨c77_ok,trivial⟩ Try.func57
noncomputable def F58 (a0:Nat) (a1:Nat):Option ((Nat × Unit) × Unit × Unit):=
 (bif (((FloatKind.f64).format.add (a0) (a1))).isSome then ((F57 ((((FloatKind.f64).format.add (a0) (a1))).getD 0)).bind fun y0=>(some (y0.1,(),()))) else none)
noncomputable def c58:Con:=⟨{ sl := [(0,.v (.f .f64)),(1,.v (.f .f64))] },(.ret { sl := [(0,.v (.f .f64))] }),fun x=>F58 x.1.1 x.1.2.1⟩
theorem c58_ok:Con.OK Try.prog 58 c58:=fnX [(57,c57)] ⟨c57_ok,trivial⟩ Try.func58
noncomputable def F12 (a0:DEv):Option (((Int × (Int × Unit)) × Unit) × Unit × Unit):=
 (some (((a0.2.2.1,(a0.1,())),()),(),()))
noncomputable def c12:Con:=⟨{ sl := [(0,.v tDEv)] },(.ret { sl := [(0,.v (.p (.i .u64) (.p (.i .i64) .u)))] }),fun x=>F12 x.1.1⟩
theorem c12_ok:Con.OK Try.prog 12 c12:=fnX [] trivial Try.func12
noncomputable def F14 (a0:(Int × (Int × Unit))) (a1:(Int × (Int × Unit))):Option ((Bool × Unit) × Unit × Unit):=
 (bif (decide ((a0.1:Int)<a1.1)) then (some ((true,()),(),())) else (bif ((a0.1:Int) == a1.1) then (some (((decide ((a0.2.1:Int)<a1.2.1)),()),(),())) else (some ((false,()),(),()))))
noncomputable def c14:Con:=⟨{ sl := [(0,.v (.p (.i .u64) (.p (.i .i64) .u))),(1,.v (.p (.i .u64) (.p (.i .i64) .u)))] },(.ret { sl := [(0,.v .b)] }),fun x=>F14 x.1.1 x.1.2.1⟩
theorem c14_ok:Con.OK Try.prog 14 c14:=fnX [] trivial Try.func14
noncomputable def T73_1 (a1:Int) (q0:(List Int)):Option (((Unit × (Int × Unit)) × Unit × ((List Int) × Unit)) ⊕ ((Unit × (Int × Unit)) × Unit × ((List Int) × Unit))):=
 (bif (decide ((a1:Int)≥128)) then (bif (decide ((q0).length+([(iOr .u8 (IntKind.wrap .u8 a1) 128)]).length<lim)) then (some (.inl (((),(iShr .u64 a1 7),()),(),((q0 ++ [(iOr .u8 (IntKind.wrap .u8 a1) 128)]),())))) else none) else (some (.inr (((),a1,()),(),(q0,())))))
noncomputable def L73_1 (a1:Int) (q0:(List Int)):Option ((Unit × (Int × Unit)) × Unit × ((List Int) × Unit)):=loopF (fun x:((Unit × (Int × Unit)) × Unit × ((List Int) × Unit))=>T73_1 x.1.2.1 x.2.2.1) (((),a1,()),(),(q0,()))
theorem L73_1_eq (a1:Int) (q0:(List Int)):L73_1 a1 q0=(T73_1 a1 q0).bind (Sum.elim (fun x=>L73_1 x.1.2.1 x.2.2.1) some):=loopF_eq _ _
noncomputable def k73_1:Con:=⟨{ sl := [(0,.o 0),(1,.v (.i .u64))],bf := [(.i .u8)] },(.exit 0 { sl := [(0,.o 0),(1,.v (.i .u64))],bf := [(.i .u8)] }),fun x=>L73_1 x.1.2.1 x.2.2.1⟩
theorem k73_1_ok:Con.LOK Try.prog Try.f73.ntmps (lpOf Try.f73 1) k73_1:=lpX [] [] [] (fun x=>T73_1 x.1.2.1 x.2.2.1) trivial trivial
noncomputable def F73 (a1:Int) (q0:(List Int)):Option ((Unit × Unit) × Unit × ((List Int) × Unit)):=
 ((L73_1 a1 q0).bind fun y0=>(bif (decide ((y0.2.2.1).length+([(IntKind.wrap .u8 y0.1.2.1)]).length<lim)) then (some (((),()),(),((y0.2.2.1 ++ [(IntKind.wrap .u8 y0.1.2.1)]),()))) else none))
noncomputable def c73:Con:=⟨{ sl := [(0,.o 0),(1,.v (.i .u64))],bf := [(.i .u8)] },(.ret { sl := [(0,.o 0)],bf := [(.i .u8)] }),fun x=>F73 x.1.2.1 x.2.2.1⟩
theorem c73_ok:Con.OK Try.prog 73 c73:=fnL [] [(1,k73_1)] [1] trivial ⟨k73_1_ok,trivial⟩ Try.func73
noncomputable def T74_2 (a1:Int) (a5:Int) (q0:(List Int)):Option (((Unit × (Int × (Int × Unit))) × Unit × ((List Int) × Unit)) ⊕ ((Unit × Unit) × Unit × ((List Int) × Unit))):=
 (bif (decide ((a5:Int)≥0)) then (bif (decide ((0:Int)≤(IntKind.wrap .i64 (8*a5)))) then (bif (decide ((q0).length+([(IntKind.wrap .u8 (iShr .u64 a1 (IntKind.wrap .i64 (8*a5))))]).length<lim)) then (some (.inl (((),a1,(IntKind.wrap .i64 (a5 - 1)),()),(),((q0 ++ [(IntKind.wrap .u8 (iShr .u64 a1 (IntKind.wrap .i64 (8*a5))))]),())))) else none) else none) else (some (.inr (((),()),(),(q0,())))))
noncomputable def L74_2 (a1:Int) (a5:Int) (q0:(List Int)):Option ((Unit × Unit) × Unit × ((List Int) × Unit)):=loopF (fun x:((Unit × (Int × (Int × Unit))) × Unit × ((List Int) × Unit))=>T74_2 x.1.2.1 x.1.2.2.1 x.2.2.1) (((),a1,a5,()),(),(q0,()))
theorem L74_2_eq (a1:Int) (a5:Int) (q0:(List Int)):L74_2 a1 a5 q0=(T74_2 a1 a5 q0).bind (Sum.elim (fun x=>L74_2 x.1.2.1 x.1.2.2.1 x.2.2.1) some):=loopF_eq _ _
noncomputable def k74_2:Con:=⟨{ sl := [(0,.o 0),(1,.v (.i .u64)),(5,.v (.i .i64))],bf := [(.i .u8)] },(.exit 0 { sl := [(0,.o 0)],bf := [(.i .u8)] }),fun x=>L74_2 x.1.2.1 x.1.2.2.1 x.2.2.1⟩
theorem k74_2_ok:Con.LOK Try.prog Try.f74.ntmps (lpOf Try.f74 2) k74_2:=lpX [] [] [] (fun x=>T74_2 x.1.2.1 x.1.2.2.1 x.2.2.1) trivial trivial
noncomputable def F74 (a1:Int) (q0:(List Int)):Option ((Unit × Unit) × Unit × ((List Int) × Unit)):=
 ((L74_2 a1 7 q0).bind fun y0=>(some (((),()),(),y0.2.2)))
noncomputable def c74:Con:=⟨{ sl := [(0,.o 0),(1,.v (.i .u64))],bf := [(.i .u8)] },(.ret { sl := [(0,.o 0)],bf := [(.i .u8)] }),fun x=>F74 x.1.2.1 x.2.2.1⟩
theorem c74_ok:Con.OK Try.prog 74 c74:=fnL [] [(2,k74_2)] [2] trivial ⟨k74_2_ok,trivial⟩ Try.func74
noncomputable def F76 (a1:(List Int)) (q0:(List Int)):Option ((Unit × Unit) × Unit × ((List Int) × Unit)):=
 ((F73 (IntKind.wrap .u64 (((a1).length:Nat):Int)) q0).bind fun y0=>(bif (decide ((y0.2.2.1).length+(a1).length<lim)) then (some (((),()),(),((y0.2.2.1++a1),()))) else none))
noncomputable def c76:Con:=⟨{ sl := [(0,.o 0),(1,.v (.l (.i .u8)))],bf := [(.i .u8)] },(.ret { sl := [(0,.o 0)],bf := [(.i .u8)] }),fun x=>F76 x.1.2.1 x.2.2.1⟩
theorem c76_ok:Con.OK Try.prog 76 c76:=fnX [(73,c73)] ⟨c73_ok,trivial⟩ Try.func76
noncomputable def F55 (a0:DEv):Option ((Unit × Unit) × Unit × ((List Int) × Unit)):=
 ((F73 (IntKind.wrap .u64 a0.1) ([]:List Int)).bind fun y0=>((F73 a0.2.1 y0.2.2.1).bind fun y1=>((F73 a0.2.2.1 y1.2.2.1).bind fun y2=>(bif (decide ((y2.2.2.1).length+([a0.2.2.2.1]).length<lim)) then (bif (decide ((a0.2.2.2.1:Int)≥1)) then (bif (decide ((a0.2.2.2.1:Int)≤4)) then ((F76 (bytesL a0.2.2.2.2.1) (y2.2.2.1 ++ [a0.2.2.2.1])).bind fun y3=>(bif ((a0.2.2.2.1:Int) == 1) then ((F76 a0.2.2.2.2.2.1 y3.2.2.1).bind fun y4=>(some (((),()),(),y4.2.2))) else (bif ((a0.2.2.2.1:Int) == 2) then ((F77 a0.2.2.2.2.2.2.1).bind fun y5=>((F74 y5.1.1 y3.2.2.1).bind fun y6=>(some (((),()),(),y6.2.2)))) else (bif ((a0.2.2.2.1:Int) == 3) then ((F77 a0.2.2.2.2.2.2.1).bind fun y7=>((F74 y7.1.1 y3.2.2.1).bind fun y8=>(some (((),()),(),y8.2.2)))) else (bif ((a0.2.2.2.1:Int) == 5) then ((F73 (IntKind.wrap .u64 a0.2.2.2.2.2.2.2.1) y3.2.2.1).bind fun y9=>(some (((),()),(),y9.2.2))) else (some (((),()),(),y3.2.2))))))) else (bif ((a0.2.2.2.1:Int) == 1) then ((F76 a0.2.2.2.2.2.1 (y2.2.2.1 ++ [a0.2.2.2.1])).bind fun y10=>(some (((),()),(),y10.2.2))) else (bif ((a0.2.2.2.1:Int) == 2) then ((F77 a0.2.2.2.2.2.2.1).bind fun y11=>((F74 y11.1.1 (y2.2.2.1 ++ [a0.2.2.2.1])).bind fun y12=>(some (((),()),(),y12.2.2)))) else (bif ((a0.2.2.2.1:Int) == 3) then ((F77 a0.2.2.2.2.2.2.1).bind fun y13=>((F74 y13.1.1 (y2.2.2.1 ++ [a0.2.2.2.1])).bind fun y14=>(some (((),()),(),y14.2.2)))) else (bif ((a0.2.2.2.1:Int) == 5) then ((F73 (IntKind.wrap .u64 a0.2.2.2.2.2.2.2.1) (y2.2.2.1 ++ [a0.2.2.2.1])).bind fun y15=>(some (((),()),(),y15.2.2))) else (some (((),()),(),((y2.2.2.1 ++ [a0.2.2.2.1]),())))))))) else (bif ((a0.2.2.2.1:Int) == 1) then ((F76 a0.2.2.2.2.2.1 (y2.2.2.1 ++ [a0.2.2.2.1])).bind fun y16=>(some (((),()),(),y16.2.2))) else (bif ((a0.2.2.2.1:Int) == 2) then ((F77 a0.2.2.2.2.2.2.1).bind fun y17=>((F74 y17.1.1 (y2.2.2.1 ++ [a0.2.2.2.1])).bind fun y18=>(some (((),()),(),y18.2.2)))) else (bif ((a0.2.2.2.1:Int) == 3) then ((F77 a0.2.2.2.2.2.2.1).bind fun y19=>((F74 y19.1.1 (y2.2.2.1 ++ [a0.2.2.2.1])).bind fun y20=>(some (((),()),(),y20.2.2)))) else (bif ((a0.2.2.2.1:Int) == 5) then ((F73 (IntKind.wrap .u64 a0.2.2.2.2.2.2.2.1) (y2.2.2.1 ++ [a0.2.2.2.1])).bind fun y21=>(some (((),()),(),y21.2.2))) else (some (((),()),(),((y2.2.2.1 ++ [a0.2.2.2.1]),())))))))) else none))))
noncomputable def c55:Con:=⟨{ sl := [(0,.v tDEv)] },(.ret { sl := [(0,.o 0)],bf := [(.i .u8)] }),fun x=>F55 x.1.1⟩
theorem c55_ok:Con.OK Try.prog 55 c55:=fnX [(73,c73),(74,c74),(76,c76),(77,c77)] ⟨c73_ok,c74_ok,c76_ok,c77_ok,trivial⟩ Try.func55
noncomputable def F53 (a0:(List Int)) (a1:Int):Option ((Int × Unit) × Unit × Unit):=
 (bif (decide ((a1:Int)<0)) then (some ((0,()),(),())) else (bif (decide ((a1:Int)≥(((a0).length:Nat):Int))) then (some ((0,()),(),())) else (bif (decide (0≤(a1:Int)∧(a1:Int)<(((a0).length:Nat):Int))) then (some ((((a0).getD (a1:Int).toNat (0:Int)),()),(),())) else none)))
noncomputable def c53:Con:=⟨{ sl := [(0,.v (.l (.i .u64))),(1,.v (.i .i64))] },(.ret { sl := [(0,.v (.i .u64))] }),fun x=>F53 x.1.1 x.1.2.1⟩
theorem c53_ok:Con.OK Try.prog 53 c53:=fnX [] trivial Try.func53
noncomputable def F90 (a0:(List Int)):Option (((List Int) × Unit) × Unit × Unit):=
 (nilBr (a0).length (some ((([]:List Int),()),(),())) (bif (decide ((([]:List Int)).length+(a0).length<lim)) then (some (((([]:List Int)++a0),()),(),())) else none))
noncomputable def c90:Con:=⟨{ sl := [(0,.v (.l (.i .u64)))] },(.ret { sl := [(0,.v (.l (.i .u64)))] }),fun x=>F90 x.1.1⟩
theorem c90_ok:Con.OK Try.prog 90 c90:=fnX [] trivial Try.func90
noncomputable def F56 (a0:(List Int)):Option (((List Int) × Unit) × Unit × Unit):=
 (nilBr (a0).length (some ((([]:List Int),()),(),())) (bif (decide ((([]:List Int)).length+(a0).length<lim)) then (some (((([]:List Int)++a0),()),(),())) else none))
noncomputable def c56:Con:=⟨{ sl := [(0,.v (.l (.i .u8)))] },(.ret { sl := [(0,.v (.l (.i .u8)))] }),fun x=>F56 x.1.1⟩
theorem c56_ok:Con.OK Try.prog 56 c56:=fnX [] trivial Try.func56
noncomputable def T71_2 (a0:(List Int)) (a3:Int):Option ((((List Int) × (Int × Unit)) × Unit × Unit) ⊕ ((Int × Unit) × Unit × Unit)):=
 (bif (decide ((a3:Int) > 0)) then (bif (decide (0≤((IntKind.wrap .i64 (a3 - 1)):Int)∧((IntKind.wrap .i64 (a3 - 1)):Int)<(((a0).length:Nat):Int))) then (bif ((((a0).getD ((IntKind.wrap .i64 (a3 - 1)):Int).toNat (0:Int)):Int) == 0) then (some (.inl ((a0,(IntKind.wrap .i64 (a3 - 1)),()),(),()))) else (some (.inr ((a3,()),(),())))) else none) else (some (.inr ((a3,()),(),()))))
noncomputable def L71_2 (a0:(List Int)) (a3:Int):Option ((Int × Unit) × Unit × Unit):=loopF (fun x:(((List Int) × (Int × Unit)) × Unit × Unit)=>T71_2 x.1.1 x.1.2.1) ((a0,a3,()),(),())
theorem L71_2_eq (a0:(List Int)) (a3:Int):L71_2 a0 a3=(T71_2 a0 a3).bind (Sum.elim (fun x=>L71_2 x.1.1 x.1.2.1) some):=loopF_eq _ _
noncomputable def k71_2:Con:=⟨{ sl := [(0,.v (.l (.i .u64))),(3,.v (.i .i64))] },(.exit 0 { sl := [(3,.v (.i .i64))] }),fun x=>L71_2 x.1.1 x.1.2.1⟩
theorem k71_2_ok:Con.LOK Try.prog Try.f71.ntmps (lpOf Try.f71 2) k71_2:=lpX [] [] [] (fun x=>T71_2 x.1.1 x.1.2.1) trivial trivial
noncomputable def F71 (a0:(List Int)):Option (((List Int) × Unit) × Unit × Unit):=
 ((L71_2 a0 (((a0).length:Nat):Int)).bind fun y0=>(bif (decide (0≤(y0.1.1:Int)∧(y0.1.1:Int)≤(((a0).length:Nat):Int))) then ((F90 ((a0).take (y0.1.1:Int).toNat)).bind fun y1=>(some (y1.1,(),()))) else none))
noncomputable def c71:Con:=⟨{ sl := [(0,.v (.l (.i .u64)))] },(.ret { sl := [(0,.v (.l (.i .u64)))] }),fun x=>F71 x.1.1⟩
theorem c71_ok:Con.OK Try.prog 71 c71:=fnL [(90,c90)] [(2,k71_2)] [2] ⟨c90_ok,trivial⟩ ⟨k71_2_ok,trivial⟩ Try.func71
noncomputable def T43_6 (a0:(List DEv)) (a3:(List DEv)) (a4:Int) (a5:Int):Option ((((List DEv) × ((List DEv) × (Int × (Int × Unit)))) × Unit × Unit) ⊕ ((Int × Unit) × Unit × Unit)):=
 (bif (decide ((a5:Int) > 0)) then (bif (decide (0≤(a4:Int)∧(a4:Int)<(((a0).length:Nat):Int))) then ((F12 ((a0).getD (a4:Int).toNat zE)).bind fun y0=>(bif (decide (0≤((IntKind.wrap .i64 (a5 - 1)):Int)∧((IntKind.wrap .i64 (a5 - 1)):Int)<(((a3).length:Nat):Int))) then ((F12 ((a3).getD ((IntKind.wrap .i64 (a5 - 1)):Int).toNat zE)).bind fun y1=>((F14 y0.1.1 y1.1.1).bind fun y2=>(bif y2.1.1 then (some (.inl ((a0,a3,a4,(IntKind.wrap .i64 (a5 - 1)),()),(),()))) else (some (.inr ((a5,()),(),())))))) else none)) else none) else (some (.inr ((a5,()),(),()))))
noncomputable def L43_6 (a0:(List DEv)) (a3:(List DEv)) (a4:Int) (a5:Int):Option ((Int × Unit) × Unit × Unit):=loopF (fun x:(((List DEv) × ((List DEv) × (Int × (Int × Unit)))) × Unit × Unit)=>T43_6 x.1.1 x.1.2.1 x.1.2.2.1 x.1.2.2.2.1) ((a0,a3,a4,a5,()),(),())
theorem L43_6_eq (a0:(List DEv)) (a3:(List DEv)) (a4:Int) (a5:Int):L43_6 a0 a3 a4 a5=(T43_6 a0 a3 a4 a5).bind (Sum.elim (fun x=>L43_6 x.1.1 x.1.2.1 x.1.2.2.1 x.1.2.2.2.1) some):=loopF_eq _ _
noncomputable def k43_6:Con:=⟨{ sl := [(0,.v (.l tDEv)),(3,.v (.l tDEv)),(4,.v (.i .i64)),(5,.v (.i .i64))] },(.exit 2 { sl := [(5,.v (.i .i64))] }),fun x=>L43_6 x.1.1 x.1.2.1 x.1.2.2.1 x.1.2.2.2.1⟩
theorem k43_6_ok:Con.LOK Try.prog Try.f43.ntmps (lpOf Try.f43 6) k43_6:=lpX [(12,c12),(14,c14)] [] [] (fun x=>T43_6 x.1.1 x.1.2.1 x.1.2.2.1 x.1.2.2.2.1) ⟨c12_ok,c14_ok,trivial⟩ trivial
noncomputable def T43_3 (a0:(List DEv)) (a4:Int) (q0:(List DEv)):Option ((((List DEv) × (Unit × (Int × Unit))) × Unit × ((List DEv) × Unit)) ⊕ ((Unit × Unit) × Unit × ((List DEv) × Unit))):=
 (bif (decide ((a4:Int)<(((a0).length:Nat):Int))) then ((L43_6 a0 q0 a4 (((q0).length:Nat):Int)).bind fun y0=>(bif (decide (0≤(y0.1.1:Int)∧(y0.1.1:Int)≤(((q0).length:Nat):Int))) then (bif (decide ((((q0).take (y0.1.1:Int).toNat)).length<lim)) then (bif (decide (0≤(a4:Int)∧(a4:Int)<(((a0).length:Nat):Int))) then (bif (decide ((((q0).take (y0.1.1:Int).toNat)).length+([((a0).getD (a4:Int).toNat zE)]).length<lim)) then (bif (decide (0≤(y0.1.1:Int)∧(y0.1.1:Int)≤(((q0).length:Nat):Int))) then (bif (decide (((((q0).take (y0.1.1:Int).toNat) ++ [((a0).getD (a4:Int).toNat zE)])).length+(((q0).drop (y0.1.1:Int).toNat)).length<lim)) then (some (.inl ((a0,(),(IntKind.wrap .i64 (a4+1)),()),(),(((((q0).take (y0.1.1:Int).toNat) ++ [((a0).getD (a4:Int).toNat zE)])++((q0).drop (y0.1.1:Int).toNat)),())))) else none) else none) else none) else none) else none) else none)) else (some (.inr (((),()),(),(q0,())))))
noncomputable def L43_3 (a0:(List DEv)) (a4:Int) (q0:(List DEv)):Option ((Unit × Unit) × Unit × ((List DEv) × Unit)):=loopF (fun x:(((List DEv) × (Unit × (Int × Unit))) × Unit × ((List DEv) × Unit))=>T43_3 x.1.1 x.1.2.2.1 x.2.2.1) ((a0,(),a4,()),(),(q0,()))
theorem L43_3_eq (a0:(List DEv)) (a4:Int) (q0:(List DEv)):L43_3 a0 a4 q0=(T43_3 a0 a4 q0).bind (Sum.elim (fun x=>L43_3 x.1.1 x.1.2.2.1 x.2.2.1) some):=loopF_eq _ _
noncomputable def k43_3:Con:=⟨{ sl := [(0,.v (.l tDEv)),(3,.o 0),(4,.v (.i .i64))],bf := [tDEv] },(.exit 0 { sl := [(3,.o 0)],bf := [tDEv] }),fun x=>L43_3 x.1.1 x.1.2.2.1 x.2.2.1⟩
theorem k43_3_ok:Con.LOK Try.prog Try.f43.ntmps (lpOf Try.f43 3) k43_3:=lpX [] [(6,k43_6)] [6] (fun x=>T43_3 x.1.1 x.1.2.2.1 x.2.2.1) trivial ⟨k43_6_ok,trivial⟩
noncomputable def F43 (a0:(List DEv)):Option (((List DEv) × Unit) × Unit × Unit):=
 ((L43_3 a0 0 ([]:List DEv)).bind fun y0=>(some (y0.2.2,(),())))
noncomputable def c43:Con:=⟨{ sl := [(0,.v (.l tDEv))] },(.ret { sl := [(0,.v (.l tDEv))] }),fun x=>F43 x.1.1⟩
theorem c43_ok:Con.OK Try.prog 43 c43:=fnL [] [(3,k43_3)] [3] trivial ⟨k43_3_ok,trivial⟩ Try.func43
noncomputable def T9_3 (a0:(List (List DEv))) (a4:Int) (q0:(List DEv)):Option ((((List (List DEv)) × (Unit × (Int × Unit))) × Unit × ((List DEv) × Unit)) ⊕ ((Unit × Unit) × Unit × ((List DEv) × Unit))):=
 (bif (decide ((a4:Int)<(((a0).length:Nat):Int))) then (bif (decide (0≤(a4:Int)∧(a4:Int)<(((a0).length:Nat):Int))) then (bif (decide ((q0).length+(((a0).getD (a4:Int).toNat [])).length<lim)) then (some (.inl ((a0,(),(IntKind.wrap .i64 (a4+1)),()),(),((q0++((a0).getD (a4:Int).toNat [])),())))) else none) else none) else (some (.inr (((),()),(),(q0,())))))
noncomputable def L9_3 (a0:(List (List DEv))) (a4:Int) (q0:(List DEv)):Option ((Unit × Unit) × Unit × ((List DEv) × Unit)):=loopF (fun x:(((List (List DEv)) × (Unit × (Int × Unit))) × Unit × ((List DEv) × Unit))=>T9_3 x.1.1 x.1.2.2.1 x.2.2.1) ((a0,(),a4,()),(),(q0,()))
theorem L9_3_eq (a0:(List (List DEv))) (a4:Int) (q0:(List DEv)):L9_3 a0 a4 q0=(T9_3 a0 a4 q0).bind (Sum.elim (fun x=>L9_3 x.1.1 x.1.2.2.1 x.2.2.1) some):=loopF_eq _ _
noncomputable def k9_3:Con:=⟨{ sl := [(0,.v (.l (.l tDEv))),(3,.o 0),(4,.v (.i .i64))],bf := [tDEv] },(.exit 0 { sl := [(3,.o 0)],bf := [tDEv] }),fun x=>L9_3 x.1.1 x.1.2.2.1 x.2.2.1⟩
theorem k9_3_ok:Con.LOK Try.prog Try.f9.ntmps (lpOf Try.f9 3) k9_3:=lpX [] [] [] (fun x=>T9_3 x.1.1 x.1.2.2.1 x.2.2.1) trivial trivial
noncomputable def F9 (a0:(List (List DEv))):Option (((List DEv) × Unit) × Unit × Unit):=
 ((L9_3 a0 0 ([]:List DEv)).bind fun y0=>((F43 y0.2.2.1).bind fun y1=>(some (y1.1,(),()))))
noncomputable def c9:Con:=⟨{ sl := [(0,.v (.l (.l tDEv)))] },(.ret { sl := [(0,.v (.l tDEv))] }),fun x=>F9 x.1.1⟩
theorem c9_ok:Con.OK Try.prog 9 c9:=fnL [(43,c43)] [(3,k9_3)] [3] ⟨c43_ok,trivial⟩ ⟨k9_3_ok,trivial⟩ Try.func9
def F56k (a0:(List Int)):Option (((List Int) × Unit) × Unit × Unit):=bif (decide (a0.length<lim)) then some ((a0,()),(),()) else none
theorem F56k_eq (a0:(List Int)):F56k a0=F56 a0:=by unfold F56 nilBr both; cases a0 <;> simp [F56k,lim] <;> rfl
noncomputable def c56k:Con:=⟨c56.ins,c56.out,fun x=>F56k x.1.1⟩
theorem c56k_ok:Con.OK Try.prog 56 c56k:=c56_ok.congr fun x=>F56k_eq x.1.1
noncomputable def F90h (a0:(List Int)):Option ((Unit × Unit) × (((List Int) × Unit) × Unit) × Unit):=
 (nilBr (a0).length (some (((),()),((([]:List Int),()),()),())) (bif (decide ((([]:List Int)).length+(a0).length<lim)) then (some (((),()),(((([]:List Int)++a0),()),()),())) else none))
noncomputable def c90h:Con:=⟨{ sl := [(0,.v (.l (.i .u64)))] },(.ret { sl := [(0,.m (.i .u64) 0)],bx := [[.r (.i .u64)]] }),fun x=>F90h x.1.1⟩
theorem c90h_ok:Con.OK Try.prog 90 c90h:=fnX [(900005,cHot),(900007,cHot)] ⟨cHot_ok,cHot_ok,trivial⟩ Try.func90
def F90j (a0:(List Int)):Option ((Unit × Unit) × (((List Int) × Unit) × Unit) × Unit):=bif (decide (a0.length<lim)) then some (((),()),((a0,()),()),()) else none
theorem F90j_eq (a0:(List Int)):F90j a0=F90h a0:=by unfold F90h nilBr both; cases a0 <;> simp [F90j,lim] <;> rfl
noncomputable def c90j:Con:=⟨c90h.ins,c90h.out,fun x=>F90j x.1.1⟩
theorem c90j_ok:Con.OK Try.prog 90 c90j:=c90h_ok.congr fun x=>F90j_eq x.1.1
noncomputable def T54_4 (a1:Int) (a2:Int) (b0_0:(List Int)):Option (((Int × (Int × (Unit × Unit))) × (((List Int) × Unit) × Unit) × Unit) ⊕ ((Unit × Unit) × ((Unit × Unit) × (((List Int) × Unit) × Unit)) × Unit)):=
 (bif (decide (((((b0_0).length:Nat):Int):Int)≤a1)) then (bif (decide ((b0_0).length+([0]).length<lim)) then (some (.inl ((a1,a2,(),()),(((b0_0 ++ [0]),()),()),()))) else none) else (some (.inr (((),()),(((),()),(b0_0,()),()),()))))
noncomputable def L54_4 (a1:Int) (a2:Int) (b0_0:(List Int)):Option ((Unit × Unit) × ((Unit × Unit) × (((List Int) × Unit) × Unit)) × Unit):=loopF (fun x:((Int × (Int × (Unit × Unit))) × (((List Int) × Unit) × Unit) × Unit)=>T54_4 x.1.1 x.1.2.1 x.2.1.1.1) ((a1,a2,(),()),((b0_0,()),()),())
theorem L54_4_eq (a1:Int) (a2:Int) (b0_0:(List Int)):L54_4 a1 a2 b0_0=(T54_4 a1 a2 b0_0).bind (Sum.elim (fun x=>L54_4 x.1.1 x.1.2.1 x.2.1.1.1) some):=loopF_eq _ _
noncomputable def k54_4:Con:=⟨{ sl := [(1,.v (.i .i64)),(2,.v (.i .u64)),(7,.m (.i .u64) 0)],bx := [[.r (.i .u64)]] },(.exit 0 { sl := [(7,.m (.i .u64) 1)],bx := [[.g], [.r (.i .u64)]] }),fun x=>L54_4 x.1.1 x.1.2.1 x.2.1.1.1⟩
theorem k54_4_ok:Con.LOK Try.prog Try.f54.ntmps (lpOf Try.f54 4) k54_4:=lpX [] [] [] (fun x=>T54_4 x.1.1 x.1.2.1 x.2.1.1.1) trivial trivial
noncomputable def F54 (a0:(List Int)) (a1:Int) (a2:Int):Option (((List Int) × Unit) × Unit × Unit):=
 (bif (decide ((a1:Int)<0)) then ((F71 a0).bind fun y0=>(some (y0.1,(),()))) else (bif (decide ((a1:Int)≥64)) then ((F71 a0).bind fun y1=>(some (y1.1,(),()))) else ((F90j a0).bind fun y2=>((L54_4 a1 a2 y2.2.1.1.1).bind fun y3=>(bif (decide (0≤(a1:Int)∧(a1:Int)<(((y3.2.1.2.1.1).length:Nat):Int))) then (bif (decide ((a1:Int).toNat<(y3.2.1.2.1.1).length)) then ((F71 ((y3.2.1.2.1.1).set (a1:Int).toNat a2)).bind fun y4=>(some (y4.1,(),()))) else none) else none)))))
noncomputable def c54:Con:=⟨{ sl := [(0,.v (.l (.i .u64))),(1,.v (.i .i64)),(2,.v (.i .u64))] },(.ret { sl := [(0,.v (.l (.i .u64)))] }),fun x=>F54 x.1.1 x.1.2.1 x.1.2.2.1⟩
theorem c54_ok:Con.OK Try.prog 54 c54:=fnL [(71,c71),(90,c90j)] [(4,k54_4)] [4] ⟨c71_ok,c90j_ok,trivial⟩ ⟨k54_4_ok,trivial⟩ Try.func54
noncomputable def uT10f_4_0 (a0:(List Int)) (a7:Int) (b1_0:(List Int)):Int:=
 (IntKind.wrap .u64 (((b1_0).getD (0:Int).toNat (0:Int))+(IntKind.wrap .u64 (1+(((IntKind.wrap .u64 (IntKind.wrap .u16 ((((a0).getD (a7:Int).toNat (0:Int)):Int).tdiv 16))):Int).tmod 4)))))
noncomputable def uT10f_4_1 (a0:(List Int)) (a7:Int) (b1_0:(List Int)):Int:=
 (IntKind.wrap .u64 (((b1_0).getD (1:Int).toNat (0:Int))+(IntKind.wrap .u64 (1+(((IntKind.wrap .u64 (IntKind.wrap .u16 ((((a0).getD (a7:Int).toNat (0:Int)):Int).tdiv 16))):Int).tmod 4)))))
noncomputable def uT10f_4_2 (a0:(List Int)) (a7:Int) (b1_0:(List Int)):Int:=
 (IntKind.wrap .u64 (((b1_0).getD (2:Int).toNat (0:Int))+(IntKind.wrap .u64 (1+(((IntKind.wrap .u64 (IntKind.wrap .u16 ((((a0).getD (a7:Int).toNat (0:Int)):Int).tdiv 16))):Int).tmod 4)))))
noncomputable def uT10f_4_3 (a0:(List Int)) (a7:Int):Int:=
 (IntKind.wrap .u8 (1+(((IntKind.wrap .u8 (IntKind.wrap .u16 ((((a0).getD (a7:Int).toNat (0:Int)):Int).tdiv 64))):Int).tmod 4)))
noncomputable def uT10f_4_4 (a0:(List Int)) (a7:Int):ByteArray:=
 (strL [(IntKind.wrap .u8 (97+(((IntKind.wrap .u8 (IntKind.wrap .u16 ((((a0).getD (a7:Int).toNat (0:Int)):Int).tdiv 256))):Int).tmod 4)))])
noncomputable def uT10f_4_5 (a0:(List Int)) (a7:Int) (b1_0:(List Int)) (q0:(List DEv)):DEv:=
 (0,((IntKind.wrap .u64 ((IntKind.wrap .u64 (((q0).length:Nat):Int))+1)),(((((b1_0).set (0:Int).toNat (uT10f_4_0 a0 a7 b1_0))).getD (0:Int).toNat (0:Int)),((uT10f_4_3 a0 a7),((uT10f_4_4 a0 a7),([(IntKind.wrap .u8 a7)],(((((FloatKind.f64).format.div ((FloatKind.nearest .f64 a7)) (4616189618054758400))).getD 0),(0,()))))))))
noncomputable def uT10f_4_6 (a0:(List Int)) (a7:Int) (b1_0:(List Int)) (q0:(List DEv)):DEv:=
 (0,((IntKind.wrap .u64 ((IntKind.wrap .u64 (((q0).length:Nat):Int))+1)),(((((b1_0).set (0:Int).toNat (uT10f_4_0 a0 a7 b1_0))).getD (0:Int).toNat (0:Int)),((uT10f_4_3 a0 a7),((uT10f_4_4 a0 a7),([(IntKind.wrap .u8 a7)],(0,(0,()))))))))
noncomputable def uT10f_4_7 (a0:(List Int)) (a7:Int) (b1_0:(List Int)) (q0:(List DEv)):DEv:=
 (0,((IntKind.wrap .u64 ((IntKind.wrap .u64 (((q0).length:Nat):Int))+1)),(((((b1_0).set (0:Int).toNat (uT10f_4_0 a0 a7 b1_0))).getD (0:Int).toNat (0:Int)),((uT10f_4_3 a0 a7),((uT10f_4_4 a0 a7),(([]:List Int),(((((FloatKind.f64).format.div ((FloatKind.nearest .f64 a7)) (4616189618054758400))).getD 0),(0,()))))))))
noncomputable def uT10f_4_8 (a0:(List Int)) (a7:Int) (b1_0:(List Int)) (q0:(List DEv)):DEv:=
 (0,((IntKind.wrap .u64 ((IntKind.wrap .u64 (((q0).length:Nat):Int))+1)),(((((b1_0).set (0:Int).toNat (uT10f_4_0 a0 a7 b1_0))).getD (0:Int).toNat (0:Int)),((uT10f_4_3 a0 a7),((uT10f_4_4 a0 a7),(([]:List Int),(0,(0,()))))))))
noncomputable def uT10f_4_9 (a0:(List Int)) (a7:Int) (b1_0:(List Int)) (q1:(List DEv)):DEv:=
 (1,((IntKind.wrap .u64 ((IntKind.wrap .u64 (((q1).length:Nat):Int))+1)),(((((b1_0).set (1:Int).toNat (uT10f_4_1 a0 a7 b1_0))).getD (1:Int).toNat (0:Int)),((uT10f_4_3 a0 a7),((uT10f_4_4 a0 a7),([(IntKind.wrap .u8 a7)],(((((FloatKind.f64).format.div ((FloatKind.nearest .f64 a7)) (4616189618054758400))).getD 0),(0,()))))))))
noncomputable def uT10f_4_10 (a0:(List Int)) (a7:Int) (b1_0:(List Int)) (q1:(List DEv)):DEv:=
 (1,((IntKind.wrap .u64 ((IntKind.wrap .u64 (((q1).length:Nat):Int))+1)),(((((b1_0).set (1:Int).toNat (uT10f_4_1 a0 a7 b1_0))).getD (1:Int).toNat (0:Int)),((uT10f_4_3 a0 a7),((uT10f_4_4 a0 a7),([(IntKind.wrap .u8 a7)],(0,(0,()))))))))
noncomputable def uT10f_4_11 (a0:(List Int)) (a7:Int) (b1_0:(List Int)) (q1:(List DEv)):DEv:=
 (1,((IntKind.wrap .u64 ((IntKind.wrap .u64 (((q1).length:Nat):Int))+1)),(((((b1_0).set (1:Int).toNat (uT10f_4_1 a0 a7 b1_0))).getD (1:Int).toNat (0:Int)),((uT10f_4_3 a0 a7),((uT10f_4_4 a0 a7),(([]:List Int),(((((FloatKind.f64).format.div ((FloatKind.nearest .f64 a7)) (4616189618054758400))).getD 0),(0,()))))))))
noncomputable def uT10f_4_12 (a0:(List Int)) (a7:Int) (b1_0:(List Int)) (q1:(List DEv)):DEv:=
 (1,((IntKind.wrap .u64 ((IntKind.wrap .u64 (((q1).length:Nat):Int))+1)),(((((b1_0).set (1:Int).toNat (uT10f_4_1 a0 a7 b1_0))).getD (1:Int).toNat (0:Int)),((uT10f_4_3 a0 a7),((uT10f_4_4 a0 a7),(([]:List Int),(0,(0,()))))))))
noncomputable def uT10f_4_13 (a0:(List Int)) (a7:Int) (b1_0:(List Int)) (q2:(List DEv)):DEv:=
 (2,((IntKind.wrap .u64 ((IntKind.wrap .u64 (((q2).length:Nat):Int))+1)),(((((b1_0).set (2:Int).toNat (uT10f_4_2 a0 a7 b1_0))).getD (2:Int).toNat (0:Int)),((uT10f_4_3 a0 a7),((uT10f_4_4 a0 a7),([(IntKind.wrap .u8 a7)],(((((FloatKind.f64).format.div ((FloatKind.nearest .f64 a7)) (4616189618054758400))).getD 0),(0,()))))))))
noncomputable def uT10f_4_14 (a0:(List Int)) (a7:Int) (b1_0:(List Int)) (q2:(List DEv)):DEv:=
 (2,((IntKind.wrap .u64 ((IntKind.wrap .u64 (((q2).length:Nat):Int))+1)),(((((b1_0).set (2:Int).toNat (uT10f_4_2 a0 a7 b1_0))).getD (2:Int).toNat (0:Int)),((uT10f_4_3 a0 a7),((uT10f_4_4 a0 a7),([(IntKind.wrap .u8 a7)],(0,(0,()))))))))
noncomputable def uT10f_4_15 (a0:(List Int)) (a7:Int) (b1_0:(List Int)) (q2:(List DEv)):DEv:=
 (2,((IntKind.wrap .u64 ((IntKind.wrap .u64 (((q2).length:Nat):Int))+1)),(((((b1_0).set (2:Int).toNat (uT10f_4_2 a0 a7 b1_0))).getD (2:Int).toNat (0:Int)),((uT10f_4_3 a0 a7),((uT10f_4_4 a0 a7),(([]:List Int),(((((FloatKind.f64).format.div ((FloatKind.nearest .f64 a7)) (4616189618054758400))).getD 0),(0,()))))))))
noncomputable def uT10f_4_16 (a0:(List Int)) (a7:Int) (b1_0:(List Int)) (q2:(List DEv)):DEv:=
 (2,((IntKind.wrap .u64 ((IntKind.wrap .u64 (((q2).length:Nat):Int))+1)),(((((b1_0).set (2:Int).toNat (uT10f_4_2 a0 a7 b1_0))).getD (2:Int).toNat (0:Int)),((uT10f_4_3 a0 a7),((uT10f_4_4 a0 a7),(([]:List Int),(0,(0,()))))))))
noncomputable def T10f_4 (a0:(List Int)) (a1:Int) (a7:Int) (b1_0:(List Int)) (q0:(List DEv)) (q1:(List DEv)) (q2:(List DEv)):Option ((((List Int) × (Int × (Unit × (Unit × (Int × Unit))))) × (ZUt × (((List Int) × Unit) × Unit)) × ((List DEv) × ((List DEv) × ((List DEv) × Unit)))) ⊕ (Unit × (ZUt × (((List Int) × Unit) × Unit)) × ((List DEv) × ((List DEv) × ((List DEv) × Unit))))):=
 (bif (decide ((a7:Int)<(((a0).length:Nat):Int))) then (bif (decide ((a7:Int)<60)) then (bif (decide (0≤(a7:Int)∧(a7:Int)<(((a0).length:Nat):Int))) then (bif (decide ((a1:Int)≠0)) then (bif (decide (((((IntKind.wrap .i64 ((a0).getD (a7:Int).toNat (0:Int))):Int).tmod a1):Int)=0)) then (bif (decide (0≤(0:Int)∧(0:Int)<(((b1_0).length:Nat):Int))) then (bif (decide ((0:Int).toNat<(b1_0).length)) then (bif (decide (0≤(a7:Int)∧(a7:Int)<(((a0).length:Nat):Int))) then (bif (decide (0≤(0:Int)∧(0:Int)<(((b1_0).length:Nat):Int))) then (bif (decide ((0:Int).toNat<(b1_0).length)) then (bif (decide (0≤(0:Int)∧(0:Int)<(((((b1_0).set (0:Int).toNat (uT10f_4_0 a0 a7 b1_0))).length:Nat):Int))) then (bif (decide ((0:Int).toNat<(((b1_0).set (0:Int).toNat (uT10f_4_0 a0 a7 b1_0))).length)) then (bif (decide (0≤(a7:Int)∧(a7:Int)<(((a0).length:Nat):Int))) then (bif (decide (0≤(a7:Int)∧(a7:Int)<(((a0).length:Nat):Int))) then (bif (((uT10f_4_3 a0 a7):Int) == 1) then (bif (((uT10f_4_3 a0 a7):Int) == 2) then (bif (((FloatKind.f64).format.div ((FloatKind.nearest .f64 a7)) (4616189618054758400))).isSome then (bif (decide ((q0).length+([(uT10f_4_5 a0 a7 b1_0 q0)]).length<lim)) then (some (.inl ((a0,a1,(),(),(IntKind.wrap .i64 (a7+1)),()),(((),(),(),()),(((b1_0).set (0:Int).toNat (uT10f_4_0 a0 a7 b1_0)),()),()),((q0 ++ [(uT10f_4_5 a0 a7 b1_0 q0)]),q1,q2,())))) else none) else none) else (bif (((uT10f_4_3 a0 a7):Int) == 3) then (bif (((FloatKind.f64).format.div ((FloatKind.nearest .f64 a7)) (4616189618054758400))).isSome then (bif (decide ((q0).length+([(uT10f_4_5 a0 a7 b1_0 q0)]).length<lim)) then (some (.inl ((a0,a1,(),(),(IntKind.wrap .i64 (a7+1)),()),(((),(),(),()),(((b1_0).set (0:Int).toNat (uT10f_4_0 a0 a7 b1_0)),()),()),((q0 ++ [(uT10f_4_5 a0 a7 b1_0 q0)]),q1,q2,())))) else none) else none) else (bif (decide ((q0).length+([(uT10f_4_6 a0 a7 b1_0 q0)]).length<lim)) then (some (.inl ((a0,a1,(),(),(IntKind.wrap .i64 (a7+1)),()),(((),(),(),()),(((b1_0).set (0:Int).toNat (uT10f_4_0 a0 a7 b1_0)),()),()),((q0 ++ [(uT10f_4_6 a0 a7 b1_0 q0)]),q1,q2,())))) else none))) else (bif (((uT10f_4_3 a0 a7):Int) == 2) then (bif (((FloatKind.f64).format.div ((FloatKind.nearest .f64 a7)) (4616189618054758400))).isSome then (bif (decide ((q0).length+([(uT10f_4_7 a0 a7 b1_0 q0)]).length<lim)) then (some (.inl ((a0,a1,(),(),(IntKind.wrap .i64 (a7+1)),()),(((),(),(),()),(((b1_0).set (0:Int).toNat (uT10f_4_0 a0 a7 b1_0)),()),()),((q0 ++ [(uT10f_4_7 a0 a7 b1_0 q0)]),q1,q2,())))) else none) else none) else (bif (((uT10f_4_3 a0 a7):Int) == 3) then (bif (((FloatKind.f64).format.div ((FloatKind.nearest .f64 a7)) (4616189618054758400))).isSome then (bif (decide ((q0).length+([(uT10f_4_7 a0 a7 b1_0 q0)]).length<lim)) then (some (.inl ((a0,a1,(),(),(IntKind.wrap .i64 (a7+1)),()),(((),(),(),()),(((b1_0).set (0:Int).toNat (uT10f_4_0 a0 a7 b1_0)),()),()),((q0 ++ [(uT10f_4_7 a0 a7 b1_0 q0)]),q1,q2,())))) else none) else none) else (bif (decide ((q0).length+([(uT10f_4_8 a0 a7 b1_0 q0)]).length<lim)) then (some (.inl ((a0,a1,(),(),(IntKind.wrap .i64 (a7+1)),()),(((),(),(),()),(((b1_0).set (0:Int).toNat (uT10f_4_0 a0 a7 b1_0)),()),()),((q0 ++ [(uT10f_4_8 a0 a7 b1_0 q0)]),q1,q2,())))) else none)))) else none) else none) else none) else none) else none) else none) else none) else none) else none) else (bif (decide (((((IntKind.wrap .i64 ((a0).getD (a7:Int).toNat (0:Int))):Int).tmod a1):Int)=1)) then (bif (decide (0≤(1:Int)∧(1:Int)<(((b1_0).length:Nat):Int))) then (bif (decide ((1:Int).toNat<(b1_0).length)) then (bif (decide (0≤(a7:Int)∧(a7:Int)<(((a0).length:Nat):Int))) then (bif (decide (0≤(1:Int)∧(1:Int)<(((b1_0).length:Nat):Int))) then (bif (decide ((1:Int).toNat<(b1_0).length)) then (bif (decide (0≤(1:Int)∧(1:Int)<(((((b1_0).set (1:Int).toNat (uT10f_4_1 a0 a7 b1_0))).length:Nat):Int))) then (bif (decide ((1:Int).toNat<(((b1_0).set (1:Int).toNat (uT10f_4_1 a0 a7 b1_0))).length)) then (bif (decide (0≤(a7:Int)∧(a7:Int)<(((a0).length:Nat):Int))) then (bif (decide (0≤(a7:Int)∧(a7:Int)<(((a0).length:Nat):Int))) then (bif (((uT10f_4_3 a0 a7):Int) == 1) then (bif (((uT10f_4_3 a0 a7):Int) == 2) then (bif (((FloatKind.f64).format.div ((FloatKind.nearest .f64 a7)) (4616189618054758400))).isSome then (bif (decide ((q1).length+([(uT10f_4_9 a0 a7 b1_0 q1)]).length<lim)) then (some (.inl ((a0,a1,(),(),(IntKind.wrap .i64 (a7+1)),()),(((),(),(),()),(((b1_0).set (1:Int).toNat (uT10f_4_1 a0 a7 b1_0)),()),()),(q0,(q1 ++ [(uT10f_4_9 a0 a7 b1_0 q1)]),q2,())))) else none) else none) else (bif (((uT10f_4_3 a0 a7):Int) == 3) then (bif (((FloatKind.f64).format.div ((FloatKind.nearest .f64 a7)) (4616189618054758400))).isSome then (bif (decide ((q1).length+([(uT10f_4_9 a0 a7 b1_0 q1)]).length<lim)) then (some (.inl ((a0,a1,(),(),(IntKind.wrap .i64 (a7+1)),()),(((),(),(),()),(((b1_0).set (1:Int).toNat (uT10f_4_1 a0 a7 b1_0)),()),()),(q0,(q1 ++ [(uT10f_4_9 a0 a7 b1_0 q1)]),q2,())))) else none) else none) else (bif (decide ((q1).length+([(uT10f_4_10 a0 a7 b1_0 q1)]).length<lim)) then (some (.inl ((a0,a1,(),(),(IntKind.wrap .i64 (a7+1)),()),(((),(),(),()),(((b1_0).set (1:Int).toNat (uT10f_4_1 a0 a7 b1_0)),()),()),(q0,(q1 ++ [(uT10f_4_10 a0 a7 b1_0 q1)]),q2,())))) else none))) else (bif (((uT10f_4_3 a0 a7):Int) == 2) then (bif (((FloatKind.f64).format.div ((FloatKind.nearest .f64 a7)) (4616189618054758400))).isSome then (bif (decide ((q1).length+([(uT10f_4_11 a0 a7 b1_0 q1)]).length<lim)) then (some (.inl ((a0,a1,(),(),(IntKind.wrap .i64 (a7+1)),()),(((),(),(),()),(((b1_0).set (1:Int).toNat (uT10f_4_1 a0 a7 b1_0)),()),()),(q0,(q1 ++ [(uT10f_4_11 a0 a7 b1_0 q1)]),q2,())))) else none) else none) else (bif (((uT10f_4_3 a0 a7):Int) == 3) then (bif (((FloatKind.f64).format.div ((FloatKind.nearest .f64 a7)) (4616189618054758400))).isSome then (bif (decide ((q1).length+([(uT10f_4_11 a0 a7 b1_0 q1)]).length<lim)) then (some (.inl ((a0,a1,(),(),(IntKind.wrap .i64 (a7+1)),()),(((),(),(),()),(((b1_0).set (1:Int).toNat (uT10f_4_1 a0 a7 b1_0)),()),()),(q0,(q1 ++ [(uT10f_4_11 a0 a7 b1_0 q1)]),q2,())))) else none) else none) else (bif (decide ((q1).length+([(uT10f_4_12 a0 a7 b1_0 q1)]).length<lim)) then (some (.inl ((a0,a1,(),(),(IntKind.wrap .i64 (a7+1)),()),(((),(),(),()),(((b1_0).set (1:Int).toNat (uT10f_4_1 a0 a7 b1_0)),()),()),(q0,(q1 ++ [(uT10f_4_12 a0 a7 b1_0 q1)]),q2,())))) else none)))) else none) else none) else none) else none) else none) else none) else none) else none) else none) else (bif (decide (((((IntKind.wrap .i64 ((a0).getD (a7:Int).toNat (0:Int))):Int).tmod a1):Int)=2)) then (bif (decide (0≤(2:Int)∧(2:Int)<(((b1_0).length:Nat):Int))) then (bif (decide ((2:Int).toNat<(b1_0).length)) then (bif (decide (0≤(a7:Int)∧(a7:Int)<(((a0).length:Nat):Int))) then (bif (decide (0≤(2:Int)∧(2:Int)<(((b1_0).length:Nat):Int))) then (bif (decide ((2:Int).toNat<(b1_0).length)) then (bif (decide (0≤(2:Int)∧(2:Int)<(((((b1_0).set (2:Int).toNat (uT10f_4_2 a0 a7 b1_0))).length:Nat):Int))) then (bif (decide ((2:Int).toNat<(((b1_0).set (2:Int).toNat (uT10f_4_2 a0 a7 b1_0))).length)) then (bif (decide (0≤(a7:Int)∧(a7:Int)<(((a0).length:Nat):Int))) then (bif (decide (0≤(a7:Int)∧(a7:Int)<(((a0).length:Nat):Int))) then (bif (((uT10f_4_3 a0 a7):Int) == 1) then (bif (((uT10f_4_3 a0 a7):Int) == 2) then (bif (((FloatKind.f64).format.div ((FloatKind.nearest .f64 a7)) (4616189618054758400))).isSome then (bif (decide ((q2).length+([(uT10f_4_13 a0 a7 b1_0 q2)]).length<lim)) then (some (.inl ((a0,a1,(),(),(IntKind.wrap .i64 (a7+1)),()),(((),(),(),()),(((b1_0).set (2:Int).toNat (uT10f_4_2 a0 a7 b1_0)),()),()),(q0,q1,(q2 ++ [(uT10f_4_13 a0 a7 b1_0 q2)]),())))) else none) else none) else (bif (((uT10f_4_3 a0 a7):Int) == 3) then (bif (((FloatKind.f64).format.div ((FloatKind.nearest .f64 a7)) (4616189618054758400))).isSome then (bif (decide ((q2).length+([(uT10f_4_13 a0 a7 b1_0 q2)]).length<lim)) then (some (.inl ((a0,a1,(),(),(IntKind.wrap .i64 (a7+1)),()),(((),(),(),()),(((b1_0).set (2:Int).toNat (uT10f_4_2 a0 a7 b1_0)),()),()),(q0,q1,(q2 ++ [(uT10f_4_13 a0 a7 b1_0 q2)]),())))) else none) else none) else (bif (decide ((q2).length+([(uT10f_4_14 a0 a7 b1_0 q2)]).length<lim)) then (some (.inl ((a0,a1,(),(),(IntKind.wrap .i64 (a7+1)),()),(((),(),(),()),(((b1_0).set (2:Int).toNat (uT10f_4_2 a0 a7 b1_0)),()),()),(q0,q1,(q2 ++ [(uT10f_4_14 a0 a7 b1_0 q2)]),())))) else none))) else (bif (((uT10f_4_3 a0 a7):Int) == 2) then (bif (((FloatKind.f64).format.div ((FloatKind.nearest .f64 a7)) (4616189618054758400))).isSome then (bif (decide ((q2).length+([(uT10f_4_15 a0 a7 b1_0 q2)]).length<lim)) then (some (.inl ((a0,a1,(),(),(IntKind.wrap .i64 (a7+1)),()),(((),(),(),()),(((b1_0).set (2:Int).toNat (uT10f_4_2 a0 a7 b1_0)),()),()),(q0,q1,(q2 ++ [(uT10f_4_15 a0 a7 b1_0 q2)]),())))) else none) else none) else (bif (((uT10f_4_3 a0 a7):Int) == 3) then (bif (((FloatKind.f64).format.div ((FloatKind.nearest .f64 a7)) (4616189618054758400))).isSome then (bif (decide ((q2).length+([(uT10f_4_15 a0 a7 b1_0 q2)]).length<lim)) then (some (.inl ((a0,a1,(),(),(IntKind.wrap .i64 (a7+1)),()),(((),(),(),()),(((b1_0).set (2:Int).toNat (uT10f_4_2 a0 a7 b1_0)),()),()),(q0,q1,(q2 ++ [(uT10f_4_15 a0 a7 b1_0 q2)]),())))) else none) else none) else (bif (decide ((q2).length+([(uT10f_4_16 a0 a7 b1_0 q2)]).length<lim)) then (some (.inl ((a0,a1,(),(),(IntKind.wrap .i64 (a7+1)),()),(((),(),(),()),(((b1_0).set (2:Int).toNat (uT10f_4_2 a0 a7 b1_0)),()),()),(q0,q1,(q2 ++ [(uT10f_4_16 a0 a7 b1_0 q2)]),())))) else none)))) else none) else none) else none) else none) else none) else none) else none) else none) else none) else none))) else none) else none) else (some (.inr ((),(((),(),(),()),(b1_0,()),()),(q0,q1,q2,()))))) else (some (.inr ((),(((),(),(),()),(b1_0,()),()),(q0,q1,q2,())))))
noncomputable def L10f_4 (a0:(List Int)) (a1:Int) (a7:Int) (b1_0:(List Int)) (q0:(List DEv)) (q1:(List DEv)) (q2:(List DEv)):Option (Unit × (ZUt × (((List Int) × Unit) × Unit)) × ((List DEv) × ((List DEv) × ((List DEv) × Unit)))):=loopF (fun x:(((List Int) × (Int × (Unit × (Unit × (Int × Unit))))) × (ZUt × (((List Int) × Unit) × Unit)) × ((List DEv) × ((List DEv) × ((List DEv) × Unit))))=>T10f_4 x.1.1 x.1.2.1 x.1.2.2.2.2.1 x.2.1.2.1.1 x.2.2.1 x.2.2.2.1 x.2.2.2.2.1) ((a0,a1,(),(),a7,()),(((),(),(),()),(b1_0,()),()),(q0,q1,q2,()))
theorem L10f_4_eq (a0:(List Int)) (a1:Int) (a7:Int) (b1_0:(List Int)) (q0:(List DEv)) (q1:(List DEv)) (q2:(List DEv)):L10f_4 a0 a1 a7 b1_0 q0 q1 q2=(T10f_4 a0 a1 a7 b1_0 q0 q1 q2).bind (Sum.elim (fun x=>L10f_4 x.1.1 x.1.2.1 x.1.2.2.2.2.1 x.2.1.2.1.1 x.2.2.1 x.2.2.2.1 x.2.2.2.2.1) some):=loopF_eq _ _
noncomputable def k10f_4:Con:=⟨{ sl := [(0,.v (.l (.i .u16))),(1,.v (.i .i64)),(5,.sb (.l tDEv) 3 0),(6,.m (.i .u64) 1),(7,.v (.i .i64))],bx := [[.o 0,.o 1,.o 2], [.r (.i .u64)]],bf := [tDEv,tDEv,tDEv] },(.exit 0 { sl := [],bx := [[.o 0,.o 1,.o 2], [.r (.i .u64)]],bf := [tDEv,tDEv,tDEv] }),fun x=>L10f_4 x.1.1 x.1.2.1 x.1.2.2.2.2.1 x.2.1.2.1.1 x.2.2.1 x.2.2.2.1 x.2.2.2.2.1⟩
theorem k10f_4_ok:Con.LOK Try.prog Try.f10.ntmps (lpOf Try.f10 4) k10f_4:=lpX [(900013,cHot),(600011,cHot),(1000300030,cHot)] [] [] (fun x=>T10f_4 x.1.1 x.1.2.1 x.1.2.2.2.2.1 x.2.1.2.1.1 x.2.2.1 x.2.2.2.1 x.2.2.2.2.1) ⟨cHot_ok,cHot_ok,cHot_ok,trivial⟩ trivial
noncomputable def F10f (a0:(List Int)):Option ((Unit × Unit) × (ZUt × Unit) × ((List DEv) × ((List DEv) × ((List DEv) × Unit)))):=
 (bif ((decide (0≤(3:Int)∧(3:Int)=3∧(3:Int)<(lim:Int))) && (decide (0<(3:Int)))) then ((L10f_4 a0 3 0 (List.replicate (3:Int).toNat (0:Int)) ([]:List DEv) ([]:List DEv) ([]:List DEv)).bind fun y0=>(some (((),()),(((),(),(),()),()),y0.2.2))) else none)
noncomputable def c10f:Con:=⟨{ sl := [(0,.v (.l (.i .u16))),(1,.ki .i64 3)] },(.ret { sl := [(0,.sb (.l tDEv) 3 0)],bx := [[.o 0,.o 1,.o 2]],bf := [tDEv,tDEv,tDEv] }),fun x=>F10f x.1.1⟩
theorem c10f_ok:Con.OK Try.prog 10 c10f:=fnL [(900013,cHot),(600011,cHot),(1000300030,cHot)] [(4,k10f_4)] [4] ⟨cHot_ok,cHot_ok,cHot_ok,trivial⟩ ⟨k10f_4_ok,trivial⟩ Try.func10
noncomputable def F10t (a0:(List Int)):Option (((List (List DEv)) × Unit) × Unit × Unit):=(F10f a0).map fun y=>(([y.2.2.1,y.2.2.2.1,y.2.2.2.2.1],()),(),())
noncomputable def c10t:Con:=⟨c10f.ins,(.ret { sl := [(0,.v (.l (.l tDEv)))] }),fun x=>F10t x.1.1⟩
theorem c10t_ok:Con.OK Try.prog 10 c10t:=thaw (e:=tDEv) (n:=3) rfl rfl (by decide) c10f_ok
noncomputable def F158 (a0:Int) (b0_0:(List (List DEv))):Option ((Int × Unit) × (((List (List DEv)) × Unit) × Unit) × Unit):=
 (some (((((Int.toNat a0):Nat):Int),()),((b0_0,()),()),()))
noncomputable def c158:Con:=⟨{ sl := [(0,.w (.l tDEv) 0)],bx := [[.r (.l tDEv)]] },(.ret { sl := [(0,.v (.i .i64))],bx := [[.r (.l tDEv)]] }),fun x=>F158 x.1.1 x.2.1.1.1⟩
theorem c158_ok:Con.OK Try.prog 158 c158:=fnX [] trivial Try.func158
noncomputable def F159 (a0:Int) (a1:Int) (a2:Int) (b0_0:(List (List DEv))):Option ((Bool × Unit) × (((List (List DEv)) × Unit) × Unit) × Unit):=
 (bif (decide (0≤(a1:Int)∧(a1:Int)<((((Int.toNat a0):Nat)):Int))) then (bif (decide (((((0:Nat):Int)+a1):Int).toNat<(b0_0).length)) then (bif (decide (0≤(0:Int)∧(0:Int)<(((((b0_0).getD ((((0:Nat):Int)+a1):Int).toNat [])).length:Nat):Int))) then ((F52 ((((b0_0).getD ((((0:Nat):Int)+a1):Int).toNat [])).getD (0:Int).toNat zE)).bind fun y0=>(bif (decide (0≤(a2:Int)∧(a2:Int)<((((Int.toNat a0):Nat)):Int))) then (bif (decide (((((0:Nat):Int)+a2):Int).toNat<(b0_0).length)) then (bif (decide (0≤(0:Int)∧(0:Int)<(((((b0_0).getD ((((0:Nat):Int)+a2):Int).toNat [])).length:Nat):Int))) then ((F52 ((((b0_0).getD ((((0:Nat):Int)+a2):Int).toNat [])).getD (0:Int).toNat zE)).bind fun y1=>((F46 y0.1.1 y1.1.1).bind fun y2=>(some (((decide ((y2.1.1:Int)<0)),()),((b0_0,()),()),())))) else none) else none) else none)) else none) else none) else none)
noncomputable def c159:Con:=⟨{ sl := [(0,.w (.l tDEv) 0),(1,.v (.i .i64)),(2,.v (.i .i64))],bx := [[.r (.l tDEv)]] },(.ret { sl := [(0,.v .b)],bx := [[.r (.l tDEv)]] }),fun x=>F159 x.1.1 x.1.2.1 x.1.2.2.1 x.2.1.1.1⟩
theorem c159_ok:Con.OK Try.prog 159 c159:=fnX [(46,c46),(52,c52)] ⟨c46_ok,c52_ok,trivial⟩ Try.func159
noncomputable def F160 (a0:Int) (a1:Int) (a2:Int) (b0_0:(List (List DEv))):Option (Unit × (((List (List DEv)) × Unit) × Unit) × Unit):=
 (bif (decide (0≤(a2:Int)∧(a2:Int)<((((Int.toNat a0):Nat)):Int))) then (bif (decide (((((0:Nat):Int)+a2):Int).toNat<(b0_0).length)) then (bif (decide (0≤(a1:Int)∧(a1:Int)<((((Int.toNat a0):Nat)):Int))) then (bif (decide (((((0:Nat):Int)+a1):Int).toNat<(b0_0).length)) then (bif (decide (0≤(a1:Int)∧(a1:Int)<((((Int.toNat a0):Nat)):Int))) then (bif (decide (((((0:Nat):Int)+a1):Int).toNat<(b0_0).length)) then (bif (decide (0≤(a2:Int)∧(a2:Int)<((((Int.toNat a0):Nat)):Int))) then (bif (decide (((((0:Nat):Int)+a2):Int).toNat<(((b0_0).set ((((0:Nat):Int)+a1):Int).toNat ((b0_0).getD ((((0:Nat):Int)+a2):Int).toNat []))).length)) then (some ((),((((((b0_0).set ((((0:Nat):Int)+a1):Int).toNat ((b0_0).getD ((((0:Nat):Int)+a2):Int).toNat []))).set ((((0:Nat):Int)+a2):Int).toNat ((b0_0).getD ((((0:Nat):Int)+a1):Int).toNat [])),()),()),())) else none) else none) else none) else none) else none) else none) else none) else none)
noncomputable def c160:Con:=⟨{ sl := [(0,.w (.l tDEv) 0),(1,.v (.i .i64)),(2,.v (.i .i64))],bx := [[.r (.l tDEv)]] },(.ret { sl := [],bx := [[.r (.l tDEv)]] }),fun x=>F160 x.1.1 x.1.2.1 x.1.2.2.1 x.2.1.1.1⟩
theorem c160_ok:Con.OK Try.prog 160 c160:=fnX [] trivial Try.func160
noncomputable def F161 (b0_0:Int) (b1_0:(List (List DEv))):Option ((Unit × Unit) × ZHt × Unit):=
 (bif (decide (0≤((IntKind.wrap .i64 ((((Int.toNat b0_0):Nat):Int) - 1)):Int)∧((IntKind.wrap .i64 ((((Int.toNat b0_0):Nat):Int) - 1)):Int)<((((Int.toNat b0_0):Nat)):Int))) then (bif (decide (((((0:Nat):Int)+(IntKind.wrap .i64 ((((Int.toNat b0_0):Nat):Int) - 1))):Int).toNat<(b1_0).length)) then (bif (decide (0≤((IntKind.wrap .i64 ((((Int.toNat b0_0):Nat):Int) - 1)):Int)∧((IntKind.wrap .i64 ((((Int.toNat b0_0):Nat):Int) - 1)):Int)≤(((Int.toNat b0_0):Nat):Int))) then (some (((),()),(((((((IntKind.wrap .i64 ((((Int.toNat b0_0):Nat):Int) - 1)):Int).toNat - 0):Nat):Int),()),(b1_0,()),()),())) else none) else none) else none)
noncomputable def c161:Con:=⟨{ sl := [(0,.p 0 0)],bx := [[.w (.l tDEv) 1], [.r (.l tDEv)]] },(.ret { sl := [(0,.x)],bx := [[.w (.l tDEv) 1], [.r (.l tDEv)]] }),fun x=>F161 x.2.1.1.1 x.2.1.2.1.1⟩
theorem c161_ok:Con.OK Try.prog 161 c161:=fnX [] trivial Try.func161
noncomputable def T140_2 (a1:Int) (a2:Int) (a7:Int) (b0_0:Int) (b1_0:(List (List DEv))):Option (((Unit × (Int × (Int × (Int × Unit)))) × ZHt × Unit) ⊕ ((Int × Unit) × ZHt × Unit)):=
 (bif (decide (((IntKind.wrap .i64 ((IntKind.wrap .i64 (2*a7))+1)):Int)≥a2)) then (some (.inr ((a7,()),(((((Int.toNat b0_0):Nat):Int),()),(b1_0,()),()),()))) else (bif (decide (((IntKind.wrap .i64 ((IntKind.wrap .i64 (2*a7))+1)):Int)<0)) then (some (.inr ((a7,()),(((((Int.toNat b0_0):Nat):Int),()),(b1_0,()),()),()))) else (bif (decide (((IntKind.wrap .i64 ((IntKind.wrap .i64 ((IntKind.wrap .i64 (2*a7))+1))+1)):Int)<a2)) then ((F159 (((Int.toNat b0_0):Nat):Int) (IntKind.wrap .i64 ((IntKind.wrap .i64 ((IntKind.wrap .i64 (2*a7))+1))+1)) (IntKind.wrap .i64 ((IntKind.wrap .i64 (2*a7))+1)) b1_0).bind fun y0=>(bif y0.1.1 then ((F159 (((Int.toNat b0_0):Nat):Int) (IntKind.wrap .i64 ((IntKind.wrap .i64 ((IntKind.wrap .i64 (2*a7))+1))+1)) a7 y0.2.1.1.1).bind fun y1=>(bif (!y1.1.1) then (some (.inr ((a7,()),(((((Int.toNat b0_0):Nat):Int),()),y1.2.1.1,()),()))) else ((F160 (((Int.toNat b0_0):Nat):Int) a7 (IntKind.wrap .i64 ((IntKind.wrap .i64 ((IntKind.wrap .i64 (2*a7))+1))+1)) y1.2.1.1.1).bind fun y2=>(some (.inl (((),a1,a2,(IntKind.wrap .i64 ((IntKind.wrap .i64 ((IntKind.wrap .i64 (2*a7))+1))+1)),()),(((((Int.toNat b0_0):Nat):Int),()),y2.2.1.1,()),())))))) else ((F159 (((Int.toNat b0_0):Nat):Int) (IntKind.wrap .i64 ((IntKind.wrap .i64 (2*a7))+1)) a7 y0.2.1.1.1).bind fun y3=>(bif (!y3.1.1) then (some (.inr ((a7,()),(((((Int.toNat b0_0):Nat):Int),()),y3.2.1.1,()),()))) else ((F160 (((Int.toNat b0_0):Nat):Int) a7 (IntKind.wrap .i64 ((IntKind.wrap .i64 (2*a7))+1)) y3.2.1.1.1).bind fun y4=>(some (.inl (((),a1,a2,(IntKind.wrap .i64 ((IntKind.wrap .i64 (2*a7))+1)),()),(((((Int.toNat b0_0):Nat):Int),()),y4.2.1.1,()),())))))))) else ((F159 (((Int.toNat b0_0):Nat):Int) (IntKind.wrap .i64 ((IntKind.wrap .i64 (2*a7))+1)) a7 b1_0).bind fun y5=>(bif (!y5.1.1) then (some (.inr ((a7,()),(((((Int.toNat b0_0):Nat):Int),()),y5.2.1.1,()),()))) else ((F160 (((Int.toNat b0_0):Nat):Int) a7 (IntKind.wrap .i64 ((IntKind.wrap .i64 (2*a7))+1)) y5.2.1.1.1).bind fun y6=>(some (.inl (((),a1,a2,(IntKind.wrap .i64 ((IntKind.wrap .i64 (2*a7))+1)),()),(((((Int.toNat b0_0):Nat):Int),()),y6.2.1.1,()),())))))))))
noncomputable def L140_2 (a1:Int) (a2:Int) (a7:Int) (b0_0:Int) (b1_0:(List (List DEv))):Option ((Int × Unit) × ZHt × Unit):=loopF (fun x:((Unit × (Int × (Int × (Int × Unit)))) × ZHt × Unit)=>T140_2 x.1.2.1 x.1.2.2.1 x.1.2.2.2.1 x.2.1.1.1 x.2.1.2.1.1) (((),a1,a2,a7,()),((b0_0,()),(b1_0,()),()),())
theorem L140_2_eq (a1:Int) (a2:Int) (a7:Int) (b0_0:Int) (b1_0:(List (List DEv))):L140_2 a1 a2 a7 b0_0 b1_0=(T140_2 a1 a2 a7 b0_0 b1_0).bind (Sum.elim (fun x=>L140_2 x.1.2.1 x.1.2.2.1 x.1.2.2.2.1 x.2.1.1.1 x.2.1.2.1.1) some):=loopF_eq _ _
noncomputable def k140_2:Con:=⟨{ sl := [(0,.ip 187 0 0),(1,.v (.i .i64)),(2,.v (.i .i64)),(7,.v (.i .i64))],bx := [[.w (.l tDEv) 1], [.r (.l tDEv)]] },(.exit 0 { sl := [(7,.v (.i .i64))],bx := [[.w (.l tDEv) 1], [.r (.l tDEv)]] }),fun x=>L140_2 x.1.2.1 x.1.2.2.1 x.1.2.2.2.1 x.2.1.1.1 x.2.1.2.1.1⟩
theorem k140_2_ok:Con.LOK Try.prog Try.f140.ntmps (lpOf Try.f140 2) k140_2:=lpX [(159,c159),(160,c160)] [] [] (fun x=>T140_2 x.1.2.1 x.1.2.2.1 x.1.2.2.2.1 x.2.1.1.1 x.2.1.2.1.1) ⟨c159_ok,c160_ok,trivial⟩ trivial
noncomputable def F140 (a1:Int) (a2:Int) (b0_0:Int) (b1_0:(List (List DEv))):Option ((Bool × Unit) × ZHt × Unit):=
 ((L140_2 a1 a2 a1 (((Int.toNat b0_0):Nat):Int) b1_0).bind fun y0=>(some (((decide ((y0.1.1:Int) > a1)),()),(((((Int.toNat y0.2.1.1.1):Nat):Int),()),y0.2.1.2.1,()),())))
noncomputable def c140:Con:=⟨{ sl := [(0,.ip 187 0 0),(1,.v (.i .i64)),(2,.v (.i .i64))],bx := [[.w (.l tDEv) 1], [.r (.l tDEv)]] },(.ret { sl := [(0,.v .b)],bx := [[.w (.l tDEv) 1], [.r (.l tDEv)]] }),fun x=>F140 x.1.2.1 x.1.2.2.1 x.2.1.1.1 x.2.1.2.1.1⟩
theorem c140_ok:Con.OK Try.prog 140 c140:=fnL [(159,c159),(160,c160)] [(2,k140_2)] [2] ⟨c159_ok,c160_ok,trivial⟩ ⟨k140_2_ok,trivial⟩ Try.func140
noncomputable def T141_0 (a1:Int) (b0_0:Int) (b1_0:(List (List DEv))):Option (((Unit × (Int × Unit)) × ZHt × Unit) ⊕ (Unit × ZHt × Unit)):=
 (bif (((IntKind.wrap .i64 (((IntKind.wrap .i64 (a1 - 1)):Int).tdiv 2)):Int) == a1) then (some (.inr ((),(((((Int.toNat b0_0):Nat):Int),()),(b1_0,()),()),()))) else ((F159 (((Int.toNat b0_0):Nat):Int) a1 (IntKind.wrap .i64 (((IntKind.wrap .i64 (a1 - 1)):Int).tdiv 2)) b1_0).bind fun y0=>(bif (!y0.1.1) then (some (.inr ((),(((((Int.toNat b0_0):Nat):Int),()),y0.2.1.1,()),()))) else ((F160 (((Int.toNat b0_0):Nat):Int) (IntKind.wrap .i64 (((IntKind.wrap .i64 (a1 - 1)):Int).tdiv 2)) a1 y0.2.1.1.1).bind fun y1=>(some (.inl (((),(IntKind.wrap .i64 (((IntKind.wrap .i64 (a1 - 1)):Int).tdiv 2)),()),(((((Int.toNat b0_0):Nat):Int),()),y1.2.1.1,()),())))))))
noncomputable def L141_0 (a1:Int) (b0_0:Int) (b1_0:(List (List DEv))):Option (Unit × ZHt × Unit):=loopF (fun x:((Unit × (Int × Unit)) × ZHt × Unit)=>T141_0 x.1.2.1 x.2.1.1.1 x.2.1.2.1.1) (((),a1,()),((b0_0,()),(b1_0,()),()),())
theorem L141_0_eq (a1:Int) (b0_0:Int) (b1_0:(List (List DEv))):L141_0 a1 b0_0 b1_0=(T141_0 a1 b0_0 b1_0).bind (Sum.elim (fun x=>L141_0 x.1.2.1 x.2.1.1.1 x.2.1.2.1.1) some):=loopF_eq _ _
noncomputable def k141_0:Con:=⟨{ sl := [(0,.ip 187 0 0),(1,.v (.i .i64))],bx := [[.w (.l tDEv) 1], [.r (.l tDEv)]] },(.exit 0 { sl := [],bx := [[.w (.l tDEv) 1], [.r (.l tDEv)]] }),fun x=>L141_0 x.1.2.1 x.2.1.1.1 x.2.1.2.1.1⟩
theorem k141_0_ok:Con.LOK Try.prog Try.f141.ntmps (lpOf Try.f141 0) k141_0:=lpX [(159,c159),(160,c160)] [] [] (fun x=>T141_0 x.1.2.1 x.2.1.1.1 x.2.1.2.1.1) ⟨c159_ok,c160_ok,trivial⟩ trivial
noncomputable def F141 (a1:Int) (b0_0:Int) (b1_0:(List (List DEv))):Option (Unit × ZHt × Unit):=
 ((L141_0 a1 (((Int.toNat b0_0):Nat):Int) b1_0).bind fun y0=>(some ((),(((((Int.toNat y0.2.1.1.1):Nat):Int),()),y0.2.1.2.1,()),())))
noncomputable def c141:Con:=⟨{ sl := [(0,.ip 187 0 0),(1,.v (.i .i64))],bx := [[.w (.l tDEv) 1], [.r (.l tDEv)]] },(.ret { sl := [],bx := [[.w (.l tDEv) 1], [.r (.l tDEv)]] }),fun x=>F141 x.1.2.1 x.2.1.1.1 x.2.1.2.1.1⟩
theorem c141_ok:Con.OK Try.prog 141 c141:=fnL [(159,c159),(160,c160)] [(0,k141_0)] [0] ⟨c159_ok,c160_ok,trivial⟩ ⟨k141_0_ok,trivial⟩ Try.func141
noncomputable def T136_2 (a2:Int) (a3:Int) (b0_0:Int) (b1_0:(List (List DEv))):Option (((Unit × (Int × (Int × Unit))) × ZHt × Unit) ⊕ (Unit × ZHt × Unit)):=
 (bif (decide ((a3:Int)≥0)) then ((F140 a3 a2 (((Int.toNat b0_0):Nat):Int) b1_0).bind fun y0=>(some (.inl (((),a2,(IntKind.wrap .i64 (a3 - 1)),()),(((((Int.toNat y0.2.1.1.1):Nat):Int),()),y0.2.1.2.1,()),())))) else (some (.inr ((),(((((Int.toNat b0_0):Nat):Int),()),(b1_0,()),()),()))))
noncomputable def L136_2 (a2:Int) (a3:Int) (b0_0:Int) (b1_0:(List (List DEv))):Option (Unit × ZHt × Unit):=loopF (fun x:((Unit × (Int × (Int × Unit))) × ZHt × Unit)=>T136_2 x.1.2.1 x.1.2.2.1 x.2.1.1.1 x.2.1.2.1.1) (((),a2,a3,()),((b0_0,()),(b1_0,()),()),())
theorem L136_2_eq (a2:Int) (a3:Int) (b0_0:Int) (b1_0:(List (List DEv))):L136_2 a2 a3 b0_0 b1_0=(T136_2 a2 a3 b0_0 b1_0).bind (Sum.elim (fun x=>L136_2 x.1.2.1 x.1.2.2.1 x.2.1.1.1 x.2.1.2.1.1) some):=loopF_eq _ _
noncomputable def k136_2:Con:=⟨{ sl := [(0,.ip 187 0 0),(2,.v (.i .i64)),(3,.v (.i .i64))],bx := [[.w (.l tDEv) 1], [.r (.l tDEv)]] },(.exit 0 { sl := [],bx := [[.w (.l tDEv) 1], [.r (.l tDEv)]] }),fun x=>L136_2 x.1.2.1 x.1.2.2.1 x.2.1.1.1 x.2.1.2.1.1⟩
theorem k136_2_ok:Con.LOK Try.prog Try.f136.ntmps (lpOf Try.f136 2) k136_2:=lpX [(140,c140)] [] [] (fun x=>T136_2 x.1.2.1 x.1.2.2.1 x.2.1.1.1 x.2.1.2.1.1) ⟨c140_ok,trivial⟩ trivial
noncomputable def F136 (b0_0:Int) (b1_0:(List (List DEv))):Option (Unit × ZHt × Unit):=
 ((F158 (((Int.toNat b0_0):Nat):Int) b1_0).bind fun y0=>((L136_2 y0.1.1 (IntKind.wrap .i64 ((IntKind.wrap .i64 ((y0.1.1:Int).tdiv 2)) - 1)) (((Int.toNat b0_0):Nat):Int) y0.2.1.1.1).bind fun y1=>(some ((),(((((Int.toNat y1.2.1.1.1):Nat):Int),()),y1.2.1.2.1,()),()))))
noncomputable def c136:Con:=⟨{ sl := [(0,.ip 187 0 0)],bx := [[.w (.l tDEv) 1], [.r (.l tDEv)]] },(.ret { sl := [],bx := [[.w (.l tDEv) 1], [.r (.l tDEv)]] }),fun x=>F136 x.2.1.1.1 x.2.1.2.1.1⟩
theorem c136_ok:Con.OK Try.prog 136 c136:=fnL [(140,c140),(158,c158)] [(2,k136_2)] [2] ⟨c140_ok,c158_ok,trivial⟩ ⟨k136_2_ok,trivial⟩ Try.func136
noncomputable def F137 (a1:Int) (b0_0:Int) (b1_0:(List (List DEv))):Option (Unit × ZHt × Unit):=
 ((F158 (((Int.toNat b0_0):Nat):Int) b1_0).bind fun y0=>((F140 a1 y0.1.1 (((Int.toNat b0_0):Nat):Int) y0.2.1.1.1).bind fun y1=>(bif (!y1.1.1) then ((F141 a1 (((Int.toNat y1.2.1.1.1):Nat):Int) y1.2.1.2.1.1).bind fun y2=>(some ((),(((((Int.toNat y2.2.1.1.1):Nat):Int),()),y2.2.1.2.1,()),()))) else (some ((),(((((Int.toNat y1.2.1.1.1):Nat):Int),()),y1.2.1.2.1,()),())))))
noncomputable def c137:Con:=⟨{ sl := [(0,.ip 187 0 0),(1,.v (.i .i64))],bx := [[.w (.l tDEv) 1], [.r (.l tDEv)]] },(.ret { sl := [],bx := [[.w (.l tDEv) 1], [.r (.l tDEv)]] }),fun x=>F137 x.1.2.1 x.2.1.1.1 x.2.1.2.1.1⟩
theorem c137_ok:Con.OK Try.prog 137 c137:=fnX [(140,c140),(141,c141),(158,c158)] ⟨c140_ok,c141_ok,c158_ok,trivial⟩ Try.func137
noncomputable def F138 (b0_0:Int) (b1_0:(List (List DEv))):Option ((Unit × Unit) × ZHt × Unit):=
 ((F158 (((Int.toNat b0_0):Nat):Int) b1_0).bind fun y0=>((F160 (((Int.toNat b0_0):Nat):Int) 0 (IntKind.wrap .i64 (y0.1.1 - 1)) y0.2.1.1.1).bind fun y1=>((F140 0 (IntKind.wrap .i64 (y0.1.1 - 1)) (((Int.toNat b0_0):Nat):Int) y1.2.1.1.1).bind fun y2=>((F161 (((Int.toNat y2.2.1.1.1):Nat):Int) y2.2.1.2.1.1).bind fun y3=>(some (((),()),(((((Int.toNat y3.2.1.1.1):Nat):Int),()),y3.2.1.2.1,()),()))))))
noncomputable def c138:Con:=⟨{ sl := [(0,.ip 187 0 0)],bx := [[.w (.l tDEv) 1], [.r (.l tDEv)]] },(.ret { sl := [(0,.x)],bx := [[.w (.l tDEv) 1], [.r (.l tDEv)]] }),fun x=>F138 x.2.1.1.1 x.2.1.2.1.1⟩
theorem c138_ok:Con.OK Try.prog 138 c138:=fnX [(140,c140),(158,c158),(160,c160),(161,c161)] ⟨c140_ok,c158_ok,c160_ok,c161_ok,trivial⟩ Try.func138
noncomputable def T126_3 (a8:(List (List DEv))) (a9:Int) (a10:Int) (b1_0:(List (List DEv))):Option (((Unit × ((List (List DEv)) × (Int × (Int × Unit)))) × ((Unit × Unit) × (((List (List DEv)) × Unit) × Unit)) × Unit) ⊕ (Unit × ((Unit × Unit) × ((Unit × Unit) × (((List (List DEv)) × Unit) × Unit))) × Unit)):=
 (bif (decide ((a10:Int)<a9)) then (bif (decide (0≤(a10:Int)∧(a10:Int)<(((a8).length:Nat):Int))) then (bif (decide (((((((a8).getD (a10:Int).toNat [])).length:Nat):Int):Int) > 0)) then (bif (decide ((b1_0).length+([((a8).getD (a10:Int).toNat [])]).length<lim)) then (some (.inl (((),a8,a9,(IntKind.wrap .i64 (a10+1)),()),(((),()),((b1_0 ++ [((a8).getD (a10:Int).toNat [])]),()),()),()))) else none) else (some (.inl (((),a8,a9,(IntKind.wrap .i64 (a10+1)),()),(((),()),(b1_0,()),()),())))) else none) else (some (.inr ((),(((),()),((),()),(b1_0,()),()),()))))
noncomputable def L126_3 (a8:(List (List DEv))) (a9:Int) (a10:Int) (b1_0:(List (List DEv))):Option (Unit × ((Unit × Unit) × ((Unit × Unit) × (((List (List DEv)) × Unit) × Unit))) × Unit):=loopF (fun x:((Unit × ((List (List DEv)) × (Int × (Int × Unit)))) × ((Unit × Unit) × (((List (List DEv)) × Unit) × Unit)) × Unit)=>T126_3 x.1.2.1 x.1.2.2.1 x.1.2.2.2.1 x.2.1.2.1.1) (((),a8,a9,a10,()),(((),()),(b1_0,()),()),())
theorem L126_3_eq (a8:(List (List DEv))) (a9:Int) (a10:Int) (b1_0:(List (List DEv))):L126_3 a8 a9 a10 b1_0=(T126_3 a8 a9 a10 b1_0).bind (Sum.elim (fun x=>L126_3 x.1.2.1 x.1.2.2.1 x.1.2.2.2.1 x.2.1.2.1.1) some):=loopF_eq _ _
noncomputable def k126_3:Con:=⟨{ sl := [(3,.p 0 0),(8,.v (.l (.l tDEv))),(9,.v (.i .i64)),(10,.v (.i .i64))],bx := [[.m (.l tDEv) 1], [.r (.l tDEv)]] },(.exit 0 { sl := [],bx := [[.m (.l tDEv) 2], [.g], [.r (.l tDEv)]] }),fun x=>L126_3 x.1.2.1 x.1.2.2.1 x.1.2.2.2.1 x.2.1.2.1.1⟩
theorem k126_3_ok:Con.LOK Try.prog Try.f126.ntmps (lpOf Try.f126 3) k126_3:=lpX [] [] [] (fun x=>T126_3 x.1.2.1 x.1.2.2.1 x.1.2.2.2.1 x.2.1.2.1.1) trivial trivial
noncomputable def F126 (a0:(List (List DEv))):Option ((Unit × Unit) × ZHt × Unit):=
 ((L126_3 a0 (((a0).length:Nat):Int) 0 ([]:List (List DEv))).bind fun y0=>((F136 (((y0.2.1.2.2.1.1).length:Nat):Int) y0.2.1.2.2.1.1).bind fun y1=>(some (((),()),(((((Int.toNat y1.2.1.1.1):Nat):Int),()),y1.2.1.2.1,()),()))))
noncomputable def c126:Con:=⟨{ sl := [(0,.v (.l (.l tDEv)))] },(.ret { sl := [(0,.p 0 0)],bx := [[.w (.l tDEv) 1], [.r (.l tDEv)]] }),fun x=>F126 x.1.1⟩
theorem c126_ok:Con.OK Try.prog 126 c126:=fnL [(136,c136)] [(3,k126_3)] [3] ⟨c136_ok,trivial⟩ ⟨k126_3_ok,trivial⟩ Try.func126
noncomputable def F128 (b0_0:Int) (b1_0:(List (List DEv))):Option ((DEv × (Bool × Unit)) × ZHt × Unit):=
 (bif (((((Int.toNat b0_0):Nat):Int):Int) == 0) then (some (((0,(0,(0,(0,(ByteArray.empty,(([]:List Int),(0,(0,())))))))),false,()),(((((Int.toNat b0_0):Nat):Int),()),(b1_0,()),()),())) else (bif (decide (0≤(0:Int)∧(0:Int)<((((Int.toNat b0_0):Nat)):Int))) then (bif (decide (((((0:Nat):Int)+0):Int).toNat<(b1_0).length)) then (bif (decide (0≤(0:Int)∧(0:Int)<(((((b1_0).getD ((((0:Nat):Int)+0):Int).toNat [])).length:Nat):Int))) then (bif (decide (0≤(0:Int)∧(0:Int)<((((Int.toNat b0_0):Nat)):Int))) then (bif (decide (((((0:Nat):Int)+0):Int).toNat<(b1_0).length)) then (bif (decide (0≤(1:Int)∧(1:Int)≤(((((b1_0).getD ((((0:Nat):Int)+0):Int).toNat [])).length:Nat):Int))) then (bif (decide (((((((((b1_0).getD ((((0:Nat):Int)+0):Int).toNat [])).drop (1:Int).toNat)).length:Nat):Int):Int) > 0)) then (bif (decide (0≤(0:Int)∧(0:Int)<((((Int.toNat b0_0):Nat)):Int))) then (bif (decide (((((0:Nat):Int)+0):Int).toNat<(b1_0).length)) then ((F137 0 (((Int.toNat b0_0):Nat):Int) ((b1_0).set ((((0:Nat):Int)+0):Int).toNat ((((b1_0).getD ((((0:Nat):Int)+0):Int).toNat [])).drop (1:Int).toNat))).bind fun y0=>(some ((((((b1_0).getD ((((0:Nat):Int)+0):Int).toNat [])).getD (0:Int).toNat zE),true,()),(((((Int.toNat y0.2.1.1.1):Nat):Int),()),y0.2.1.2.1,()),()))) else none) else none) else ((F138 (((Int.toNat b0_0):Nat):Int) b1_0).bind fun y1=>(some ((((((b1_0).getD ((((0:Nat):Int)+0):Int).toNat [])).getD (0:Int).toNat zE),true,()),(((((Int.toNat y1.2.1.1.1):Nat):Int),()),y1.2.1.2.1,()),())))) else none) else none) else none) else none) else none) else none))
noncomputable def c128:Con:=⟨{ sl := [(0,.p 0 0)],bx := [[.w (.l tDEv) 1], [.r (.l tDEv)]] },(.ret { sl := [(0,.v tDEv),(1,.v .b)],bx := [[.w (.l tDEv) 1], [.r (.l tDEv)]] }),fun x=>F128 x.2.1.1.1 x.2.1.2.1.1⟩
theorem c128_ok:Con.OK Try.prog 128 c128:=fnX [(137,c137),(138,c138)] ⟨c137_ok,c138_ok,trivial⟩ Try.func128
noncomputable def T127_2 (a5:Int) (b0_0:Int) (b1_0:Int) (b1_1:Int) (b2_0:(List (List DEv))):Option (((Unit × (Unit × (Int × Unit))) × ((Int × Unit) × ((Int × (Int × Unit)) × (((List (List DEv)) × Unit) × Unit))) × Unit) ⊕ ((Int × Unit) × ((Int × Unit) × ((Int × (Int × Unit)) × (((List (List DEv)) × Unit) × Unit))) × Unit)):=
 (bif (decide (((((Int.toNat b0_0):Nat):Int):Int) > 0)) then (bif (decide (0≤(0:Int)∧(0:Int)<((((Int.toNat b0_0):Nat)):Int))) then (bif (decide (((((0:Nat):Int)+0):Int).toNat<(b2_0).length)) then (bif (decide (0≤(0:Int)∧(0:Int)<(((((b2_0).getD ((((0:Nat):Int)+0):Int).toNat [])).length:Nat):Int))) then ((F52 ((((b2_0).getD ((((0:Nat):Int)+0):Int).toNat [])).getD (0:Int).toNat zE)).bind fun y0=>((F46 y0.1.1 (b1_0,(b1_1,()))).bind fun y1=>(bif (decide ((y1.1.1:Int)≤0)) then ((F128 (((Int.toNat b0_0):Nat):Int) b2_0).bind fun y2=>(some (.inl (((),(),(IntKind.wrap .i64 (a5+1)),()),(((((Int.toNat y2.2.1.1.1):Nat):Int),()),(b1_0,b1_1,()),y2.2.1.2.1,()),())))) else (some (.inr ((a5,()),(((((Int.toNat b0_0):Nat):Int),()),(b1_0,b1_1,()),(b2_0,()),()),())))))) else none) else none) else none) else (some (.inr ((a5,()),(((((Int.toNat b0_0):Nat):Int),()),(b1_0,b1_1,()),(b2_0,()),()),()))))
noncomputable def L127_2 (a5:Int) (b0_0:Int) (b1_0:Int) (b1_1:Int) (b2_0:(List (List DEv))):Option ((Int × Unit) × ((Int × Unit) × ((Int × (Int × Unit)) × (((List (List DEv)) × Unit) × Unit))) × Unit):=loopF (fun x:((Unit × (Unit × (Int × Unit))) × ((Int × Unit) × ((Int × (Int × Unit)) × (((List (List DEv)) × Unit) × Unit))) × Unit)=>T127_2 x.1.2.2.1 x.2.1.1.1 x.2.1.2.1.1 x.2.1.2.1.2.1 x.2.1.2.2.1.1) (((),(),a5,()),((b0_0,()),(b1_0,b1_1,()),(b2_0,()),()),())
theorem L127_2_eq (a5:Int) (b0_0:Int) (b1_0:Int) (b1_1:Int) (b2_0:(List (List DEv))):L127_2 a5 b0_0 b1_0 b1_1 b2_0=(T127_2 a5 b0_0 b1_0 b1_1 b2_0).bind (Sum.elim (fun x=>L127_2 x.1.2.2.1 x.2.1.1.1 x.2.1.2.1.1 x.2.1.2.1.2.1 x.2.1.2.2.1.1) some):=loopF_eq _ _
noncomputable def k127_2:Con:=⟨{ sl := [(0,.p 0 0),(3,.p 1 0),(5,.v (.i .i64))],bx := [[.w (.l tDEv) 2], [.v (.i .u64),.v (.i .i64)], [.r (.l tDEv)]] },(.exit 0 { sl := [(5,.v (.i .i64))],bx := [[.w (.l tDEv) 2], [.v (.i .u64),.v (.i .i64)], [.r (.l tDEv)]] }),fun x=>L127_2 x.1.2.2.1 x.2.1.1.1 x.2.1.2.1.1 x.2.1.2.1.2.1 x.2.1.2.2.1.1⟩
theorem k127_2_ok:Con.LOK Try.prog Try.f127.ntmps (lpOf Try.f127 2) k127_2:=lpX [(46,c46),(52,c52),(128,c128)] [] [] (fun x=>T127_2 x.1.2.2.1 x.2.1.1.1 x.2.1.2.1.1 x.2.1.2.1.2.1 x.2.1.2.2.1.1) ⟨c46_ok,c52_ok,c128_ok,trivial⟩ trivial
noncomputable def F127 (a1:(Int × (Int × Unit))) (b0_0:Int) (b1_0:(List (List DEv))):Option ((Int × Unit) × ZHt × Unit):=
 ((L127_2 0 (((Int.toNat b0_0):Nat):Int) a1.1 a1.2.1 b1_0).bind fun y0=>(some (y0.1,(((((Int.toNat y0.2.1.1.1):Nat):Int),()),y0.2.1.2.2.1,()),())))
noncomputable def c127:Con:=⟨{ sl := [(0,.p 0 0),(1,.v (.p (.i .u64) (.p (.i .i64) .u)))],bx := [[.w (.l tDEv) 1], [.r (.l tDEv)]] },(.ret { sl := [(0,.v (.i .i64))],bx := [[.w (.l tDEv) 1], [.r (.l tDEv)]] }),fun x=>F127 x.1.2.1 x.2.1.1.1 x.2.1.2.1.1⟩
theorem c127_ok:Con.OK Try.prog 127 c127:=fnL [(46,c46),(52,c52),(128,c128)] [(2,k127_2)] [2] ⟨c46_ok,c52_ok,c128_ok,trivial⟩ ⟨k127_2_ok,trivial⟩ Try.func127
noncomputable def T110_4 (a2:Int) (b0_0:Int) (b1_0:(List (List DEv))) (q0:(List DEv)):Option (((Int × (Unit × (Unit × Unit))) × ZHt × ((List DEv) × Unit)) ⊕ ((Unit × Unit) × ZHt × ((List DEv) × Unit))):=
 (bif (decide (((((q0).length:Nat):Int):Int)<a2)) then ((F128 (((Int.toNat b0_0):Nat):Int) b1_0).bind fun y0=>(bif (!y0.1.2.1) then (some (.inr (((),()),(((((Int.toNat y0.2.1.1.1):Nat):Int),()),y0.2.1.2.1,()),(q0,())))) else (bif (decide ((q0).length+([y0.1.1]).length<lim)) then (some (.inl ((a2,(),(),()),(((((Int.toNat y0.2.1.1.1):Nat):Int),()),y0.2.1.2.1,()),((q0 ++ [y0.1.1]),())))) else none))) else (some (.inr (((),()),(((((Int.toNat b0_0):Nat):Int),()),(b1_0,()),()),(q0,())))))
noncomputable def L110_4 (a2:Int) (b0_0:Int) (b1_0:(List (List DEv))) (q0:(List DEv)):Option ((Unit × Unit) × ZHt × ((List DEv) × Unit)):=loopF (fun x:((Int × (Unit × (Unit × Unit))) × ZHt × ((List DEv) × Unit))=>T110_4 x.1.1 x.2.1.1.1 x.2.1.2.1.1 x.2.2.1) ((a2,(),(),()),((b0_0,()),(b1_0,()),()),(q0,()))
theorem L110_4_eq (a2:Int) (b0_0:Int) (b1_0:(List (List DEv))) (q0:(List DEv)):L110_4 a2 b0_0 b1_0 q0=(T110_4 a2 b0_0 b1_0 q0).bind (Sum.elim (fun x=>L110_4 x.1.1 x.2.1.1.1 x.2.1.2.1.1 x.2.2.1) some):=loopF_eq _ _
noncomputable def k110_4:Con:=⟨{ sl := [(2,.v (.i .i64)),(7,.p 0 0),(8,.o 0)],bx := [[.w (.l tDEv) 1], [.r (.l tDEv)]],bf := [tDEv] },(.exit 0 { sl := [(8,.o 0)],bx := [[.w (.l tDEv) 1], [.r (.l tDEv)]],bf := [tDEv] }),fun x=>L110_4 x.1.1 x.2.1.1.1 x.2.1.2.1.1 x.2.2.1⟩
theorem k110_4_ok:Con.LOK Try.prog Try.f110.ntmps (lpOf Try.f110 4) k110_4:=lpX [(128,c128)] [] [] (fun x=>T110_4 x.1.1 x.2.1.1.1 x.2.1.2.1.1 x.2.2.1) ⟨c128_ok,trivial⟩ trivial
noncomputable def F110 (a0:(List (List DEv))) (a1:(Int × (Int × Unit))) (a2:Int):Option (((List DEv) × Unit) × Unit × Unit):=
 ((F126 a0).bind fun y0=>((F127 a1 (((Int.toNat y0.2.1.1.1):Nat):Int) y0.2.1.2.1.1).bind fun y1=>((L110_4 a2 (((Int.toNat y1.2.1.1.1):Nat):Int) y1.2.1.2.1.1 ([]:List DEv)).bind fun y2=>(some (y2.2.2,(),())))))
noncomputable def c110:Con:=⟨{ sl := [(0,.v (.l (.l tDEv))),(1,.v (.p (.i .u64) (.p (.i .i64) .u))),(2,.v (.i .i64))] },(.ret { sl := [(0,.v (.l tDEv))] }),fun x=>F110 x.1.1 x.1.2.1 x.1.2.2.1⟩
theorem c110_ok:Con.OK Try.prog 110 c110:=fnL [(126,c126),(127,c127),(128,c128)] [(4,k110_4)] [4] ⟨c126_ok,c127_ok,c128_ok,trivial⟩ ⟨k110_4_ok,trivial⟩ Try.func110
noncomputable def F85 (a0:(List (List DEv))):Option (((List DEv) × Unit) × Unit × Unit):=
 ((F110 a0 (0,((-1),())) 4611686018427387904).bind fun y0=>(some (y0.1,(),())))
noncomputable def c85:Con:=⟨{ sl := [(0,.v (.l (.l tDEv)))] },(.ret { sl := [(0,.v (.l tDEv))] }),fun x=>F85 x.1.1⟩
theorem c85_ok:Con.OK Try.prog 85 c85:=fnX [(110,c110)] ⟨c110_ok,trivial⟩ Try.func85
noncomputable def F20:Option ((Unit × Unit) × (ZFt × (ZKt × Unit)) × Unit):=
 (some (((),()),(((),(((((((List.replicate 64 (false:Bool))).set (0:Int).toNat true)).set (1:Int).toNat true)).set (2:Int).toNat true),(List.replicate 64 (false:Bool)),([]:List Int),0,0,14695981039346656037,()),(([]:List (ByteArray × DCe)),()),()),()))
noncomputable def c20:Con:=⟨{ sl := [(0,.ki .i64 3)] },(.ret { sl := [(0,.p 0 0)],bx := [[.mv 1,.sg 64 .b,.sg 64 .b,.v (.l (.i .u64)),.v (.i .u64),.v (.i .i64),.v (.i .u64)], [.ms tDCe]] }),fun x=>F20⟩
theorem c20_ok:Con.OK Try.prog 20 c20:=fnL [(900005,cHot),(900007,cHot),(700003,cHot)] [] [3] ⟨cHot_ok,cHot_ok,cHot_ok,trivial⟩ trivial Try.func20
noncomputable def F35 (b0_1:(List Bool)) (b0_2:(List Bool)) (b0_3:(List Int)) (b0_4:Int) (b0_5:Int) (b0_6:Int) (b1_0:(List (ByteArray × DCe))):Option (((Int × (Int × Unit)) × Unit) × (ZFt × (ZKt × Unit)) × Unit):=
 (some (((b0_4,(b0_5,())),()),(((),b0_1,b0_2,b0_3,b0_4,b0_5,b0_6,()),(b1_0,()),()),()))
noncomputable def c35:Con:=⟨{ sl := [(0,.p 0 0)],bx := [[.mv 1,.sg 64 .b,.sg 64 .b,.v (.l (.i .u64)),.v (.i .u64),.v (.i .i64),.v (.i .u64)], [.ms tDCe]] },(.ret { sl := [(0,.v (.p (.i .u64) (.p (.i .i64) .u)))],bx := [[.mv 1,.sg 64 .b,.sg 64 .b,.v (.l (.i .u64)),.v (.i .u64),.v (.i .i64),.v (.i .u64)], [.ms tDCe]] }),fun x=>F35 x.2.1.1.2.1 x.2.1.1.2.2.1 x.2.1.1.2.2.2.1 x.2.1.1.2.2.2.2.1 x.2.1.1.2.2.2.2.2.1 x.2.1.1.2.2.2.2.2.2.1 x.2.1.2.1.1⟩
theorem c35_okR:Con.OKR Try.prog 35 c35:=fnR [] trivial Try.func35
theorem c35_ok:Con.OK Try.prog 35 c35:=c35_okR.ok
noncomputable def T23_12 (a58:(List Int)) (a59:Int) (a60:Int) (b0_1:(List Bool)) (b0_2:(List Bool)) (b0_3:(List Int)) (b0_4:Int) (b0_5:Int) (b0_6:Int) (b1_0:Int) (b1_1:Int) (b1_2:Int) (b1_3:Int) (b1_4:ByteArray) (b1_5:(List Int)) (b1_6:Nat) (b1_7:Int) (b2_0:(List (ByteArray × DCe))):Option (((Unit × (Unit × ((List Int) × (Int × (Int × Unit))))) × (ZFt × (DEv × (ZKt × Unit))) × Unit) ⊕ (Unit × (ZFt × (DEv × (ZKt × Unit))) × Unit)):=
 (bif (decide ((a60:Int)<a59)) then (bif (decide (0≤(a60:Int)∧(a60:Int)<(((a58).length:Nat):Int))) then (some (.inl (((),(),a58,a59,(IntKind.wrap .i64 (a60+1)),()),(((),b0_1,b0_2,b0_3,b0_4,b0_5,(IntKind.wrap .u64 ((iXor .u64 b0_6 (IntKind.wrap .u64 ((a58).getD (a60:Int).toNat (0:Int))))*1099511628211)),()),(b1_0,b1_1,b1_2,b1_3,b1_4,b1_5,b1_6,b1_7,()),(b2_0,()),()),()))) else none) else (some (.inr ((),(((),b0_1,b0_2,b0_3,b0_4,b0_5,b0_6,()),(b1_0,b1_1,b1_2,b1_3,b1_4,b1_5,b1_6,b1_7,()),(b2_0,()),()),()))))
noncomputable def L23_12 (a58:(List Int)) (a59:Int) (a60:Int) (b0_1:(List Bool)) (b0_2:(List Bool)) (b0_3:(List Int)) (b0_4:Int) (b0_5:Int) (b0_6:Int) (b1_0:Int) (b1_1:Int) (b1_2:Int) (b1_3:Int) (b1_4:ByteArray) (b1_5:(List Int)) (b1_6:Nat) (b1_7:Int) (b2_0:(List (ByteArray × DCe))):Option (Unit × (ZFt × (DEv × (ZKt × Unit))) × Unit):=loopF (fun x:((Unit × (Unit × ((List Int) × (Int × (Int × Unit))))) × (ZFt × (DEv × (ZKt × Unit))) × Unit)=>T23_12 x.1.2.2.1 x.1.2.2.2.1 x.1.2.2.2.2.1 x.2.1.1.2.1 x.2.1.1.2.2.1 x.2.1.1.2.2.2.1 x.2.1.1.2.2.2.2.1 x.2.1.1.2.2.2.2.2.1 x.2.1.1.2.2.2.2.2.2.1 x.2.1.2.1.1 x.2.1.2.1.2.1 x.2.1.2.1.2.2.1 x.2.1.2.1.2.2.2.1 x.2.1.2.1.2.2.2.2.1 x.2.1.2.1.2.2.2.2.2.1 x.2.1.2.1.2.2.2.2.2.2.1 x.2.1.2.1.2.2.2.2.2.2.2.1 x.2.1.2.2.1.1) (((),(),a58,a59,a60,()),(((),b0_1,b0_2,b0_3,b0_4,b0_5,b0_6,()),(b1_0,b1_1,b1_2,b1_3,b1_4,b1_5,b1_6,b1_7,()),(b2_0,()),()),())
theorem L23_12_eq (a58:(List Int)) (a59:Int) (a60:Int) (b0_1:(List Bool)) (b0_2:(List Bool)) (b0_3:(List Int)) (b0_4:Int) (b0_5:Int) (b0_6:Int) (b1_0:Int) (b1_1:Int) (b1_2:Int) (b1_3:Int) (b1_4:ByteArray) (b1_5:(List Int)) (b1_6:Nat) (b1_7:Int) (b2_0:(List (ByteArray × DCe))):L23_12 a58 a59 a60 b0_1 b0_2 b0_3 b0_4 b0_5 b0_6 b1_0 b1_1 b1_2 b1_3 b1_4 b1_5 b1_6 b1_7 b2_0=(T23_12 a58 a59 a60 b0_1 b0_2 b0_3 b0_4 b0_5 b0_6 b1_0 b1_1 b1_2 b1_3 b1_4 b1_5 b1_6 b1_7 b2_0).bind (Sum.elim (fun x=>L23_12 x.1.2.2.1 x.1.2.2.2.1 x.1.2.2.2.2.1 x.2.1.1.2.1 x.2.1.1.2.2.1 x.2.1.1.2.2.2.1 x.2.1.1.2.2.2.2.1 x.2.1.1.2.2.2.2.2.1 x.2.1.1.2.2.2.2.2.2.1 x.2.1.2.1.1 x.2.1.2.1.2.1 x.2.1.2.1.2.2.1 x.2.1.2.1.2.2.2.1 x.2.1.2.1.2.2.2.2.1 x.2.1.2.1.2.2.2.2.2.1 x.2.1.2.1.2.2.2.2.2.2.1 x.2.1.2.1.2.2.2.2.2.2.2.1 x.2.1.2.2.1.1) some):=loopF_eq _ _
noncomputable def k23_12:Con:=⟨{ sl := [(0,.p 0 0),(3,.p 1 0),(58,.v (.l (.i .u8))),(59,.v (.i .i64)),(60,.v (.i .i64))],bx := [[.mv 2,.sg 64 .b,.sg 64 .b,.v (.l (.i .u64)),.v (.i .u64),.v (.i .i64),.v (.i .u64)], [.v (.i .i64),.v (.i .u64),.v (.i .u64),.v (.i .u8),.v .s,.v (.l (.i .u8)),.v (.f .f64),.v (.i .i64)], [.ms tDCe]] },(.exit 1 { sl := [],bx := [[.mv 2,.sg 64 .b,.sg 64 .b,.v (.l (.i .u64)),.v (.i .u64),.v (.i .i64),.v (.i .u64)], [.v (.i .i64),.v (.i .u64),.v (.i .u64),.v (.i .u8),.v .s,.v (.l (.i .u8)),.v (.f .f64),.v (.i .i64)], [.ms tDCe]] }),fun x=>L23_12 x.1.2.2.1 x.1.2.2.2.1 x.1.2.2.2.2.1 x.2.1.1.2.1 x.2.1.1.2.2.1 x.2.1.1.2.2.2.1 x.2.1.1.2.2.2.2.1 x.2.1.1.2.2.2.2.2.1 x.2.1.1.2.2.2.2.2.2.1 x.2.1.2.1.1 x.2.1.2.1.2.1 x.2.1.2.1.2.2.1 x.2.1.2.1.2.2.2.1 x.2.1.2.1.2.2.2.2.1 x.2.1.2.1.2.2.2.2.2.1 x.2.1.2.1.2.2.2.2.2.2.1 x.2.1.2.1.2.2.2.2.2.2.2.1 x.2.1.2.2.1.1⟩
theorem k23_12_ok:Con.LOK Try.prog Try.f23.ntmps (lpOf Try.f23 12) k23_12:=lpX [] [] [] (fun x=>T23_12 x.1.2.2.1 x.1.2.2.2.1 x.1.2.2.2.2.1 x.2.1.1.2.1 x.2.1.1.2.2.1 x.2.1.1.2.2.2.1 x.2.1.1.2.2.2.2.1 x.2.1.1.2.2.2.2.2.1 x.2.1.1.2.2.2.2.2.2.1 x.2.1.2.1.1 x.2.1.2.1.2.1 x.2.1.2.1.2.2.1 x.2.1.2.1.2.2.2.1 x.2.1.2.1.2.2.2.2.1 x.2.1.2.1.2.2.2.2.2.1 x.2.1.2.1.2.2.2.2.2.2.1 x.2.1.2.1.2.2.2.2.2.2.2.1 x.2.1.2.2.1.1) trivial trivial
noncomputable def F23 (a1:DEv) (b0_1:(List Bool)) (b0_2:(List Bool)) (b0_3:(List Int)) (b0_4:Int) (b0_5:Int) (b0_6:Int) (b1_0:(List (ByteArray × DCe))):Option ((Int × Unit) × (ZFt × (ZKt × Unit)) × Unit):=
 ((F51 a1).bind fun y0=>(bif ((y0.1.1:Int) != 0) then (some (y0.1,(((),b0_1,b0_2,b0_3,b0_4,b0_5,b0_6,()),(b1_0,()),()),())) else ((F52 a1).bind fun y1=>((F46 y1.1.1 (b0_4,(b0_5,()))).bind fun y2=>(bif (decide ((y2.1.1:Int)≤0)) then (some ((10,()),(((),b0_1,b0_2,b0_3,b0_4,b0_5,b0_6,()),(b1_0,()),()),())) else ((F53 b0_3 a1.1).bind fun y3=>(bif ((a1.2.1:Int) != (IntKind.wrap .u64 (y3.1.1+1))) then (some ((9,()),(((),b0_1,b0_2,b0_3,b0_4,b0_5,b0_6,()),(b1_0,()),()),())) else ((F54 b0_3 a1.1 a1.2.1).bind fun y4=>((F52 a1).bind fun y5=>((F55 a1).bind fun y6=>((L23_12 y6.2.2.1 (((y6.2.2.1).length:Nat):Int) 0 b0_1 b0_2 y4.1.1 y5.1.1.1 y5.1.1.2.1 b0_6 a1.1 a1.2.1 a1.2.2.1 a1.2.2.2.1 a1.2.2.2.2.1 a1.2.2.2.2.2.1 a1.2.2.2.2.2.2.1 a1.2.2.2.2.2.2.2.1 b1_0).bind fun y7=>(bif ((y7.2.1.2.1.2.2.2.1:Int) == 1) then ((F56k y7.2.1.2.1.2.2.2.2.2.1).bind fun y8=>(some ((0,()),(y7.2.1.1,((mput y7.2.1.2.1.2.2.2.2.1 (1,(y8.1.1,(0,()))) y7.2.1.2.2.1.1),()),()),()))) else (bif ((y7.2.1.2.1.2.2.2.1:Int) == 2) then ((F57 y7.2.1.2.1.2.2.2.2.2.2.1).bind fun y9=>(some ((0,()),(y7.2.1.1,((mput y7.2.1.2.1.2.2.2.2.1 (2,(([]:List Int),y9.1)) y7.2.1.2.2.1.1),()),()),()))) else (bif ((y7.2.1.2.1.2.2.2.1:Int) == 3) then ((F57 y7.2.1.2.1.2.2.2.2.2.2.1).bind fun y10=>(bif ((((mfind y7.2.1.2.1.2.2.2.2.1 y7.2.1.2.2.1.1).getD (0,(([]:List Int),(0,())))).1:Int) == 2) then ((F58 (((mfind y7.2.1.2.1.2.2.2.2.1 y7.2.1.2.2.1.1).getD (0,(([]:List Int),(0,())))).2.2.1) y7.2.1.2.1.2.2.2.2.2.2.1).bind fun y11=>(some ((0,()),(y7.2.1.1,((mput y7.2.1.2.1.2.2.2.2.1 (2,(([]:List Int),y11.1)) y7.2.1.2.2.1.1),()),()),()))) else (some ((0,()),(y7.2.1.1,((mput y7.2.1.2.1.2.2.2.2.1 (2,(([]:List Int),y10.1)) y7.2.1.2.2.1.1),()),()),())))) else (bif ((y7.2.1.2.1.2.2.2.1:Int) == 4) then (some ((0,()),(y7.2.1.1,((mdel y7.2.1.2.1.2.2.2.2.1 y7.2.1.2.2.1.1),()),()),())) else (bif ((y7.2.1.2.1.2.2.2.1:Int) == 5) then (bif (decide (0≤(y7.2.1.2.1.2.2.2.2.2.2.2.1:Int)∧(y7.2.1.2.1.2.2.2.2.2.2.2.1:Int)<((64:Nat):Int))) then (bif (decide ((y7.2.1.2.1.2.2.2.2.2.2.2.1:Int).toNat<64)) then (some ((0,()),(((),((y7.2.1.1.2.1).set (y7.2.1.2.1.2.2.2.2.2.2.2.1:Int).toNat true),y7.2.1.1.2.2.1,y7.2.1.1.2.2.2.1,y7.2.1.1.2.2.2.2.1,y7.2.1.1.2.2.2.2.2.1,y7.2.1.1.2.2.2.2.2.2.1,()),y7.2.1.2.2.1,()),())) else none) else none) else (bif ((y7.2.1.2.1.2.2.2.1:Int) == 6) then (bif (decide (0≤(y7.2.1.2.1.1:Int)∧(y7.2.1.2.1.1:Int)<((64:Nat):Int))) then (bif (decide ((y7.2.1.2.1.1:Int).toNat<64)) then (some ((0,()),(((),y7.2.1.1.2.1,((y7.2.1.1.2.2.1).set (y7.2.1.2.1.1:Int).toNat true),y7.2.1.1.2.2.2.1,y7.2.1.1.2.2.2.2.1,y7.2.1.1.2.2.2.2.2.1,y7.2.1.1.2.2.2.2.2.2.1,()),y7.2.1.2.2.1,()),())) else none) else none) else (some ((0,()),(y7.2.1.1,y7.2.1.2.2.1,()),())))))))))))))))))))
noncomputable def c23:Con:=⟨{ sl := [(0,.p 0 0),(1,.v tDEv)],bx := [[.mv 1,.sg 64 .b,.sg 64 .b,.v (.l (.i .u64)),.v (.i .u64),.v (.i .i64),.v (.i .u64)], [.ms tDCe]] },(.ret { sl := [(0,.v (.i .i64))],bx := [[.mv 1,.sg 64 .b,.sg 64 .b,.v (.l (.i .u64)),.v (.i .u64),.v (.i .i64),.v (.i .u64)], [.ms tDCe]] }),fun x=>F23 x.1.2.1 x.2.1.1.2.1 x.2.1.1.2.2.1 x.2.1.1.2.2.2.1 x.2.1.1.2.2.2.2.1 x.2.1.1.2.2.2.2.2.1 x.2.1.1.2.2.2.2.2.2.1 x.2.1.2.1.1⟩
theorem c23_ok:Con.OK Try.prog 23 c23:=fnL [(46,c46),(51,c51),(52,c52),(53,c53),(54,c54),(55,c55),(56,c56k),(57,c57),(58,c58)] [(12,k23_12)] [12] ⟨c46_ok,c51_ok,c52_ok,c53_ok,c54_ok,c55_ok,c56k_ok,c57_ok,c58_ok,trivial⟩ ⟨k23_12_ok,trivial⟩ Try.func23
noncomputable def F27 (a1:ByteArray) (b0_1:(List Bool)) (b0_2:(List Bool)) (b0_3:(List Int)) (b0_4:Int) (b0_5:Int) (b0_6:Int) (b1_0:(List (ByteArray × DCe))):Option ((DCe × (Bool × Unit)) × (ZFt × (ZKt × Unit)) × Unit):=
 ((F56k (((mfind a1 b1_0).getD (0,(([]:List Int),(0,())))).2.1)).bind fun y0=>(some (((((mfind a1 b1_0).getD (0,(([]:List Int),(0,())))).1,(y0.1.1,((mfind a1 b1_0).getD (0,(([]:List Int),(0,())))).2.2)),(mfind a1 b1_0).isSome,()),(((),b0_1,b0_2,b0_3,b0_4,b0_5,b0_6,()),(b1_0,()),()),())))
noncomputable def c27:Con:=⟨{ sl := [(0,.p 0 0),(1,.v .s)],bx := [[.mv 1,.sg 64 .b,.sg 64 .b,.v (.l (.i .u64)),.v (.i .u64),.v (.i .i64),.v (.i .u64)], [.ms tDCe]] },(.ret { sl := [(0,.v tDCe),(1,.v .b)],bx := [[.mv 1,.sg 64 .b,.sg 64 .b,.v (.l (.i .u64)),.v (.i .u64),.v (.i .i64),.v (.i .u64)], [.ms tDCe]] }),fun x=>F27 x.1.2.1 x.2.1.1.2.1 x.2.1.1.2.2.1 x.2.1.1.2.2.2.1 x.2.1.1.2.2.2.2.1 x.2.1.1.2.2.2.2.2.1 x.2.1.1.2.2.2.2.2.2.1 x.2.1.2.1.1⟩
theorem c27_ok:Con.OK Try.prog 27 c27:=fnX [(56,c56k)] ⟨c56k_ok,trivial⟩ Try.func27
end Go.IM.V
namespace Go.IM.V
open Go Go.IM Go.Proofs
abbrev Ev:Type:=DEv
def upT (t x:Int):Int:=IntKind.wrap .u64 (t+(IntKind.wrap .u64 (1+(((IntKind.wrap .u64 (IntKind.wrap .u16 (x.tdiv 16))):Int).tmod 4))))
def kdX (x:Int):Int:=IntKind.wrap .u8 (1+(((IntKind.wrap .u8 (IntKind.wrap .u16 (x.tdiv 64))):Int).tmod 4))
def kyX (x:Int):Int:=IntKind.wrap .u8 (97+(((IntKind.wrap .u8 (IntKind.wrap .u16 (x.tdiv 256))):Int).tmod 4))
noncomputable def qtI (i:Int):Nat:=((FloatKind.f64).format.div (FloatKind.nearest .f64 i) (4616189618054758400)).getD 0
noncomputable def evX (w:Int) (n:Nat) (t x i:Int):Ev:=
 (w,(IntKind.wrap .u64 ((IntKind.wrap .u64 ((n:Nat):Int))+1)),t,kdX x,strL [kyX x],(bif kdX x == 1 then [IntKind.wrap .u8 i] else []),(bif kdX x == 2 then qtI i else bif kdX x == 3 then qtI i else 0),0,())
theorem qt_some : ∀i:Fin 60,((FloatKind.f64).format.div (FloatKind.nearest .f64 ((i.val:Nat):Int)) (4616189618054758400)).isSome=true:=by decide +kernel
theorem qt_some' {i:Int} (h0:0≤i) (h:i<60):((FloatKind.f64).format.div (FloatKind.nearest .f64 i) (4616189618054758400)).isSome=true:=by
 have:=qt_some ⟨i.toNat,by omega⟩
 rwa [show ((i.toNat:Nat):Int)=i by omega] at this
theorem lim2 {q:List Ev} (h:q.length<1000000):q.length+1<lim:=by have:lim=1099511627776:=rfl; omega
theorem condT {α:Type} {p:Prop} [i:Decidable p] {a b r:α} (hp:p) (h:a=r):(bif decide p then a else b)=r:=by rw [decide_eq_true hp]; exact h
theorem wu16 {n:Int} (h0:0≤n) (h1:n<65536):IntKind.wrap .u16 n=n:=by
 have:IntKind.wrap .u16 n=n % 65536:=by simp [IntKind.wrap,IntKind.bits,IntKind.signed]
 rw [this]; omega
def EvF (e:Ev):Prop:=(1≤e.2.2.2.1∧e.2.2.2.1≤4)∧(∃c,97≤c∧c≤100∧e.2.2.2.2.1=strL [c])∧(e.2.2.2.2.2.1 = []∨(e.2.2.2.1=1 ∧ ∃c,0≤c∧c<256∧e.2.2.2.2.2.1 = [c]))∧(e.2.2.2.2.2.2.1=0∨((e.2.2.2.1=2∨e.2.2.2.1=3) ∧ ∃i:Int,0≤i∧i<60∧e.2.2.2.2.2.2.1=qtI i))∧e.2.2.2.2.2.2.2.1=0
structure FdOK (w:Int) (k:Nat) (q:List Ev) (t:Int):Prop where
 len:q.length≤k
 t0:0≤t
 t1:t≤4*k
 who : ∀(i:Nat) (e:Ev),q[i]? = some e→e.1=w∧e.2.1=(i:Int)+1∧1≤e.2.2.1∧e.2.2.1≤t∧EvF e
 rise : ∀(i j:Nat) (ei ej:Ev),q[i]? = some ei→q[j]? = some ej→i<j→ei.2.2.1<ej.2.2.1
theorem FdOK.keep {w:Int} {k:Nat} {q:List Ev} {t:Int} (h:FdOK w k q t):FdOK w (k+1) q t:=
 ⟨Nat.le_succ_of_le h.len,h.t0,by have:=h.t1; omega,h.who,h.rise⟩
theorem FdOK.upto {w:Int} {k k':Nat} {q:List Ev} {t:Int} (h:FdOK w k q t) (hk:k≤k'):FdOK w k' q t:=
 ⟨Nat.le_trans h.len hk,h.t0,by have:=h.t1; omega,h.who,h.rise⟩
theorem FdOK.nil (w:Int):FdOK w 0 [] 0:=⟨Nat.le_refl _,by omega,by omega,fun i e h=>(by cases h),fun i j e f h=>(by cases h)⟩
theorem upT_eq {t x:Int} (ht:0≤t∧t≤1000000) (hx:0≤x∧x<65536):upT t x=t+(1+x / 16 % 4):=by
 unfold upT; have h0:0≤x / 16:=Int.ediv_nonneg hx.1 (by omega); have h1:x / 16<65536:=by omega
 rw [Int.tdiv_eq_ediv_of_nonneg hx.1,wu16 h0 (by omega),wu64 h0 (by omega),Int.tmod_eq_emod_of_nonneg h0]; have h2:=Int.emod_nonneg (x / 16) (show (4:Int)≠0 by omega); have h3:=Int.emod_lt_of_pos (x / 16) (show (0:Int)<4 by omega); rw [wu64 (n:=1+x / 16 % 4) (by omega) (by omega),wu64 (by omega) (by omega)]
theorem kdX_eq {x:Int} (hx:0≤x∧x<65536):kdX x=1+x / 64 % 4:=by
 unfold kdX; have h0:0≤x / 64:=Int.ediv_nonneg hx.1 (by omega); rw [Int.tdiv_eq_ediv_of_nonneg hx.1,wu16 h0 (by omega)]; rw [wu8_mod (x / 64),Int.tmod_eq_emod_of_nonneg (by omega)]; rw [wu8_mod]; omega
theorem kyX_eq {x:Int} (hx:0≤x∧x<65536):kyX x=97+x / 256 % 4:=by
 unfold kyX; have h0:0≤x / 256:=Int.ediv_nonneg hx.1 (by omega); rw [Int.tdiv_eq_ediv_of_nonneg hx.1,wu16 h0 (by omega)]; rw [wu8_mod (x / 256),Int.tmod_eq_emod_of_nonneg (by omega)]; rw [wu8_mod]; omega
theorem evX_form {w t x i:Int} {n:Nat} (hx:0≤x∧x<65536) (hi:0≤i∧i<60):EvF (evX w n t x i):=by
 have hk:=kdX_eq hx; have hy:=kyX_eq hx; unfold evX EvF; dsimp only; refine ⟨by omega,⟨kyX x,by omega,by omega,rfl⟩, ?_, ?_,rfl⟩
 ·cases h1:kdX x == 1 with
  | false=>exact .inl rfl
  | true=>exact .inr ⟨by simpa using h1,IntKind.wrap .u8 i,by rw [wu8_mod]; omega,by rw [wu8_mod]; omega,rfl⟩
 ·cases h2:kdX x == 2 with
  | true=>exact .inr ⟨.inl (by simpa using h2),i,hi.1,hi.2,rfl⟩
  | false=>
   cases h3:kdX x == 3 with
   | true=>exact .inr ⟨.inr (by simpa using h3),i,hi.1,hi.2,rfl⟩
   | false=>exact .inl rfl
theorem app1 {α:Type} {q:List α} {x e:α} {i:Nat} (h:(q ++ [x])[i]? = some e):q[i]? = some e∨(i=q.length∧e=x):=by
 rcases Nat.lt_or_ge i q.length with hl | hl
 ·rw [List.getElem?_append_left hl] at h; exact .inl h
 ·rw [List.getElem?_append_right hl] at h; rcases Nat.eq_zero_or_pos (i - q.length) with h0 | h0
  ·rw [h0] at h; simp at h; exact .inr ⟨by omega,h.symm⟩
  ·rw [List.getElem?_eq_none (by simp; omega)] at h; cases h
theorem lt_get? {α:Type} {q:List α} {e:α} {i:Nat} (h:q[i]? = some e):i<q.length:=(List.getElem?_eq_some_iff.1 h).1
theorem FdOK.add {w : Int} {k : Nat} {q : List Ev} {t x i : Int} (h : FdOK w k q t) (hx : 0 ≤ x ∧ x < 65536) (hk : k < 60) (hi : 0 ≤ i ∧ i < 60) : FdOK w (k + 1) (q ++ [evX w q.length (upT t x) x i]) (upT t x) := by
 have ht:=upT_eq ⟨h.t0,by have:=h.t1; omega⟩ hx
 have h2:=Int.emod_nonneg (x / 16) (show (4:Int)≠0 by omega); have h3:=Int.emod_lt_of_pos (x / 16) (show (0:Int)<4 by omega); have hl:=h.len; have h0:=h.t0; refine ⟨by simp; omega,by omega,by have:=h.t1; omega,fun j e hj => ?_,fun j j' e e' hj hj' hlt => ?_⟩
 ·rcases app1 hj with hj|⟨rfl,rfl⟩
  ·obtain ⟨a,b,c,d,f⟩:=h.who j e hj; exact ⟨a,b,c,by omega,f⟩
  ·refine ⟨rfl, ?_,by show 1≤upT t x; omega,Int.le_refl _,evX_form hx hi⟩
   show IntKind.wrap .u64 (IntKind.wrap .u64 (q.length:Int)+1)=_; rw [wu64 (n:=(q.length:Int)) (by omega) (by omega),wu64 (by omega) (by omega)]
 ·rcases app1 hj with hj|⟨rfl,rfl⟩
  ·rcases app1 hj' with hj' | ⟨rfl,rfl⟩
   ·exact h.rise j j' e e' hj hj' hlt
   ·have:=(h.who j e hj).2.2.2.1
    show _<upT t x; omega
  ·rcases app1 hj' with hj' | ⟨rfl,rfl⟩
   ·have:=lt_get? hj'; omega
   ·omega
theorem gset {b:List Int} {i j:Nat} {v:Int} (h:i≠j):(b.set i v).getD j 0=b.getD j 0:=by
 rw [List.getD_eq_getElem?_getD,List.getElem?_set_ne h,←List.getD_eq_getElem?_getD]
theorem gset_same {b:List Int} {i:Nat} {v:Int} (h:i<b.length):(b.set i v).getD i 0=v:=by
 rw [List.getD_eq_getElem?_getD,List.getElem?_set_self h]; rfl
def U16s (l:List Int):Prop := ∀x∈l,0≤x∧x<65536
theorem U16s.get {l:List Int} (h:U16s l) (k:Nat):0≤l.getD k 0∧l.getD k 0<65536:=by
 rw [List.getD_eq_getElem?_getD]; rcases Nat.lt_or_ge k l.length with hk | hk
 ·rw [List.getElem?_eq_getElem hk]; exact h _ (List.getElem_mem hk)
 ·rw [List.getElem?_eq_none hk]; simp
theorem T10f_4_s0 (a0:List Int) (k:Int) (b:List Int) (q0 q1 q2:List Ev) (hk:0≤k∧k<a0.length) (h60:k<60) (hb:b.length=3) (hq:q0.length<1000000) (hw:(IntKind.wrap .i64 (a0.getD k.toNat 0)).tmod 3=0) :
  T10f_4 a0 3 k b q0 q1 q2=some (.inl ((a0,3,(),(),IntKind.wrap .i64 (k+1),()),(((),(),(),()),(b.set 0 (upT (b.getD 0 0) (a0.getD k.toNat 0)),()),()),((q0 ++ [evX 0 q0.length ((b.set 0 (upT (b.getD 0 0) (a0.getD k.toNat 0))).getD 0 0) (a0.getD k.toNat 0) k]),q1,q2,()))):=by
 have c1:decide (k<(a0.length:Int))=true:=decide_eq_true hk.2; have c2:decide (k<60)=true:=decide_eq_true h60; have c3:decide (0≤k∧k<(a0.length:Int))=true:=decide_eq_true hk; have c4:decide ((3:Int)≠0)=true:=rfl; have w0:decide (((((IntKind.wrap .i64 ((a0).getD (k:Int).toNat (0:Int))):Int).tmod 3):Int)=0)=true:=by rw [hw]; rfl
 have c5:decide (0≤(0:Int)∧(0:Int)<((b.length:Nat):Int))=true:=decide_eq_true (by omega); have c6:decide ((0:Int).toNat<b.length)=true:=decide_eq_true (by rw [hb]; decide)
 have c7 : ∀v,decide (0≤(0:Int)∧(0:Int)<(((b.set (0:Int).toNat v).length:Nat):Int))=true:=fun v=>decide_eq_true (by rw [List.length_set]; omega)
 have c8 : ∀v,decide ((0:Int).toNat<(b.set (0:Int).toNat v).length)=true:=fun v=>decide_eq_true (by rw [List.length_set,hb]; decide)
 have c9:=qt_some' hk.1 h60; unfold T10f_4
 try delta uT10f_4_16
 try delta uT10f_4_15
 try delta uT10f_4_14
 try delta uT10f_4_13
 try delta uT10f_4_12
 try delta uT10f_4_11
 try delta uT10f_4_10
 try delta uT10f_4_9
 try delta uT10f_4_8
 try delta uT10f_4_7
 try delta uT10f_4_6
 try delta uT10f_4_5
 try delta uT10f_4_4
 try delta uT10f_4_3
 try delta uT10f_4_2
 try delta uT10f_4_1
 try delta uT10f_4_0
 simp only [c1,c2,c3,c4,w0,c5,c6,c7,c8,c9,cond_true,cond_false]; unfold evX; unfold kdX; generalize hkd:(IntKind.wrap .u8 (1+(((IntKind.wrap .u8 (IntKind.wrap .u16 ((a0.getD k.toNat 0).tdiv 64))):Int).tmod 4)))=kd; cases h1:kd == 1 <;> cases h2:kd == 2 <;> cases h3:kd == 3 <;> exact condT (lim2 hq) rfl
theorem T10f_4_s1 (a0:List Int) (k:Int) (b:List Int) (q0 q1 q2:List Ev) (hk:0≤k∧k<a0.length) (h60:k<60) (hb:b.length=3) (hq:q1.length<1000000) (hw:(IntKind.wrap .i64 (a0.getD k.toNat 0)).tmod 3=1) :
  T10f_4 a0 3 k b q0 q1 q2=some (.inl ((a0,3,(),(),IntKind.wrap .i64 (k+1),()),(((),(),(),()),(b.set 1 (upT (b.getD 1 0) (a0.getD k.toNat 0)),()),()),(q0,(q1 ++ [evX 1 q1.length ((b.set 1 (upT (b.getD 1 0) (a0.getD k.toNat 0))).getD 1 0) (a0.getD k.toNat 0) k]),q2,()))):=by
 have c1:decide (k<(a0.length:Int))=true:=decide_eq_true hk.2; have c2:decide (k<60)=true:=decide_eq_true h60; have c3:decide (0≤k∧k<(a0.length:Int))=true:=decide_eq_true hk; have c4:decide ((3:Int)≠0)=true:=rfl; have w0:decide (((((IntKind.wrap .i64 ((a0).getD (k:Int).toNat (0:Int))):Int).tmod 3):Int)=0)=false:=by rw [hw]; rfl
 have w1:decide (((((IntKind.wrap .i64 ((a0).getD (k:Int).toNat (0:Int))):Int).tmod 3):Int)=1)=true:=by rw [hw]; rfl
 have c5:decide (0≤(1:Int)∧(1:Int)<((b.length:Nat):Int))=true:=decide_eq_true (by omega); have c6:decide ((1:Int).toNat<b.length)=true:=decide_eq_true (by rw [hb]; decide)
 have c7 : ∀v,decide (0≤(1:Int)∧(1:Int)<(((b.set (1:Int).toNat v).length:Nat):Int))=true:=fun v=>decide_eq_true (by rw [List.length_set]; omega)
 have c8 : ∀v,decide ((1:Int).toNat<(b.set (1:Int).toNat v).length)=true:=fun v=>decide_eq_true (by rw [List.length_set,hb]; decide)
 have c9:=qt_some' hk.1 h60; unfold T10f_4
 try delta uT10f_4_16
 try delta uT10f_4_15
 try delta uT10f_4_14
 try delta uT10f_4_13
 try delta uT10f_4_12
 try delta uT10f_4_11
 try delta uT10f_4_10
 try delta uT10f_4_9
 try delta uT10f_4_8
 try delta uT10f_4_7
 try delta uT10f_4_6
 try delta uT10f_4_5
 try delta uT10f_4_4
 try delta uT10f_4_3
 try delta uT10f_4_2
 try delta uT10f_4_1
 try delta uT10f_4_0
 simp only [c1,c2,c3,c4,w0,w1,c5,c6,c7,c8,c9,cond_true,cond_false]; unfold evX; unfold kdX; generalize hkd:(IntKind.wrap .u8 (1+(((IntKind.wrap .u8 (IntKind.wrap .u16 ((a0.getD k.toNat 0).tdiv 64))):Int).tmod 4)))=kd; cases h1:kd == 1 <;> cases h2:kd == 2 <;> cases h3:kd == 3 <;> exact condT (lim2 hq) rfl
theorem T10f_4_s2 (a0:List Int) (k:Int) (b:List Int) (q0 q1 q2:List Ev) (hk:0≤k∧k<a0.length) (h60:k<60) (hb:b.length=3) (hq:q2.length<1000000) (hw:(IntKind.wrap .i64 (a0.getD k.toNat 0)).tmod 3=2) :
  T10f_4 a0 3 k b q0 q1 q2=some (.inl ((a0,3,(),(),IntKind.wrap .i64 (k+1),()),(((),(),(),()),(b.set 2 (upT (b.getD 2 0) (a0.getD k.toNat 0)),()),()),(q0,q1,(q2 ++ [evX 2 q2.length ((b.set 2 (upT (b.getD 2 0) (a0.getD k.toNat 0))).getD 2 0) (a0.getD k.toNat 0) k]),()))):=by
 have c1:decide (k<(a0.length:Int))=true:=decide_eq_true hk.2; have c2:decide (k<60)=true:=decide_eq_true h60; have c3:decide (0≤k∧k<(a0.length:Int))=true:=decide_eq_true hk; have c4:decide ((3:Int)≠0)=true:=rfl; have w0:decide (((((IntKind.wrap .i64 ((a0).getD (k:Int).toNat (0:Int))):Int).tmod 3):Int)=0)=false:=by rw [hw]; rfl
 have w1:decide (((((IntKind.wrap .i64 ((a0).getD (k:Int).toNat (0:Int))):Int).tmod 3):Int)=1)=false:=by rw [hw]; rfl
 have w2:decide (((((IntKind.wrap .i64 ((a0).getD (k:Int).toNat (0:Int))):Int).tmod 3):Int)=2)=true:=by rw [hw]; rfl
 have c5:decide (0≤(2:Int)∧(2:Int)<((b.length:Nat):Int))=true:=decide_eq_true (by omega); have c6:decide ((2:Int).toNat<b.length)=true:=decide_eq_true (by rw [hb]; decide)
 have c7 : ∀v,decide (0≤(2:Int)∧(2:Int)<(((b.set (2:Int).toNat v).length:Nat):Int))=true:=fun v=>decide_eq_true (by rw [List.length_set]; omega)
 have c8 : ∀v,decide ((2:Int).toNat<(b.set (2:Int).toNat v).length)=true:=fun v=>decide_eq_true (by rw [List.length_set,hb]; decide)
 have c9:=qt_some' hk.1 h60; unfold T10f_4
 try delta uT10f_4_16
 try delta uT10f_4_15
 try delta uT10f_4_14
 try delta uT10f_4_13
 try delta uT10f_4_12
 try delta uT10f_4_11
 try delta uT10f_4_10
 try delta uT10f_4_9
 try delta uT10f_4_8
 try delta uT10f_4_7
 try delta uT10f_4_6
 try delta uT10f_4_5
 try delta uT10f_4_4
 try delta uT10f_4_3
 try delta uT10f_4_2
 try delta uT10f_4_1
 try delta uT10f_4_0
 simp only [c1,c2,c3,c4,w0,w1,w2,c5,c6,c7,c8,c9,cond_true,cond_false]; unfold evX; unfold kdX; generalize hkd:(IntKind.wrap .u8 (1+(((IntKind.wrap .u8 (IntKind.wrap .u16 ((a0.getD k.toNat 0).tdiv 64))):Int).tmod 4)))=kd; cases h1:kd == 1 <;> cases h2:kd == 2 <;> cases h3:kd == 3 <;> exact condT (lim2 hq) rfl
theorem L10f_4_run (a0:List Int) (ha:U16s a0) : ∀(d k:Nat) (b:List Int) (q0 q1 q2:List Ev),k+d=min a0.length 60→b.length=3→FdOK 0 k q0 (b.getD 0 0)→FdOK 1 k q1 (b.getD 1 0)→FdOK 2 k q2 (b.getD 2 0) →
  ∃(b':List Int) (q0' q1' q2':List Ev),L10f_4 a0 3 (k:Nat) b q0 q1 q2=some ((),(((),(),(),()),(b',()),()),(q0',q1',q2',()))∧b'.length=3∧FdOK 0 60 q0' (b'.getD 0 0)∧FdOK 1 60 q1' (b'.getD 1 0)∧FdOK 2 60 q2' (b'.getD 2 0):=by
 intro d; induction d with
 | zero=>
  intro k b q0 q1 q2 hk hb f0 f1 f2; rw [L10f_4_eq]; refine ⟨b,q0,q1,q2, ?_,hb,f0.upto (by omega),f1.upto (by omega),f2.upto (by omega)⟩; unfold T10f_4; by_cases h:(k:Int)<(a0.length:Int)
  ·rw [decide_eq_true h,show decide ((k:Int)<60)=false from decide_eq_false (by omega)]; rfl
  ·rw [decide_eq_false h]; rfl
 | succ d ih=>
  intro k b q0 q1 q2 hk hb f0 f1 f2; rw [L10f_4_eq]; have hx:=ha.get k; have hw':(IntKind.wrap .i64 (a0.getD ((k:Nat):Int).toNat 0)).tmod 3=a0.getD k 0 % 3:=by
   rw [Int.toNat_natCast,w64 (by omega) (by omega),Int.tmod_eq_emod_of_nonneg hx.1]
  have hor:a0.getD k 0 % 3=0∨a0.getD k 0 % 3=1∨a0.getD k 0 % 3=2:=by omega
  rcases hor with h0 | h1 | h2
  ·have hs:=T10f_4_s0 a0 (k:Nat) b q0 q1 q2 ⟨by omega,by omega⟩ (by omega) hb (by have:=f0.len; omega) (by rw [hw',h0])
   rw [hs]; simp only [Option.bind_some,Sum.elim_inl]; rw [gset_same (by omega),show IntKind.wrap .i64 ((k:Nat)+1:Int)=((k+1:Nat):Int) by rw [w64 (by omega) (by omega)]; rfl,Int.toNat_natCast]
   exact ih (k+1) _ _ _ _ (by omega) (by rw [List.length_set]; exact hb) (by rw [gset_same (by omega)]; exact f0.add hx (by omega) ⟨by omega,by omega⟩) (by rw [gset (by decide)]; exact f1.keep) (by rw [gset (by decide)]; exact f2.keep)
  ·have hs:=T10f_4_s1 a0 (k:Nat) b q0 q1 q2 ⟨by omega,by omega⟩ (by omega) hb (by have:=f1.len; omega) (by rw [hw',h1])
   rw [hs]; simp only [Option.bind_some,Sum.elim_inl]; rw [gset_same (by omega),show IntKind.wrap .i64 ((k:Nat)+1:Int)=((k+1:Nat):Int) by rw [w64 (by omega) (by omega)]; rfl,Int.toNat_natCast]
   exact ih (k+1) _ _ _ _ (by omega) (by rw [List.length_set]; exact hb) (by rw [gset (by decide)]; exact f0.keep) (by rw [gset_same (by omega)]; exact f1.add hx (by omega) ⟨by omega,by omega⟩) (by rw [gset (by decide)]; exact f2.keep)
  ·have hs:=T10f_4_s2 a0 (k:Nat) b q0 q1 q2 ⟨by omega,by omega⟩ (by omega) hb (by have:=f2.len; omega) (by rw [hw',h2])
   rw [hs]; simp only [Option.bind_some,Sum.elim_inl]; rw [gset_same (by omega),show IntKind.wrap .i64 ((k:Nat)+1:Int)=((k+1:Nat):Int) by rw [w64 (by omega) (by omega)]; rfl,Int.toNat_natCast]
   exact ih (k+1) _ _ _ _ (by omega) (by rw [List.length_set]; exact hb) (by rw [gset (by decide)]; exact f0.keep) (by rw [gset (by decide)]; exact f1.keep) (by rw [gset_same (by omega)]; exact f2.add hx (by omega) ⟨by omega,by omega⟩)
theorem F10t_feeds (a0:List Int) (ha:U16s a0) : ∃(b':List Int) (q0' q1' q2':List Ev),F10t a0=some (([q0',q1',q2'],()),(),())∧FdOK 0 60 q0' (b'.getD 0 0)∧FdOK 1 60 q1' (b'.getD 1 0)∧FdOK 2 60 q2' (b'.getD 2 0):=by
 obtain ⟨b',q0',q1',q2',h,_,hh⟩:=L10f_4_run a0 ha (min a0.length 60) 0 (List.replicate 3 0) [] [] [] (by omega) (by simp) (FdOK.nil _) (FdOK.nil _) (FdOK.nil _); refine ⟨b',q0',q1',q2', ?_,hh⟩; unfold F10t F10f; have h':L10f_4 a0 3 0 (List.replicate (3:Int).toNat 0) [] [] []=_:=h
 rw [h']; rfl
end Go.IM.V
namespace Go.IM.V
open Go Go.IM Go.Proofs
abbrev LL:Type:=List (List DEv)
abbrev dv0:DEv:=((0:Int),((0:Int),((0:Int),((0:Int),(ByteArray.empty,([],((0:Nat),((0:Int),()))))))))
abbrev Pl:Type:=Int × (Int × Unit)
def pl (e:DEv):Pl:=(e.2.2.1,(e.1,()))
def kl (a b:Pl):Bool:=decide (a.1<b.1) || (a.1 == b.1 && decide (a.2.1<b.2.1))
theorem kl_iff {a b:Pl}:kl a b=true↔a.1<b.1∨(a.1=b.1∧a.2.1<b.2.1):=by simp [kl]
theorem kl_not {a b:Pl}:kl a b=false↔b.1<a.1∨(a.1=b.1∧b.2.1≤a.2.1):=by
 rw [←Bool.not_eq_true,kl_iff]; omega
def hp (xs:LL) (k:Nat):Pl:=pl ((xs.getD k []).getD 0 dv0)
theorem F52_eq (e:DEv):F52 e=some ((((pl e).1,((pl e).2.1,())),()),(),()):=rfl
theorem F12_eq (e:DEv):F12 e=some (((pl e),()),(),()):=rfl
theorem bneSelf (a:Int):((a:Int) != a)=false:=by simp
theorem F87_eq (a b:Int):F87 a b=some (((if a<b then -1 else if a > b then 1 else 0),()),(),()):=by
 unfold F87 F111; simp only [bneSelf,Option.bind_some,cond_false,cif]; split
 ·rfl
 ·split <;> rfl
theorem F88_eq (a b:Int):F88 a b=some (((if a<b then -1 else if a > b then 1 else 0),()),(),()):=by
 unfold F88 F112; simp only [bneSelf,Option.bind_some,cond_false,cif]; split
 ·rfl
 ·split <;> rfl
theorem F86_eq (a b:Int):F86 [a,b]=some (((if a≠0 then a else b),()),(),()):=by
 unfold F86; rw [L86_3_eq]; unfold T86_3; rw [show decide ((0:Int)<((([a,b]:List Int).length:Nat):Int))=true from rfl,show decide (0≤(0:Int)∧(0:Int)<((([a,b]:List Int).length:Nat):Int))=true from rfl]; simp only [cond_true,show (([a,b]:List Int).getD (0:Int).toNat 0)=a from rfl]; by_cases h:a=0
 ·subst h; simp only [show ((0:Int) != 0)=false from rfl,cond_false,Option.bind_some,Sum.elim_inl,show IntKind.wrap .i64 (0+1)=1 from rfl]; rw [L86_3_eq]; unfold T86_3; rw [show decide ((1:Int)<((([0,b]:List Int).length:Nat):Int))=true from rfl,show decide (0≤(1:Int)∧(1:Int)<((([0,b]:List Int).length:Nat):Int))=true from rfl]; simp only [cond_true,show (([0,b]:List Int).getD (1:Int).toNat 0)=b from rfl]
  by_cases h2:b=0
  ·subst h2; simp only [show ((0:Int) != 0)=false from rfl,cond_false,Option.bind_some,Sum.elim_inl,show IntKind.wrap .i64 (1+1)=2 from rfl]; rw [L86_3_eq]; unfold T86_3; rw [show decide ((2:Int)<((([0,0]:List Int).length:Nat):Int))=false from rfl]; rfl
  ·rw [show (b != 0)=true from bne_iff_ne.2 h2]; rfl
 ·rw [show (a != 0)=true from bne_iff_ne.2 h]; simp only [cond_true,Option.bind_some,Sum.elim_inr,Sum.elim_inl]; rw [if_pos h]
def cmpI (a b:Pl):Int:=if kl a b then -1 else if kl b a then 1 else 0
theorem F46_eq (a b:Pl):F46 a b=some ((cmpI a b,()),(),()):=by
 unfold F46; rw [F87_eq,F88_eq]; simp only [Option.bind_some]; rw [F86_eq]; simp only [Option.bind_some]; have:(if (if a.1<b.1 then (-1:Int) else if a.1 > b.1 then 1 else 0)≠0 then (if a.1<b.1 then (-1:Int) else if a.1 > b.1 then 1 else 0) else (if a.2.1<b.2.1 then (-1:Int) else if a.2.1 > b.2.1 then 1 else 0))=cmpI a b:=by
  unfold cmpI; simp only [kl_iff]
  repeat' split
  all_goals omega
 rw [this]
theorem cmp_lt (a b:Pl):decide (cmpI a b<0)=kl a b:=by
 unfold cmpI; cases h:kl a b
 ·simp only [Bool.false_eq_true,if_false]; split <;> rfl
 ·rfl
theorem kl_asym {a b:Pl} (h:kl a b=true):kl b a=false:=by rw [kl_iff] at h; rw [kl_not]; omega
theorem cmp_le (a b:Pl):decide (cmpI a b≤0) = !kl b a:=by
 unfold cmpI; cases h:kl a b
 ·simp only [Bool.false_eq_true,if_false]; cases h2:kl b a <;> rfl
 ·rw [kl_asym h]; rfl
theorem F14_eq (a b:Pl):F14 a b=some ((kl a b,()),(),()):=by
 unfold F14 kl; rw [cif]; by_cases h:a.1<b.1
 ·simp [h]
 ·simp only [h,if_false,decide_false,Bool.false_or]; cases h2:a.1 == b.1 <;> simp
theorem F159_eq (n:Nat) (i j:Nat) (xs:LL) (hi:i<n) (hj:j<n) (hn:n≤xs.length) (hne : ∀k,k<n→xs.getD k [] ≠ []) :
  F159 (n:Nat) (i:Nat) (j:Nat) xs=some ((kl (hp xs i) (hp xs j),()),((xs,()),()),()):=by
 have li:=List.length_pos_iff.2 (hne i hi); have lj:=List.length_pos_iff.2 (hne j hj); unfold F159; have z : ∀k:Nat,(((0:Nat):Int)+(k:Int)).toNat=k:=fun k=>by omega
 simp only [z,Int.toNat_natCast]; rw [decide_eq_true (show 0≤(i:Int)∧(i:Int)<(n:Int) by omega),decide_eq_true (show i<xs.length by omega),decide_eq_true (show 0≤(0:Int)∧(0:Int)<(((xs.getD i []).length:Nat):Int) by omega)]; rw [decide_eq_true (show 0≤(j:Int)∧(j:Int)<(n:Int) by omega),decide_eq_true (show j<xs.length by omega),decide_eq_true (show 0≤(0:Int)∧(0:Int)<(((xs.getD j []).length:Nat):Int) by omega)]
 simp only [cond_true,F52_eq,Option.bind_some]; rw [F46_eq]; simp only [Option.bind_some]; rw [cmp_lt]; rfl
def sw (i j:Nat) (xs:LL):LL:=(xs.set i (xs.getD j [])).set j (xs.getD i [])
theorem F160_eq (n:Nat) (i j:Nat) (xs:LL) (hi:i<n) (hj:j<n) (hn:n≤xs.length) :
  F160 (n:Nat) (i:Nat) (j:Nat) xs=some ((),((sw i j xs,()),()),()):=by
 unfold F160; have z : ∀k:Nat,(((0:Nat):Int)+(k:Int)).toNat=k:=fun k=>by omega
 simp only [z,Int.toNat_natCast]; rw [decide_eq_true (show 0≤(i:Int)∧(i:Int)<(n:Int) by omega),decide_eq_true (show i<xs.length by omega)]; rw [decide_eq_true (show 0≤(j:Int)∧(j:Int)<(n:Int) by omega),decide_eq_true (show j<xs.length by omega),decide_eq_true (show j<(xs.set i (xs.getD j [])).length by rw [List.length_set]; omega)]
 rfl
theorem sw_len (i j:Nat) (xs:LL):(sw i j xs).length=xs.length:=by simp [sw]
theorem setD {α:Type} {xs:List α} {n k:Nat} {r d:α} (h:n<xs.length):(xs.set n r).getD k d=if k=n then r else xs.getD k d:=by
 rw [List.getD_eq_getElem?_getD,List.getElem?_set]; by_cases e:n=k
 ·subst e; simp [h]
 ·rw [if_neg e,if_neg (Ne.symm e),←List.getD_eq_getElem?_getD]
theorem sw_get {i j:Nat} {xs:LL} (hi:i<xs.length) (hj:j<xs.length) (k:Nat) :
  (sw i j xs).getD k []=if k=j then xs.getD i [] else if k=i then xs.getD j [] else xs.getD k []:=by
 unfold sw; rw [setD (by rw [List.length_set]; exact hj),setD hi]
theorem getD_get {α:Type} {xs:List α} {k:Nat} (h:k<xs.length) (d:α):xs.getD k d=xs[k]:=by
 rw [List.getD_eq_getElem?_getD,List.getElem?_eq_getElem h]; rfl
theorem sw_perm {i j:Nat} {xs:LL} (hi:i<xs.length) (hj:j<xs.length):(sw i j xs).Perm xs:=by
 have h:=Array.swap_perm (xs:=xs.toArray) (i:=i) (j:=j) hi hj; rw [Array.perm_iff_toList_perm] at h; have e:(xs.toArray.swap i j hi hj).toList=sw i j xs:=by
  unfold sw; rw [getD_get hi,getD_get hj]; simp [Array.swap_def]
 rw [e] at h; simpa using h
theorem sw_take {n i j:Nat} {xs:LL} (hi:i<n) (hj:j<n) (hn:n≤xs.length):((sw i j xs).take n).Perm (xs.take n):=by
 have e:(sw i j xs).take n=sw i j (xs.take n):=by
  unfold sw; rw [List.take_set,List.take_set]; have g : ∀k,k<n→(xs.take n).getD k []=xs.getD k []:=fun k hk=>by
   rw [List.getD_eq_getElem?_getD,List.getElem?_take_of_lt hk,←List.getD_eq_getElem?_getD]
  rw [g i hi,g j hj]
 rw [e]; exact sw_perm (by rw [List.length_take]; omega) (by rw [List.length_take]; omega)
def Ch (p c:Nat):Prop:=c=2*p+1∨c=2*p+2
def Hf (s n:Nat) (xs:LL):Prop := ∀p c,s≤p→Ch p c→c<n→kl (hp xs c) (hp xs p)=false
def Sf (s n i:Nat) (xs:LL):Prop:=(∀p c,s≤p→p≠i→Ch p c→c<n→kl (hp xs c) (hp xs p)=false) ∧
 ∀p c,s≤p→Ch p i→Ch i c→c<n→kl (hp xs c) (hp xs p)=false
theorem kl_trans {a b c:Pl} (h:kl b a=false) (h2:kl c b=false):kl c a=false:=by
 rw [kl_not] at *; omega
theorem hp_sw {i j:Nat} {xs:LL} (hi:i<xs.length) (hj:j<xs.length) (k:Nat) :
  hp (sw i j xs) k=if k=j then hp xs i else if k=i then hp xs j else hp xs k:=by
 unfold hp; rw [sw_get hi hj]; split
 ·rfl
 split <;> rfl
theorem Sf.done {s n i:Nat} {xs:LL} (h:Sf s n i xs) (hc : ∀c,Ch i c→c<n→kl (hp xs c) (hp xs i)=false):Hf s n xs:=by
 intro p c hp1 hch hcn; by_cases e:p=i
 ·subst e; exact hc c hch hcn
 ·exact h.1 p c hp1 e hch hcn
theorem Sf.down {s n i j : Nat} {xs : LL} (h : Sf s n i xs) (hn : n ≤ xs.length) (hj : j < n) (hij : Ch i j) (hl : kl (hp xs j) (hp xs i) = true)
  (hm : ∀c,Ch i c→c<n→kl (hp xs c) (hp xs j)=false) (hs:s≤i):Sf s n j (sw i j xs):=by
 have hi:i<j:=by unfold Ch at hij; omega
 have g:=hp_sw (i:=i) (j:=j) (xs:=xs) (by omega) (by omega); refine ⟨fun p c h1 h2 h3 h4 => ?_,fun p c h1 h2 h3 h4 => ?_⟩
 ·have hpc:p<c:=by unfold Ch at h3; omega
  rw [g c,g p,if_neg h2]; by_cases e:p=i
  ·subst e; rw [if_pos rfl]; by_cases e2:c=j
   ·rw [if_pos e2]; exact kl_asym hl
   ·rw [if_neg e2,if_neg (by omega)]; exact hm c h3 h4
  ·rw [if_neg e]; by_cases e2:c=j
   ·exfalso; subst e2; unfold Ch at h3 hij; omega
   ·rw [if_neg e2]; by_cases e3:c=i
    ·subst e3; rw [if_pos rfl]; exact h.2 p j h1 h3 hij hj
    ·rw [if_neg e3]; exact h.1 p c h1 e h3 h4
 ·have e:p=i:=by unfold Ch at h2 hij; omega
  subst e; have hpc:j<c:=by unfold Ch at h3; omega
  rw [g c,g p,if_neg (by omega),if_neg (by omega),if_neg (by omega),if_pos rfl]; exact h.1 j c (by omega) (by omega) h3 h4
theorem wz {n:Int} (h0 : -4611686018427387904≤n) (h1:n≤4611686018427387904):IntKind.wrap .i64 n=n:=w64 (by omega) (by omega)
structure Sifted (s n' n i:Nat) (xs:LL) (i':Nat) (xs':LL):Prop where
 le:i≤i'
 len:xs'.length=xs.length
 same : ∀k,n'≤k→xs'.getD k []=xs.getD k []
 perm : ∀m,n'≤m→m≤n→(xs'.take m).Perm (xs.take m)
 ne : ∀k,k<n→xs'.getD k [] ≠ []
 heap:s≤i→Sf s n' i xs→Hf s n' xs'
theorem L140_run (i0 : Int) (n' n : Nat) (hnn : n' ≤ n) (hb : n ≤ 1000000) : ∀ (d i : Nat) (xs : LL), n' ≤ i + d → i ≤ n → n ≤ xs.length → (∀ k, k < n → xs.getD k [] ≠ []) →
  ∃(i':Nat) (xs':LL),L140_2 i0 (n':Nat) (i:Nat) (n:Nat) xs=some ((((i':Nat):Int),()),((((n:Nat):Int),()),(xs',()),()),()) ∧ ∀s,Sifted s n' n i xs i' xs':=by
 intro d; induction d with
 | zero=>
  intro i xs hd hin hlen hne; refine ⟨i,xs, ?_,fun s=>⟨Nat.le_refl _,rfl,fun _ _=>rfl,fun _ _ _ => .refl _,hne,fun _ h=>h.done fun c hc hcn=>by unfold Ch at hc; omega⟩⟩
  rw [L140_2_eq]; unfold T140_2; rw [wz (n:=2*(i:Int)) (by omega) (by omega),wz (n:=2*(i:Int)+1) (by omega) (by omega),decide_eq_true (show 2*(i:Int)+1≥(n':Int) by omega)]; simp only [cond_true,Option.bind_some,Sum.elim_inr,Int.toNat_natCast]
 | succ d ih =>
  intro i xs hd hin hlen hne; rw [L140_2_eq]; unfold T140_2; rw [wz (n:=2*(i:Int)) (by omega) (by omega),wz (n:=2*(i:Int)+1) (by omega) (by omega),wz (n:=2*(i:Int)+1+1) (by omega) (by omega)]; by_cases h1:n'≤2*i+1
  ·rw [decide_eq_true (show 2*(i:Int)+1≥(n':Int) by omega)]; refine ⟨i,xs, ?_,fun s=>⟨Nat.le_refl _,rfl,fun _ _=>rfl,fun _ _ _ => .refl _,hne,fun _ h=>h.done fun c hc hcn=>by unfold Ch at hc; omega⟩⟩
   simp only [cond_true,Option.bind_some,Sum.elim_inr,Int.toNat_natCast]
  ·rw [decide_eq_false (show ¬ 2 * (i : Int) + 1 ≥ (n' : Int) by omega), decide_eq_false (show ¬ 2 * (i : Int) + 1 < 0 by omega)]; simp only [cond_false, Int.toNat_natCast]; rw [show (2 * (i : Int) + 1 + 1) = ((2 * i + 2 : Nat) : Int) by omega, show (2 * (i : Int) + 1) = ((2 * i + 1 : Nat) : Int) by omega]; have stop : ∀ j, Ch i j → (∀ c, Ch i c → c < n' → kl (hp xs c) (hp xs j) = false) → kl (hp xs j) (hp xs i) = false →
     ∀s,Sifted s n' n i xs i xs:=fun j hj hm hk s=>
    ⟨Nat.le_refl _,rfl,fun _ _=>rfl,fun _ _ _ => .refl _,hne,fun _ h=>h.done fun c hc hcn=>kl_trans hk (hm c hc hcn)⟩
   have go : ∀j,j<n'→Ch i j→(∀c,Ch i c→c<n'→kl (hp xs c) (hp xs j)=false)→kl (hp xs j) (hp xs i)=true →
     ∃(i':Nat) (xs':LL),L140_2 i0 (n':Nat) (j:Nat) (n:Nat) (sw i j xs)=some ((((i':Nat):Int),()),((((n:Nat):Int),()),(xs',()),()),()) ∧ ∀s,Sifted s n' n i xs i' xs':=by
    intro j hj hch hm hk; have hij:i<j:=by unfold Ch at hch; omega
    have hne' : ∀k,k<n→(sw i j xs).getD k [] ≠ []:=by
     intro k hk; rw [sw_get (by omega) (by omega)]; split
     ·exact hne i (by omega)
     split
     ·exact hne j (by omega)
     ·exact hne k hk
    obtain ⟨i',xs',e,hs⟩:=ih j (sw i j xs) (by omega) (by omega) (by rw [sw_len]; exact hlen) hne'
    refine ⟨i',xs',e,fun s => ?_⟩; have q:=hs s; refine ⟨by have:=q.le; omega,by rw [q.len,sw_len],fun k hk' => ?_,fun m hm1 hm2=>(q.perm m hm1 hm2).trans (sw_take (by omega) (by omega) (by omega)),q.ne,fun hsi h=>q.heap (by omega) (h.down (by omega) hj hch hk hm hsi)⟩
    rw [q.same k hk',sw_get (by omega) (by omega),if_neg (by omega),if_neg (by omega)]
   have irr : ∀a:Pl,kl a a=false:=fun a=>by rw [kl_not]; omega
   have h2i:2*i+1<n':=by omega
   by_cases h2:2*i+2<n'
   ·rw [decide_eq_true (show ((2*i+2:Nat):Int)<(n':Int) by omega)]; simp only [cond_true]; rw [F159_eq n (2*i+2) (2*i+1) xs (by omega) (by omega) hlen hne]; simp only [Option.bind_some]; cases hc:kl (hp xs (2*i+2)) (hp xs (2*i+1)) with
    | true=>
     simp only [cond_true]; have hm : ∀c,Ch i c→c<n'→kl (hp xs c) (hp xs (2*i+2))=false:=by
      intro c hch _; rcases hch with rfl | rfl
      ·exact kl_asym hc
      ·exact irr _
     rw [F159_eq n (2*i+2) i xs (by omega) (by omega) hlen hne]; simp only [Option.bind_some]; cases hk:kl (hp xs (2*i+2)) (hp xs i) with
     | false=>
      simp only [Bool.not_false,cond_true,Option.bind_some,Sum.elim_inr]; exact ⟨i,xs,rfl,stop _ (.inr rfl) hm hk⟩
     | true=>
      simp only [Bool.not_true,cond_false]; rw [F160_eq n i (2*i+2) xs (by omega) (by omega) hlen]; simp only [Option.bind_some,Sum.elim_inl]; exact go _ h2 (.inr rfl) hm hk
    | false=>
     simp only [cond_false]; have hm : ∀c,Ch i c→c<n'→kl (hp xs c) (hp xs (2*i+1))=false:=by
      intro c hch _; rcases hch with rfl | rfl
      ·exact irr _
      ·exact hc
     rw [F159_eq n (2*i+1) i xs (by omega) (by omega) hlen hne]; simp only [Option.bind_some]; cases hk:kl (hp xs (2*i+1)) (hp xs i) with
     | false=>
      simp only [Bool.not_false,cond_true,Option.bind_some,Sum.elim_inr]; exact ⟨i,xs,rfl,stop _ (.inl rfl) hm hk⟩
     | true=>
      simp only [Bool.not_true,cond_false]; rw [F160_eq n i (2*i+1) xs (by omega) (by omega) hlen]; simp only [Option.bind_some,Sum.elim_inl]; exact go _ h2i (.inl rfl) hm hk
   ·rw [decide_eq_false (show ¬((2*i+2:Nat):Int)<(n':Int) by omega)]; simp only [cond_false]; have hm : ∀c,Ch i c→c<n'→kl (hp xs c) (hp xs (2*i+1))=false:=by
     intro c hch hcn; rcases hch with rfl | rfl
     ·exact irr _
     ·omega
    rw [F159_eq n (2*i+1) i xs (by omega) (by omega) hlen hne]; simp only [Option.bind_some]; cases hk:kl (hp xs (2*i+1)) (hp xs i) with
    | false=>
     simp only [Bool.not_false,cond_true,Option.bind_some,Sum.elim_inr]; exact ⟨i,xs,rfl,stop _ (.inl rfl) hm hk⟩
    | true=>
     simp only [Bool.not_true,cond_false]; rw [F160_eq n i (2*i+1) xs (by omega) (by omega) hlen]; simp only [Option.bind_some,Sum.elim_inl]; exact go _ h2i (.inl rfl) hm hk
end Go.IM.V
namespace Go.IM.V
open Go Go.IM Go.Proofs
def Er (a b:DEv):Prop:=kl (pl a) (pl b)=true
theorem Er.trans {a b c:DEv} (h:Er a b) (h2:Er b c):Er a c:=by unfold Er at *; rw [kl_iff] at *; omega
structure Cur (n:Nat) (xs:LL) (ys:List DEv):Prop where
 nb:n≤1000000
 len:n≤xs.length
 ne : ∀k,k<n→xs.getD k [] ≠ []
 heap:Hf 0 n xs
 srt : ∀q,q∈xs.take n→q.Pairwise Er
 ysrt:ys.Pairwise Er
 perm:((xs.take n).flatten).Perm ys
theorem Hf.root {n:Nat} {xs:LL} (h:Hf 0 n xs) : ∀k,k<n→kl (hp xs k) (hp xs 0)=false:=by
 intro k; induction k using Nat.strongRecOn with
 | ind k ih=>
  intro hk; by_cases e:k=0
  ·subst e; rw [kl_not]; omega
  ·have h1:=ih ((k - 1) / 2) (by omega) (by omega); have h2:=h ((k - 1) / 2) k (Nat.zero_le _) (by unfold Ch; omega) hk
   exact kl_trans h1 h2
theorem F158_eq (n:Nat) (xs:LL):F158 (n:Nat) xs=some ((((n:Nat):Int),()),((xs,()),()),()):=rfl
theorem F140_eq (n' n i:Nat) (xs:LL) (hnn:n'≤n) (hb:n≤1000000) (hi:i≤n) (hl:n≤xs.length) (hne : ∀k,k<n→xs.getD k [] ≠ []) :
  ∃(i':Nat) (xs':LL),F140 (i:Nat) (n':Nat) (n:Nat) xs=some ((decide ((i':Int) > (i:Int)),()),((((n:Nat):Int),()),(xs',()),()),()) ∧ ∀s,Sifted s n' n i xs i' xs':=by
 obtain ⟨i',xs',h,hs⟩:=L140_run (i:Nat) n' n hnn hb n' i xs (by omega) hi hl hne; refine ⟨i',xs', ?_,hs⟩; unfold F140; rw [Int.toNat_natCast,h]; simp only [Option.bind_some,Int.toNat_natCast]
theorem F141_0 (n:Nat) (xs:LL):F141 0 (n:Nat) xs=some ((),((((n:Nat):Int),()),(xs,()),()),()):=by
 unfold F141; rw [Int.toNat_natCast,L141_0_eq]; unfold T141_0; rw [show (IntKind.wrap .i64 (((IntKind.wrap .i64 ((0:Int) - 1)):Int).tdiv 2) == 0)=true from rfl]; simp only [cond_true,Option.bind_some,Sum.elim_inr,Int.toNat_natCast]
theorem F137_eq (n:Nat) (xs:LL) (hb:n≤1000000) (hl:n≤xs.length) (hne : ∀k,k<n→xs.getD k [] ≠ []) :
  ∃(i':Nat) (xs':LL),F137 0 (n:Nat) xs=some ((),((((n:Nat):Int),()),(xs',()),()),())∧Sifted 0 n n 0 xs i' xs':=by
 obtain ⟨i',xs',h,hs⟩:=F140_eq n n 0 xs (Nat.le_refl _) hb (Nat.zero_le _) hl hne; refine ⟨i',xs', ?_,hs 0⟩; unfold F137; rw [Int.toNat_natCast,F158_eq]; simp only [Option.bind_some]; rw [show F140 0 (n:Nat) (n:Nat) xs=_ from h]; simp only [Option.bind_some,Int.toNat_natCast]; rw [F141_0]; simp only [Option.bind_some,Int.toNat_natCast]; cases decide ((i':Int) > ((0:Nat):Int)) <;> rfl
theorem F138_eq (n:Nat) (xs:LL) (h0:0<n) (hb:n≤1000000) (hl:n≤xs.length) (hne : ∀k,k<n→xs.getD k [] ≠ []) :
  ∃(i':Nat) (xs':LL),F138 (n:Nat) xs=some (((),()),((((n - 1:Nat):Int),()),(xs',()),()),())∧Sifted 0 (n - 1) n 0 (sw 0 (n - 1) xs) i' xs':=by
 have hne' : ∀k,k<n→(sw 0 (n - 1) xs).getD k [] ≠ []:=by
  intro k hk; rw [sw_get (by omega) (by omega)]; split
  ·exact hne 0 (by omega)
  split
  ·exact hne (n - 1) (by omega)
  ·exact hne k hk
 obtain ⟨i',xs',h,hs⟩:=F140_eq (n - 1) n 0 (sw 0 (n - 1) xs) (by omega) hb (Nat.zero_le _) (by rw [sw_len]; exact hl) hne'
 refine ⟨i',xs', ?_,hs 0⟩; have q:=hs 0; unfold F138; rw [Int.toNat_natCast,F158_eq]; simp only [Option.bind_some]; rw [wz (n:=(n:Int) - 1) (by omega) (by omega),show ((n:Int) - 1)=((n - 1:Nat):Int) by omega]; rw [show F160 (n:Nat) 0 ((n - 1:Nat):Int) xs=_ from F160_eq n 0 (n - 1) xs h0 (by omega) hl]; simp only [Option.bind_some]; rw [show F140 0 ((n - 1:Nat):Int) (n:Nat) (sw 0 (n - 1) xs)=_ from h]
 simp only [Option.bind_some,Int.toNat_natCast]; have e:F161 (n:Nat) xs'=some (((),()),((((n - 1:Nat):Int),()),(xs',()),()),()):=by
  unfold F161; have hw:IntKind.wrap .i64 ((n:Int) - 1)=((n - 1:Nat):Int):=by rw [wz (by omega) (by omega)]; omega
  rw [Int.toNat_natCast,hw]; rw [decide_eq_true (show 0≤((n - 1:Nat):Int)∧((n - 1:Nat):Int)<(n:Int) by omega)]; rw [decide_eq_true (show (((0:Nat):Int)+((n - 1:Nat):Int)).toNat<xs'.length by rw [q.len,sw_len]; omega)]
  rw [decide_eq_true (show 0≤((n - 1:Nat):Int)∧((n - 1:Nat):Int)≤(n:Int) by omega)]; simp only [cond_true,Int.toNat_natCast,Nat.sub_zero]
 rw [e]; simp only [Option.bind_some,Int.toNat_natCast]
theorem L136_run (n:Nat) (hb:n≤1000000) : ∀(m:Nat) (xs:LL),2*m≤n→n≤xs.length→(∀k,k<n→xs.getD k [] ≠ [])→Hf m n xs →
  ∃xs':LL,L136_2 (n:Nat) ((m:Int) - 1) (n:Nat) xs=some ((),((((n:Nat):Int),()),(xs',()),()),())∧xs'.length=xs.length∧(xs'.take n).Perm (xs.take n)∧(∀k,k<n→xs'.getD k [] ≠ [])∧Hf 0 n xs':=by
 intro m; induction m with
 | zero=>
  intro xs _ hl hne h; refine ⟨xs, ?_,rfl,.refl _,hne,h⟩; rw [L136_2_eq]; unfold T136_2; rw [decide_eq_false (by omega)]; simp only [cond_false,Option.bind_some,Sum.elim_inr,Int.toNat_natCast]
 | succ m ih=>
  intro xs hm hl hne h; rw [L136_2_eq]; unfold T136_2; rw [decide_eq_true (by omega),Int.toNat_natCast,show (((m+1:Nat):Int) - 1)=(m:Int) by omega]; simp only [cond_true]; obtain ⟨i',xs',e,hs⟩:=F140_eq n n m xs (Nat.le_refl _) hb (by omega) hl hne; have q:=hs m; rw [e]; simp only [Option.bind_some,Sum.elim_inl,Int.toNat_natCast]; rw [wz (n:=(m:Int) - 1) (by omega) (by omega)]
  have hf:=q.heap (Nat.le_refl _) ⟨fun p c h1 h2 h3 h4=>h p c (by omega) h3 h4,fun p c h1 h2 h3 h4=>by unfold Ch at h2; omega⟩
  obtain ⟨xs2,e2,l2,p2,n2,h2⟩:=ih xs' (by omega) (by rw [q.len]; exact hl) q.ne hf
  exact ⟨xs2,e2,by rw [l2,q.len],p2.trans (q.perm n (Nat.le_refl _) (Nat.le_refl _)),n2,h2⟩
theorem F136_eq (n:Nat) (xs:LL) (hb:n≤1000000) (hl:n≤xs.length) (hne : ∀k,k<n→xs.getD k [] ≠ []) :
  ∃xs':LL,F136 (n:Nat) xs=some ((),((((n:Nat):Int),()),(xs',()),()),())∧xs'.length=xs.length∧(xs'.take n).Perm (xs.take n)∧(∀k,k<n→xs'.getD k [] ≠ [])∧Hf 0 n xs':=by
 obtain ⟨xs',e,r⟩:=L136_run n hb (n / 2) xs (by omega) hl hne (fun p c h1 h2 h3=>by unfold Ch at h2; omega)
 refine ⟨xs', ?_,r⟩; unfold F136; rw [Int.toNat_natCast,F158_eq]; simp only [Option.bind_some]; rw [Int.tdiv_eq_ediv_of_nonneg (by omega),wz (n:=(n:Int) / 2) (by omega) (by omega),wz (n:=(n:Int) / 2 - 1) (by omega) (by omega),show ((n:Int) / 2 - 1)=(((n / 2:Nat):Int) - 1) by omega,e]; simp only [Option.bind_some,Int.toNat_natCast]
theorem L126_run (qs:LL) (hq:qs.length≤1000) : ∀(d k:Nat) (q:LL),k+d=qs.length→q.length≤k →
  L126_3 qs (qs.length:Nat) (k:Nat) q=some ((),(((),()),((),()),(q++(qs.drop k).filter (fun l => !l.isEmpty),()),()),()):=by
 intro d; induction d with
 | zero=>
  intro k q hk hqk; rw [L126_3_eq]; unfold T126_3; rw [decide_eq_false (by omega),List.drop_eq_nil_of_le (by omega)]; simp only [cond_false,Option.bind_some,Sum.elim_inr,List.filter_nil,List.append_nil]
 | succ d ih=>
  intro k q hk hqk; rw [L126_3_eq]; unfold T126_3; have hkl:k<qs.length:=by omega
  rw [decide_eq_true (show (k:Int)<(qs.length:Int) by omega),decide_eq_true (show 0≤(k:Int)∧(k:Int)<(qs.length:Int) by omega),Int.toNat_natCast,getD_get hkl,List.drop_eq_getElem_cons hkl]; simp only [cond_true]; rw [show IntKind.wrap .i64 ((k:Int)+1)=((k+1:Nat):Int) by rw [wz (by omega) (by omega)]; rfl]
  cases hx:qs[k] with
  | nil=>
   rw [show decide (((([]:List DEv).length:Nat):Int) > 0)=false from rfl]; simp only [cond_false,Option.bind_some,Sum.elim_inl]; rw [ih (k+1) q (by omega) (by omega)]; rfl
  | cons e t=>
   rw [decide_eq_true (show ((((e::t):List DEv).length:Nat):Int) > 0 by simp only [List.length_cons]; omega),decide_eq_true (show q.length+([e::t]:LL).length<lim by have:lim=1099511627776:=rfl; simp only [List.length_cons,List.length_nil]; omega)]
   simp only [cond_true,Option.bind_some,Sum.elim_inl]; rw [ih (k+1) (q ++ [e::t]) (by omega) (by simp; omega)]
   simp [List.filter_cons]
theorem F126_eq (qs:LL) (ys:List DEv) (hq:qs.length≤1000) (hs : ∀q∈qs,q.Pairwise Er) (hy:ys.Pairwise Er) (hp:qs.flatten.Perm ys) :
  ∃(n:Nat) (xs:LL),F126 qs=some (((),()),((((n:Nat):Int),()),(xs,()),()),())∧Cur n xs ys:=by
 have hl:=L126_run qs hq qs.length 0 [] (by omega) (by simp); simp only [List.drop_zero,List.nil_append] at hl; generalize hf:qs.filter (fun l => !l.isEmpty)=zs at hl; have hzl:zs.length≤1000:=by rw [←hf]; exact Nat.le_trans (List.length_filter_le _ _) hq
 have hzn : ∀k,k<zs.length→zs.getD k [] ≠ []:=by
  intro k hk; rw [getD_get hk]; have:zs[k]∈qs.filter (fun l => !l.isEmpty):=by rw [hf]; exact List.getElem_mem hk
  have:=(List.mem_filter.1 this).2
  simpa using this
 obtain ⟨xs,e,l1,p1,n1,h1⟩:=F136_eq zs.length zs (by omega) (Nat.le_refl _) hzn; refine ⟨zs.length,xs, ?_,⟨by omega,by omega,n1,h1, ?_,hy, ?_⟩⟩
 ·unfold F126; rw [show L126_3 qs (qs.length:Nat) 0 ([]:LL)=_ from hl]; simp only [Option.bind_some]; rw [e]; simp only [Option.bind_some,Int.toNat_natCast]
 ·intro q hq; have:=p1.mem_iff.1 hq
  rw [List.take_length,←hf] at this; exact hs q (List.mem_filter.1 this).1
 ·refine p1.flatten.trans ?_; rw [List.take_length,←hf,List.flatten_filter_not_isEmpty]; exact hp
theorem head_get {xs:LL} {n:Nat} {y:DEv} {t:List DEv} (h:0<n) (hl:n≤xs.length) (e:xs.getD 0 []=y::t):xs.take n=(y::t)::(xs.drop 1).take (n - 1):=by
 cases xs with
 | nil=>simp at hl; omega
 | cons x xs=>
  obtain ⟨m,rfl⟩ : ∃m,n=m+1:=⟨n - 1,by omega⟩; simp only [List.getD_cons_zero] at e; subst e; simp
theorem Cur.root {n : Nat} {xs : LL} {y : DEv} {ys : List DEv} (h : Cur n xs (y :: ys)) : 0 < n ∧ ∃ t, xs.getD 0 [] = y :: t := by
 have hy:y∈(xs.take n).flatten:=h.perm.mem_iff.2 (List.mem_cons_self ..); have hn:0<n:=by
  rcases Nat.eq_zero_or_pos n with h0 | h0
  ·rw [h0] at hy; simp at hy
  ·exact h0
 refine ⟨hn, ?_⟩; have h0:=h.ne 0 hn; cases hx:xs.getD 0 [] with
 | nil=>exact absurd hx h0
 | cons z t =>
  refine ⟨t, ?_⟩; have hz:hp xs 0=pl z:=by unfold hp; rw [hx]; rfl
  have hmin : ∀e∈(xs.take n).flatten,kl (pl e) (pl z)=false:=by
   intro e he; obtain ⟨q,hq,he⟩:=List.mem_flatten.1 he; obtain ⟨k,hk,rfl⟩:=List.getElem_of_mem hq; have hkn:k<n:=by rw [List.length_take] at hk; omega
   have hr:=h.heap.root k hkn; rw [hz] at hr; have hkx:(xs.take n)[k]=xs.getD k []:=by rw [getD_get (by have:=h.len; omega),List.getElem_take]
   have hs:=h.srt _ (List.getElem_mem hk); rw [hkx] at he hs; unfold hp at hr; cases hq:xs.getD k [] with
   | nil=>rw [hq] at he; cases he
   | cons a l=>
    rw [hq] at he hs hr; rcases List.mem_cons.1 he with rfl | he
    ·exact hr
    ·have:=List.rel_of_pairwise_cons hs he
     exact kl_trans hr (kl_asym this)
  have hzm:z∈y::ys:=h.perm.mem_iff.1 (by rw [head_get hn h.len hx]; simp)
  rcases List.mem_cons.1 hzm with rfl | hzy
  ·rfl
  ·have:=List.rel_of_pairwise_cons h.ysrt hzy
   have h2:=hmin y hy; unfold Er at this; rw [h2] at this; cases this
theorem Cur.nil {n:Nat} {xs:LL} (h:Cur n xs []):n=0:=by
 rcases Nat.eq_zero_or_pos n with h0 | h0
 ·exact h0
 ·exfalso
  have hn:=h.ne 0 h0; have hp:=h.perm.eq_nil; cases hx:xs.getD 0 [] with
  | nil=>exact hn hx
  | cons z t=>rw [head_get h0 h.len hx] at hp; simp at hp
theorem F128_nil {n:Nat} {xs:LL} (h:Cur n xs []):F128 (n:Nat) xs=some ((dv0,false,()),((((n:Nat):Int),()),(xs,()),()),()):=by
 rw [h.nil]; rfl
theorem F128_cons {n : Nat} {xs : LL} {y : DEv} {ys : List DEv} (h : Cur n xs (y :: ys)) :
  ∃(n':Nat) (xs':LL),F128 (n:Nat) xs=some ((y,true,()),((((n':Nat):Int),()),(xs',()),()),())∧Cur n' xs' ys:=by
 obtain ⟨hn,t,ht⟩:=h.root; have hnb:=h.nb; have hl:=h.len; have hyy:=(List.pairwise_cons.1 h.ysrt).2; unfold F128; rw [Int.toNat_natCast]; rw [show (((n:Nat):Int) == 0)=false from beq_eq_false_iff_ne.2 (by omega)]; have hz:(((0:Nat):Int)+0).toNat=0:=rfl; have hz0:(0:Int).toNat=0:=rfl; have hz1:(1:Int).toNat=1:=rfl; simp only [hz,hz0,hz1,ht,cond_false]
 rw [decide_eq_true (show 0≤(0:Int)∧(0:Int)<(n:Int) by omega),decide_eq_true (show 0<xs.length by omega),decide_eq_true (show 0≤(0:Int)∧(0:Int)<(((y::t).length:Nat):Int) by simp only [List.length_cons]; omega),decide_eq_true (show 0≤(1:Int)∧(1:Int)≤(((y::t).length:Nat):Int) by simp only [List.length_cons]; omega)]
 simp only [cond_true,List.drop_succ_cons,List.drop_zero]; have hsq:=h.srt _ (by rw [head_get hn hl ht]; exact List.mem_cons_self ..)
 have hst:=(List.pairwise_cons.1 hsq).2; by_cases htn:t = []
 ·subst htn; rw [show decide (((([]:List DEv).length:Nat):Int) > 0)=false from rfl]; simp only [cond_false]; obtain ⟨i',xs',e,q⟩:=F138_eq n xs hn hnb hl h.ne; rw [e]; simp only [Option.bind_some,Int.toNat_natCast]; refine ⟨n - 1,xs',rfl,by omega,by rw [q.len,sw_len]; omega,fun k hk=>q.ne k (by omega),q.heap (Nat.le_refl _) ?_, ?_,hyy, ?_⟩
  ·refine ⟨fun p c h1 h2 h3 h4 => ?_,fun p c h1 h2 h3 h4=>by unfold Ch at h2; omega⟩
   have hpc:p<c:=by unfold Ch at h3; omega
   rw [hp_sw (by omega) (by omega),hp_sw (by omega) (by omega),if_neg (by omega),if_neg (by omega),if_neg (by omega),if_neg (by omega)]; exact h.heap p c h1 h3 (by omega)
  ·intro r hr; have h1:=(q.perm (n - 1) (Nat.le_refl _) (by omega)).mem_iff.1 hr; have h2:r∈(sw 0 (n - 1) xs).take n:=(List.take_subset_take_left _ (by omega)) h1; exact h.srt r ((sw_take (by omega) (by omega) hl).mem_iff.1 h2)
  ·have h1:=(q.perm (n - 1) (Nat.le_refl _) (by omega)).flatten; refine h1.trans ?_; have h2:=(sw_take (i:=0) (j:=n - 1) hn (by omega) hl).flatten; have h3:(sw 0 (n - 1) xs).take n=(sw 0 (n - 1) xs).take (n - 1) ++ [[y]]:=by
    have hlt:n - 1<(sw 0 (n - 1) xs).length:=by rw [sw_len]; omega
    have:=List.take_append_getElem hlt
    rw [show n - 1+1=n by omega] at this; rw [←this,←getD_get hlt [],sw_get (by omega) (by omega),if_pos rfl,ht]
   rw [h3,List.flatten_append] at h2; have h4:=h2.trans h.perm; simp only [List.flatten_cons,List.flatten_nil,List.append_nil] at h4; have h5:(y::((sw 0 (n - 1) xs).take (n - 1)).flatten).Perm (y::ys):=(List.perm_append_comm (l₁ := [y])).trans h4; exact h5.cons_inv
 ·have htl:=List.length_pos_iff.2 htn; rw [decide_eq_true (show ((t.length:Nat):Int) > 0 by omega)]; simp only [cond_true]; have g : ∀k,(xs.set 0 t).getD k []=if k=0 then t else xs.getD k []:=fun k=>setD (by omega)
  obtain ⟨i',xs',e,q⟩:=F137_eq n (xs.set 0 t) hnb (by rw [List.length_set]; exact hl) (fun k hk=>by rw [g]; split; exact htn; exact h.ne k hk)
  rw [e]; simp only [Option.bind_some,Int.toNat_natCast]; have hset:(xs.set 0 t).take n=t::(xs.drop 1).take (n - 1):=by
   have:=head_get hn hl ht
   rw [List.take_set,this]; rfl
  have hgp : ∀k,k≠0→hp (xs.set 0 t) k=hp xs k:=fun k hk=>by unfold hp; rw [g,if_neg hk]
  refine ⟨n,xs',rfl,hnb,by rw [q.len,List.length_set]; exact hl,q.ne,q.heap (Nat.le_refl _) ?_, ?_,hyy, ?_⟩
  ·refine ⟨fun p c h1 h2 h3 h4 => ?_,fun p c h1 h2 h3 h4=>by unfold Ch at h2; omega⟩
   have hpc:p<c:=by unfold Ch at h3; omega
   rw [hgp c (by omega),hgp p h2]; exact h.heap p c h1 h3 h4
  ·intro r hr; have h1:=(q.perm n (Nat.le_refl _) (Nat.le_refl _)).mem_iff.1 hr; rw [hset] at h1; rcases List.mem_cons.1 h1 with rfl | h1
   ·exact hst
   ·exact h.srt r (by rw [head_get hn hl ht]; exact List.mem_cons_of_mem _ h1)
  ·have h1:=(q.perm n (Nat.le_refl _) (Nat.le_refl _)).flatten; rw [hset] at h1; refine h1.trans ?_; have h2:=h.perm; rw [head_get hn hl ht] at h2; simp only [List.flatten_cons,List.cons_append] at h2 ⊢; exact h2.cons_inv
theorem L127_run (s:Pl) : ∀(ys:List DEv) (n:Nat) (xs:LL) (c:Nat),Cur n xs ys→c+ys.length≤1000000 →
  ∃(n':Nat) (xs':LL),L127_2 (c:Nat) (n:Nat) s.1 s.2.1 xs=some ((((c+(ys.takeWhile fun e => !kl s (pl e)).length:Nat):Int),()),((((n':Nat):Int),()),(s.1,s.2.1,()),(xs',()),()),())∧Cur n' xs' (ys.dropWhile fun e => !kl s (pl e)):=by
 intro ys; induction ys with
 | nil=>
  intro n xs c h hc; refine ⟨n,xs, ?_,h⟩; have h0:=h.nil; subst h0; rw [L127_2_eq]; unfold T127_2; rfl
 | cons y ys ih=>
  intro n xs c h hc; obtain ⟨hn,t,ht⟩:=h.root; have hl:=h.len; rw [L127_2_eq]; unfold T127_2; have hz:(((0:Nat):Int)+0).toNat=0:=rfl; have hz0:(0:Int).toNat=0:=rfl; simp only [hz,hz0,ht,Int.toNat_natCast]; rw [decide_eq_true (show ((n:Nat):Int) > 0 by omega),decide_eq_true (show 0≤(0:Int)∧(0:Int)<(n:Int) by omega),decide_eq_true (show 0<xs.length by omega),decide_eq_true (show 0≤(0:Int)∧(0:Int)<(((y::t).length:Nat):Int) by simp only [List.length_cons]; omega)]
  simp only [cond_true,F52_eq,Option.bind_some,F46_eq]; rw [cmp_le]; have hk:kl (s.1,(s.2.1,())) ((pl y).1,((pl y).2.1,()))=kl s (pl y):=rfl; have hk2:kl (s.1,(s.2.1,())) ((pl (y.1,(y.2.1,(y.2.2.1,(y.2.2.2.1,(y.2.2.2.2.1,(y.2.2.2.2.2.1,(y.2.2.2.2.2.2.1,(y.2.2.2.2.2.2.2.1,()))))))))).1,((pl (y.1,(y.2.1,(y.2.2.1,(y.2.2.2.1,(y.2.2.2.2.1,(y.2.2.2.2.2.1,(y.2.2.2.2.2.2.1,(y.2.2.2.2.2.2.2.1,()))))))))).2.1,()))=kl s (pl y):=rfl
  simp only [List.getD_cons_zero]; rw [hk2]; cases hq:kl s (pl y) with
  | true=>
   simp only [Bool.not_true,cond_false,Option.bind_some,Sum.elim_inr]; refine ⟨n,xs, ?_, ?_⟩
   ·simp [List.takeWhile_cons,hq]
   ·simp [List.dropWhile_cons,hq]; exact h
  | false=>
   simp only [Bool.not_false,cond_true]; obtain ⟨n',xs',e,h'⟩:=F128_cons h; rw [e]; simp only [Option.bind_some,Sum.elim_inl,Int.toNat_natCast]; simp only [List.length_cons] at hc; rw [show IntKind.wrap .i64 ((c:Int)+1)=((c+1:Nat):Int) by rw [wz (by omega) (by omega)]; rfl]
   obtain ⟨n2,xs2,e2,h2⟩:=ih n' xs' (c+1) h' (by omega); rw [e2]; refine ⟨n2,xs2, ?_, ?_⟩
   ·simp [List.takeWhile_cons,hq]; omega
   ·simp [List.dropWhile_cons,hq]; exact h2
theorem F127_eq {ys:List DEv} {n:Nat} {xs:LL} (s:Pl) (h:Cur n xs ys) (hy:ys.length≤1000000) :
  ∃(n':Nat) (xs':LL),F127 s (n:Nat) xs=some (((((ys.takeWhile fun e => !kl s (pl e)).length:Nat):Int),()),((((n':Nat):Int),()),(xs',()),()),())∧Cur n' xs' (ys.dropWhile fun e => !kl s (pl e)):=by
 obtain ⟨n',xs',e,h'⟩:=L127_run s ys n xs 0 h (by omega); refine ⟨n',xs', ?_,h'⟩; unfold F127; rw [Int.toNat_natCast,show L127_2 0 (n:Nat) s.1 s.2.1 xs=_ from e]; simp only [Option.bind_some,Int.toNat_natCast,Nat.zero_add]
end Go.IM.V
namespace Go.IM.V
open Go Go.IM Go.Proofs
theorem dev_eta (x:DEv):(x.1,(x.2.1,(x.2.2.1,(x.2.2.2.1,(x.2.2.2.2.1,(x.2.2.2.2.2.1,(x.2.2.2.2.2.2.1,(x.2.2.2.2.2.2.2.1,()))))))))=x:=rfl
theorem pl_eta (x:Pl):(x.1,(x.2.1,()))=x:=rfl
def Df (a b:DEv):Prop:=Er a b∨Er b a
theorem limE:lim=1099511627776:=rfl
theorem L43_6_run (a q:List DEv) (k:Nat) (e:DEv) (hk:k<a.length) (he:a.getD k dv0=e) (hl:q.length≤1000000) : ∀i:Nat,i≤q.length →
  ∃i':Nat,i'≤i∧L43_6 a q (k:Nat) (i:Nat)=some ((((i':Nat):Int),()),(),())∧(∀j,i'≤j→j<i→Er e (q.getD j dv0))∧(0<i'→kl (pl e) (pl (q.getD (i' - 1) dv0))=false):=by
 intro i; induction i with
 | zero=>
  intro _; refine ⟨0,Nat.le_refl _, ?_,fun j h1 h2=>by omega,fun h=>by omega⟩; rw [L43_6_eq]; unfold T43_6; rfl
 | succ i ih=>
  intro hi; rw [L43_6_eq]; unfold T43_6; have hw:IntKind.wrap .i64 (((i+1:Nat):Int) - 1)=((i:Nat):Int):=by rw [wz (by omega) (by omega)]; omega
  rw [hw]; rw [decide_eq_true (show ((i+1:Nat):Int) > 0 by omega),decide_eq_true (show 0≤(k:Int)∧(k:Int)<(a.length:Int) by omega),decide_eq_true (show 0≤(i:Int)∧(i:Int)<(q.length:Int) by omega)]; simp only [cond_true,F12_eq,Option.bind_some,F14_eq,dev_eta,pl_eta,Int.toNat_natCast,he]; cases hq:kl (pl e) (pl (q.getD i dv0)) with
  | false=>
   simp only [cond_false,Option.bind_some,Sum.elim_inr]; exact ⟨i+1,Nat.le_refl _,rfl,fun j h1 h2=>by omega,fun _=>hq⟩
  | true=>
   simp only [cond_true,Option.bind_some,Sum.elim_inl]; obtain ⟨i',h1,h2,h3,h4⟩:=ih (by omega); refine ⟨i',by omega,h2,fun j j1 j2 => ?_,h4⟩; rcases Nat.lt_or_ge j i with hj | hj
   ·exact h3 j j1 hj
   ·rw [show j=i by omega]; exact hq
theorem ins_ok {q:List DEv} {e:DEv} {i:Nat} (hs:q.Pairwise Er) (hd : ∀x∈q,Df x e) (hi:i≤q.length) (h1 : ∀j,i≤j→j<q.length→Er e (q.getD j dv0)) (h2:0<i→kl (pl e) (pl (q.getD (i - 1) dv0))=false) :
  (q.take i ++ [e]++q.drop i).Pairwise Er∧(q.take i ++ [e]++q.drop i).Perm (e::q):=by
 have hpq:(q.take i++q.drop i).Pairwise Er:=by rw [List.take_append_drop]; exact hs
 obtain ⟨pa,pb,pc⟩:=List.pairwise_append.1 hpq; have ht : ∀x∈q.take i,Er x e:=by
  intro x hx; obtain ⟨j,hj,rfl⟩:=List.getElem_of_mem hx; have hji:j<i:=by rw [List.length_take] at hj; omega
  have hl:Er (q.getD (i - 1) dv0) e:=by
   have hm:q.getD (i - 1) dv0∈q:=by rw [getD_get (by omega)]; exact List.getElem_mem _
   rcases hd _ hm with h | h
   ·exact h
   ·have:=h2 (by omega); unfold Er at h; rw [this] at h; cases h
  rw [List.getElem_take]; by_cases ej:j=i - 1
  ·subst ej; rw [getD_get (by omega)] at hl; exact hl
  ·rw [getD_get (by omega)] at hl; exact (List.pairwise_iff_getElem.1 hs j (i - 1) (by omega) (by omega) (by omega)).trans hl
 have hr : ∀x∈q.drop i,Er e x:=by
  intro x hx; obtain ⟨j,hj,rfl⟩:=List.getElem_of_mem hx; rw [List.length_drop] at hj; rw [List.getElem_drop]; have:=h1 (i+j) (by omega) (by omega)
  rw [getD_get (by omega)] at this; exact this
 refine ⟨?_, ?_⟩
 ·rw [List.append_assoc,List.pairwise_append]; refine ⟨pa, ?_,fun x hx y hy => ?_⟩
  ·exact List.pairwise_cons.2 ⟨hr,pb⟩
  ·rcases List.mem_cons.1 hy with rfl | hy
   ·exact ht x hx
   ·exact pc x hx y hy
 ·rw [List.append_assoc]; have:(q.take i++([e]++q.drop i)).Perm (e::(q.take i++q.drop i)):=by
   simpa using (List.perm_middle (l₁:=q.take i) (l₂:=q.drop i) (a:=e))
  rw [List.take_append_drop] at this; exact this
theorem L43_3_run (a:List DEv) (hl:a.length≤100000) (hd:a.Pairwise Df) : ∀(d k:Nat) (q:List DEv),k+d=a.length→q.length=k→q.Pairwise Er→q.Perm (a.take k) →
  ∃r:List DEv,L43_3 a (k:Nat) q=some (((),()),(),(r,()))∧r.Pairwise Er∧r.Perm a:=by
 intro d; induction d with
 | zero=>
  intro k q hk hq hs hp; refine ⟨q, ?_,hs, ?_⟩
  ·rw [L43_3_eq]; unfold T43_3; rw [decide_eq_false (by omega)]; rfl
  ·rw [List.take_of_length_le (by omega)] at hp; exact hp
 | succ d ih=>
  intro k q hk hq hs hp; have hkl:k<a.length:=by omega
  obtain ⟨i,hi,e,h1,h2⟩:=L43_6_run a q k (a.getD k dv0) hkl rfl (by omega) q.length (Nat.le_refl _); have hdq : ∀x∈q,Df x (a.getD k dv0):=by
   intro x hx; have hx:=hp.mem_iff.1 hx; obtain ⟨j,hj,rfl⟩:=List.getElem_of_mem hx; rw [List.length_take] at hj; rw [List.getElem_take,getD_get hkl]; exact List.pairwise_iff_getElem.1 hd j k (by omega) hkl (by omega)
  obtain ⟨p1,p2⟩:=ins_ok hs hdq hi h1 h2; rw [L43_3_eq]; unfold T43_3; rw [decide_eq_true (show (k:Int)<(a.length:Int) by omega),e]; simp only [cond_true,Option.bind_some,Int.toNat_natCast,dev_eta]; have t1:(q.take i).length=i:=by rw [List.length_take]; omega
  have t2:(q.drop i).length=q.length - i:=List.length_drop ..; rw [decide_eq_true (show 0≤(i:Int)∧(i:Int)≤(q.length:Int) by omega),decide_eq_true (show (q.take i).length<lim by rw [t1,limE]; omega),decide_eq_true (show 0≤(k:Int)∧(k:Int)<(a.length:Int) by omega)]
  rw [decide_eq_true (show (q.take i).length + [a.getD k dv0].length<lim by rw [t1,limE]; simp only [List.length_cons,List.length_nil]; omega),decide_eq_true (show (q.take i ++ [a.getD k dv0]).length+(q.drop i).length<lim by rw [List.length_append,t1,t2,limE]; simp only [List.length_cons,List.length_nil]; omega)]
  simp only [cond_true,Option.bind_some,Sum.elim_inl]; rw [show IntKind.wrap .i64 ((k:Int)+1)=((k+1:Nat):Int) by rw [wz (by omega) (by omega)]; rfl]
  refine ih (k+1) _ (by omega) (by rw [List.length_append,List.length_append,t1,t2]; simp only [List.length_cons,List.length_nil]; omega) p1 ?_
  have h3:a.take (k+1)=a.take k ++ [a.getD k dv0]:=by rw [getD_get hkl,List.take_append_getElem]
  rw [h3]; refine p2.trans ((hp.cons _).trans ?_); exact (List.perm_append_comm (l₁ := [a.getD k dv0]) (l₂:=a.take k))
theorem F43_eq (a:List DEv) (hl:a.length≤100000) (hd:a.Pairwise Df) : ∃r,F43 a=some ((r,()),(),())∧r.Pairwise Er∧r.Perm a:=by
 obtain ⟨r,e,h1,h2⟩:=L43_3_run a hl hd a.length 0 [] (by omega) rfl List.Pairwise.nil (by simp); refine ⟨r, ?_,h1,h2⟩; unfold F43; rw [show L43_3 a 0 ([]:List DEv)=_ from e]; rfl
theorem L9_run (l:LL) (hl:l.length≤64) (hq : ∀q∈l,q.length≤60) : ∀(d k:Nat) (q:List DEv),k+d=l.length→q.length≤60*k→L9_3 l (k:Nat) q=some (((),()),(),(q++(l.drop k).flatten,())):=by
 intro d; induction d with
 | zero=>
  intro k q hk hqk; rw [L9_3_eq]; unfold T9_3; rw [decide_eq_false (by omega),List.drop_eq_nil_of_le (by omega)]; simp
 | succ d ih=>
  intro k q hk hqk; have hkl:k<l.length:=by omega
  have hx:=hq _ (List.getElem_mem hkl); rw [L9_3_eq]; unfold T9_3; rw [decide_eq_true (show (k:Int)<(l.length:Int) by omega),decide_eq_true (show 0≤(k:Int)∧(k:Int)<(l.length:Int) by omega),Int.toNat_natCast,getD_get hkl,decide_eq_true (show q.length+l[k].length<lim by rw [limE]; omega)]
  simp only [cond_true,Option.bind_some,Sum.elim_inl]; rw [show IntKind.wrap .i64 ((k:Int)+1)=((k+1:Nat):Int) by rw [wz (by omega) (by omega)]; rfl]
  rw [ih (k+1) _ (by omega) (by rw [List.length_append]; omega),List.drop_eq_getElem_cons hkl,List.flatten_cons,List.append_assoc]
theorem F9_eq (l:LL) (hl:l.length≤64) (hq : ∀q∈l,q.length≤60) (hd:l.flatten.Pairwise Df) (hfl:l.flatten.length≤100000) : ∃r,F9 l=some ((r,()),(),())∧r.Pairwise Er∧r.Perm l.flatten:=by
 obtain ⟨r,e,h1,h2⟩:=F43_eq l.flatten hfl hd; refine ⟨r, ?_,h1,h2⟩; unfold F9; have h:=L9_run l hl hq l.length 0 [] (by omega) (by simp); simp only [List.drop_zero,List.nil_append] at h; rw [show L9_3 l 0 ([]:List DEv)=_ from h]; simp only [Option.bind_some,e]
theorem L110_run (m : Int) : ∀ (ys : List DEv) (n : Nat) (xs : LL) (q : List DEv), Cur n xs ys → q.length + ys.length ≤ 1000000 →
  ∃(n':Nat) (xs':LL),L110_4 m (n:Nat) xs q=some (((),()),((((n':Nat):Int),()),(xs',()),()),(q++ys.take (m.toNat - q.length),())):=by
 intro ys; induction ys with
 | nil=>
  intro n xs q h hl; refine ⟨n,xs, ?_⟩; rw [L110_4_eq]; unfold T110_4; rw [Int.toNat_natCast,F128_nil h]; simp only [List.take_nil,List.append_nil,Option.bind_some]; cases decide ((((q.length:Nat):Int))<m)
  ·simp only [cond_false,Option.bind_some,Sum.elim_inr]
  ·simp only [cond_true,Bool.not_false,Option.bind_some,Sum.elim_inr,Int.toNat_natCast]
 | cons y ys ih=>
  intro n xs q h hl; rw [L110_4_eq]; unfold T110_4; rw [Int.toNat_natCast]; simp only [List.length_cons] at hl; by_cases hm:((q.length:Nat):Int)<m
  ·rw [decide_eq_true hm]; obtain ⟨n',xs',e,h'⟩:=F128_cons h; rw [e]; simp only [cond_true,Bool.not_true,cond_false,Option.bind_some,dev_eta,Int.toNat_natCast]; rw [decide_eq_true (show q.length + [y].length<lim by rw [limE]; simp only [List.length_cons,List.length_nil]; omega)]
   simp only [cond_true,Option.bind_some,Sum.elim_inl]; obtain ⟨n2,xs2,e2⟩:=ih n' xs' (q ++ [y]) h' (by simp; omega)
   refine ⟨n2,xs2, ?_⟩; rw [e2]; have:(y::ys).take (m.toNat - q.length)=y::ys.take (m.toNat - (q ++ [y]).length):=by
    rw [show m.toNat - q.length=(m.toNat - (q ++ [y]).length)+1 by simp; omega]
    rfl
   rw [this]; simp
  ·rw [decide_eq_false hm]; refine ⟨n,xs, ?_⟩; rw [show m.toNat - q.length=0 by omega]; simp only [cond_false,Option.bind_some,Sum.elim_inr,List.take_zero,List.append_nil,Int.toNat_natCast]
theorem F110_eq (qs:LL) (ys:List DEv) (s:Pl) (m:Int) (hq:qs.length≤1000) (hs : ∀q∈qs,q.Pairwise Er) (hy:ys.Pairwise Er) (hp:qs.flatten.Perm ys) (hl:ys.length≤100000) :
  F110 qs s m=some (((ys.dropWhile fun e => !kl s (pl e)).take m.toNat,()),(),()):=by
 obtain ⟨n,xs,e1,h1⟩:=F126_eq qs ys hq hs hy hp; obtain ⟨n2,xs2,e2,h2⟩:=F127_eq s h1 (by omega); have hdl:(ys.dropWhile fun e => !kl s (pl e)).length≤ys.length:=(List.dropWhile_sublist _).length_le; obtain ⟨n3,xs3,e3⟩:=L110_run m _ n2 xs2 [] h2 (by simp; omega)
 unfold F110; rw [e1]; simp only [Option.bind_some,Int.toNat_natCast,pl_eta]; rw [e2]; simp only [Option.bind_some,Int.toNat_natCast]; rw [e3]; simp
theorem F85_eq (qs:LL) (ys:List DEv) (hq:qs.length≤1000) (hs : ∀q∈qs,q.Pairwise Er) (hy:ys.Pairwise Er) (hp:qs.flatten.Perm ys) (hl:ys.length≤100000) (h0 : ∀e∈ys,0≤e.1∧0≤e.2.2.1) :
  F85 qs=some ((ys,()),(),()):=by
 unfold F85; rw [F110_eq qs ys _ _ hq hs hy hp hl]; have hdw:(ys.dropWhile fun e => !kl (0,((-1),())) (pl e))=ys:=by
  cases ys with
  | nil=>rfl
  | cons y ys=>
   have:=h0 y (List.mem_cons_self ..)
   have hk:kl (0,((-1),())) (pl y)=true:=by rw [kl_iff]; unfold pl; dsimp only; omega
   rw [List.dropWhile_cons_of_neg (by rw [hk]; simp)]
 rw [hdw,List.take_of_length_le (by omega)]; rfl
theorem F8_eq:F8=some ((true,()),(),()):=rfl
end Go.IM.V
namespace Go.IM.V
open Go Go.IM Go.Proofs
theorem bytesL_len (s:ByteArray):(bytesL s).length=s.size:=by unfold bytesL; simp
theorem strL_size (a:List Int):(strL a).size=a.length:=by unfold strL; show (Array.size _)=_; simp
structure EvG (e:Ev):Prop where
 w0:0≤e.1
 w1:e.1<100
 s0:0≤e.2.1
 s1:e.2.1<1000
 t0:0≤e.2.2.1
 t1:e.2.2.1<1000
 f:EvF e
theorem FdOK.srt {w:Int} {q:List Ev} {t:Int} (h:FdOK w 60 q t):q.Pairwise Er:=by
 refine List.pairwise_iff_getElem.2 fun i j hi hj hij => ?_
 have:=h.rise i j _ _ (List.getElem?_eq_getElem hi) (List.getElem?_eq_getElem hj) hij
 unfold Er; rw [kl_iff]; exact .inl this
theorem FdOK.rises {w:Int} {q:List Ev} {t:Int} (h:FdOK w 60 q t):q.Pairwise (fun a b=>a.2.2.1<b.2.2.1):=
 List.pairwise_iff_getElem.2 fun i j hi hj hij=>h.rise i j _ _ (List.getElem?_eq_getElem hi) (List.getElem?_eq_getElem hj) hij
theorem FdOK.mem {w:Int} {q:List Ev} {t:Int} (h:FdOK w 60 q t) (hw:0≤w∧w<100) : ∀e∈q,e.1=w∧EvG e:=by
 intro e he; obtain ⟨i,hi,rfl⟩:=List.getElem_of_mem he; obtain ⟨h1,h2,h3,h4,h5⟩:=h.who i _ (List.getElem?_eq_getElem hi); have ht:=h.t1; have hl:=h.len; exact ⟨h1,⟨by omega,by omega,by omega,by omega,by omega,by omega,h5⟩⟩
def FdL:Nat→LL→Prop
 | _, []=>True
 | w,q::qs=>(∃t,FdOK (w:Nat) 60 q t)∧FdL (w+1) qs
theorem df_of {a b:DEv} (h:a.1≠b.1):Df a b:=by
 unfold Df Er; simp only [kl_iff,pl]; omega
structure Fds (qs:LL):Prop where
 len:qs.length≤6
 srt : ∀q∈qs,q.Pairwise Er
 ris : ∀q∈qs,q.Pairwise (fun a b=>a.2.2.1<b.2.2.1)
 l60 : ∀q∈qs,q.length≤60
 df:qs.flatten.Pairwise Df
 ev : ∀e∈qs.flatten,EvG e
 fl:qs.flatten.length≤1000
theorem FdL.ok : ∀(qs:LL) (w:Nat),FdL w qs→w+qs.length≤100→(∀q∈qs,q.Pairwise Er)∧(∀q∈qs,q.Pairwise (fun a b=>a.2.2.1<b.2.2.1))∧(∀q∈qs,q.length≤60)∧qs.flatten.Pairwise Df∧(∀e∈qs.flatten,EvG e∧(w:Int)≤e.1)∧qs.flatten.length≤60*qs.length:=by
 intro qs; induction qs with
 | nil=>
  intro w _ _; exact ⟨fun q h=>(by cases h),fun q h=>(by cases h),fun q h=>(by cases h),List.Pairwise.nil,fun q h=>(by cases h),by simp⟩
 | cons q qs ih=>
  intro w ⟨⟨t,h⟩,hr⟩ hl; simp only [List.length_cons] at hl; obtain ⟨i1,i2,i3,i4,i5,i6⟩:=ih (w+1) hr (by omega); have hm:=h.mem (by omega); refine ⟨fun x hx => ?_,fun x hx => ?_,fun x hx => ?_, ?_,fun e he => ?_, ?_⟩
  ·rcases List.mem_cons.1 hx with rfl | hx
   ·exact h.srt
   ·exact i1 x hx
  ·rcases List.mem_cons.1 hx with rfl | hx
   ·exact h.rises
   ·exact i2 x hx
  ·rcases List.mem_cons.1 hx with rfl | hx
   ·exact h.len
   ·exact i3 x hx
  ·rw [List.flatten_cons,List.pairwise_append]; refine ⟨h.srt.imp fun hh => .inl hh,i4,fun a ha b hb=>df_of ?_⟩; have:=(hm a ha).1
   have:=(i5 b hb).2
   omega
  ·rw [List.flatten_cons,List.mem_append] at he; rcases he with he | he
   ·exact ⟨(hm e he).2,by have:=(hm e he).1; omega⟩
   ·exact ⟨(i5 e he).1,by have:=(i5 e he).2; omega⟩
  ·rw [List.flatten_cons,List.length_append,List.length_cons]; have:=h.len
   omega
theorem FdL.fds {qs:LL} (h:FdL 0 qs) (hl:qs.length≤6):Fds qs:=by
 obtain ⟨i1,i2,i3,i4,i5,i6⟩:=h.ok qs 0 (by omega); exact ⟨hl,i1,i2,i3,i4,fun e he=>(i5 e he).1,by omega⟩
theorem F9_fds {qs:LL} (h:Fds qs) : ∃r,F9 qs=some ((r,()),(),())∧r.Pairwise Er∧qs.flatten.Perm r∧(∀e∈r,EvG e)∧r.length≤1000:=by
 obtain ⟨r,e,h1,h2⟩:=F9_eq qs (by have:=h.len; omega) h.l60 h.df (by have:=h.fl; omega)
 exact ⟨r,e,h1,h2.symm,fun e he=>h.ev e (h2.mem_iff.1 he),by rw [h2.length_eq]; exact h.fl⟩
end Go.IM.V
namespace Go.IM.V
open Go Go.IM Go.Proofs
abbrev gv (v:List Int) (k:Nat):Int:=v.getD k 0
theorem gv_ge {v:List Int} {k:Nat} (h:v.length≤k):gv v k=0:=by
 unfold gv; rw [List.getD_eq_getElem?_getD,List.getElem?_eq_none h]; rfl
theorem F53_nat (v:List Int) (k:Nat):F53 v (k:Int)=some (r1 (gv v k)):=by
 unfold F53; simp only [cif]; rw [if_neg (by omega)]; by_cases h:v.length≤k
 ·rw [if_pos (by omega),gv_ge h]
 ·rw [if_neg (by omega),if_pos (by omega),Int.toNat_natCast]
theorem F90_eq (a:List Int) (h:a.length<2 ^ 39):F90 a=some (r1 a):=by
 unfold F90; refine nilBr_of ?_ (fun h0 => ?_)
 ·rw [cif,if_pos (by unfold lim; simp; omega)]; rfl
 ·rw [List.eq_nil_of_length_eq_zero h0]
def trimN (a:List Int):Nat→Nat
 | 0=>0
 | n+1=>if gv a n=0 then trimN a n else n+1
theorem trimN_le (a:List Int) : ∀n,trimN a n≤n:=by
 intro n; induction n with
 | zero=>exact Nat.le_refl _
 | succ n ih=>simp only [trimN]; split <;> omega
theorem trimN_z (a : List Int) : ∀ n k, trimN a n ≤ k → k < n → gv a k = 0 := by
 intro n; induction n with
 | zero=>intro k _ h; omega
 | succ n ih=>
  intro k h1 h2; simp only [trimN] at h1; split at h1
  ·rename_i h; rcases Nat.lt_or_ge k n with q | q
   ·exact ih k h1 q
   ·obtain rfl:k=n:=by omega
    exact h
  ·omega
def trim (a:List Int):List Int:=a.take (trimN a a.length)
theorem L71_run (a:List Int) (hn:a.length<2 ^ 39) : ∀k,k≤a.length→L71_2 a (k:Nat)=some (r1 ((trimN a k:Nat):Int)):=by
 intro k; induction k with
 | zero=>
  intro _; rw [L71_2_eq]; simp only [T71_2,cif]; rw [if_neg (by omega)]; rfl
 | succ k ih=>
  intro hk; rw [L71_2_eq]; have hw:IntKind.wrap .i64 (((k+1:Nat):Int) - 1)=(k:Int):=by rw [w64 (by omega) (by omega)]; omega
  simp only [T71_2,cif]; rw [hw,if_pos (by omega),if_pos (by omega)]; simp only [Int.toNat_natCast]; by_cases h:gv a k=0
  ·have hb:(a.getD k 0 == 0)=true:=by simpa using h
   rw [hb]; simp only [cond_true,Option.bind_some,Sum.elim_inl]; rw [ih (by omega)]; simp only [trimN]; rw [if_pos h]
  ·have hb:(a.getD k 0 == 0)=false:=by simpa using h
   rw [hb]; simp only [cond_false,Option.bind_some,Sum.elim_inr,trimN]; rw [if_neg h]
theorem F71_eq (a:List Int) (hn:a.length<2 ^ 39):F71 a=some (r1 (trim a)):=by
 unfold F71; rw [L71_run a hn a.length (Nat.le_refl _)]; have:=trimN_le a a.length
 simp only [Option.bind_some,cif]; rw [if_pos (by omega),Int.toNat_natCast,F90_eq _ (by rw [List.length_take]; omega)]
 rfl
theorem gv_trim (a:List Int) (k:Nat):gv (trim a) k=gv a k:=by
 unfold trim; rcases Nat.lt_or_ge k (trimN a a.length) with h | h
 ·unfold gv; rw [List.getD_eq_getElem?_getD,List.getD_eq_getElem?_getD,List.getElem?_take,if_pos h]
 ·rw [gv_ge (by rw [List.length_take]; omega)]
  rcases Nat.lt_or_ge k a.length with h2 | h2
  ·exact (trimN_z a a.length k h h2).symm
  ·exact (gv_ge h2).symm
theorem trim_len (a:List Int):(trim a).length=trimN a a.length:=by
 unfold trim; rw [List.length_take]; have:=trimN_le a a.length; omega
theorem F90j_val (v:List Int) (hl:v.length<2 ^ 39):F90j v=some (((),()),(((v,()),()),())):=by
 unfold F90j; rw [decide_eq_true (show v.length<lim by unfold lim; omega)]
 rfl
def padV (v:List Int) (k:Nat):List Int:=v++List.replicate (k+1 - v.length) 0
theorem L54_run (k:Nat) (x:Int) (hk:k<64) : ∀(d:Nat) (v:List Int),k+1 - v.length=d→v.length≤64→L54_4 (k:Int) x v=some (((),()),(((),()),(padV v k,()),()),()):=by
 intro d; induction d with
 | zero=>
  intro v hd hv; rw [L54_4_eq]; unfold T54_4; rw [decide_eq_false (by omega)]; unfold padV; rw [hd]; simp
 | succ d ih=>
  intro v hd hv; rw [L54_4_eq]; unfold T54_4; rw [decide_eq_true (show ((v.length:Nat):Int)≤(k:Int) by omega),decide_eq_true (by rw [limE]; simp only [List.length_cons,List.length_nil]; omega)]
  simp only [cond_true,Option.bind_some,Sum.elim_inl]; rw [ih (v ++ [0]) (by simp; omega) (by simp; omega)]
  have:padV (v ++ [0]) k=padV v k:=by
   unfold padV; have hl:(v ++ [0]).length=v.length+1:=by simp
   rw [hl,List.append_assoc,show k+1 - v.length=(k+1 - (v.length+1))+1 by omega,List.replicate_succ]; rfl
  rw [this]
theorem padV_len (v:List Int) (k:Nat):(padV v k).length=max v.length (k+1):=by unfold padV; simp; omega
theorem gv_pad (v:List Int) (k j:Nat):gv (padV v k) j=gv v j:=by
 unfold padV gv; rw [List.getD_eq_getElem?_getD,List.getD_eq_getElem?_getD]; rcases Nat.lt_or_ge j v.length with h | h
 ·rw [List.getElem?_append_left h]
 ·rw [List.getElem?_append_right h,List.getElem?_eq_none h,List.getElem?_replicate]; split <;> rfl
def withV (v:List Int) (k:Nat) (x:Int):List Int:=trim ((padV v k).set k x)
theorem F54_eq (v:List Int) (k:Nat) (x:Int) (hk:k<64) (hl:v.length≤64):F54 v (k:Int) x=some (r1 (withV v k x)):=by
 have hp:=padV_len v k; unfold F54; rw [decide_eq_false (show ¬(k:Int)<0 by omega),decide_eq_false (show ¬(k:Int)≥64 by omega),F90j_val v (by omega)]; simp only [cond_false,Option.bind_some]; rw [L54_run k x hk _ v rfl hl]; simp only [Option.bind_some]; rw [decide_eq_true (show 0≤(k:Int)∧(k:Int)<(((padV v k).length:Nat):Int) by omega),decide_eq_true (show (k:Int).toNat<(padV v k).length by omega)]
 simp only [cond_true,Int.toNat_natCast]; rw [F71_eq _ (by rw [List.length_set]; omega)]
 rfl
theorem withV_len {v:List Int} {k:Nat} {x:Int} (hk:k<64) (hl:v.length≤64):(withV v k x).length≤64:=by
 unfold withV; rw [trim_len]; have:=trimN_le ((padV v k).set k x) ((padV v k).set k x).length
 rw [List.length_set,padV_len] at this; rw [List.length_set,padV_len]; omega
theorem gv_with (v:List Int) (k:Nat) (x:Int) (j:Nat):gv (withV v k x) j=if j=k then x else gv v j:=by
 unfold withV; rw [gv_trim]; unfold gv; by_cases h:j=k
 ·subst h; rw [if_pos rfl,List.getD_eq_getElem?_getD,List.getElem?_set_self (by rw [padV_len]; omega)]; rfl
 ·rw [if_neg h,List.getD_eq_getElem?_getD,List.getElem?_set_ne (fun q=>h q.symm),←List.getD_eq_getElem?_getD]; exact gv_pad v k j
end Go.IM.V
namespace Go.IM.V
open Go Go.IM Go.Proofs
def Gf (x:Nat):Prop:=x≤9218868437227405312
noncomputable def addF (x y:Nat):Nat:=((FloatKind.f64).format.add x y).getD 0
theorem dbl:FloatKind.f64.format=Ieee.double:=rfl
theorem dblS:Ieee.double.signWeight=9223372036854775808:=by decide +kernel
theorem dblI:Ieee.double.infRung=9218868437227405312:=by decide +kernel
theorem Gf.read {x:Nat} (h:Gf x):(∃m p,Ieee.double.read x = .number false m p)∨Ieee.double.read x = .infinity false:=by
 unfold Gf at h; have e2:x / 9223372036854775808=0:=by omega
 have e3:x % 9223372036854775808=x:=by omega
 unfold Ieee.Format.read; rw [dblS,dblI,e2,e3]; dsimp only; by_cases h1:x<Ieee.double.binade
 ·rw [if_pos h1]; exact .inl ⟨_,_,rfl⟩
 ·rw [if_neg h1]; by_cases h2:x<9218868437227405312
  ·rw [if_pos h2]; exact .inl ⟨_,_,rfl⟩
  ·rw [if_neg h2,if_pos (by omega)]; exact .inr rfl
theorem word_pos (r:Nat):Ieee.double.word false r=r:=rfl
theorem gf_write {m:Nat} {p:Int}:Gf (Ieee.double.write (.number false m p)):=by
 unfold Ieee.Format.write Ieee.Format.nearest Gf; dsimp only; split
 ·rw [word_pos]; exact Nat.zero_le _
 ·rw [word_pos]; exact Nat.le_trans (Nat.min_le_right _ _) (Nat.le_of_eq dblI)
theorem gf_inf:Gf (Ieee.double.write (.infinity false)):=by
 unfold Ieee.Format.write Gf; dsimp only; rw [word_pos]; exact Nat.le_of_eq dblI
theorem sgn0 (m k:Nat):0≤Ieee.signed false m k:=Int.natCast_nonneg _
theorem sum_good {a b : Ieee.Datum} (ha : (∃ m p, a = .number false m p) ∨ a = .infinity false) (hb : (∃ m p, b = .number false m p) ∨ b = .infinity false) : (∃ m p, a.sum b = some (.number false m p)) ∨ a.sum b = some (.infinity false) := by
 rcases ha with ⟨m,p,rfl⟩|rfl
 ·rcases hb with ⟨n,q,rfl⟩|rfl
  ·left; unfold Ieee.Datum.sum; dsimp only; have a1:=sgn0 m (p - min p q).toNat; have a2:=sgn0 n (q - min p q).toNat; have ht : ¬(Ieee.signed false m (p - min p q).toNat+Ieee.signed false n (q - min p q).toNat<0):=by omega
   generalize Ieee.signed false m (p - min p q).toNat+Ieee.signed false n (q - min p q).toNat=tt at ht; refine ⟨tt.natAbs,min p q, ?_⟩; have:(if tt=0 then false && false else decide (tt<0))=false:=by
    split
    ·rfl
    ·exact decide_eq_false ht
   rw [this]
  ·exact .inr rfl
 ·rcases hb with ⟨n,q,rfl⟩|rfl
  ·exact .inr rfl
  ·exact .inr rfl
theorem add_good {x y:Nat} (hx:Gf x) (hy:Gf y):(FloatKind.f64.format.add x y).isSome=true∧Gf (addF x y):=by
 have hs:=sum_good hx.read hy.read; unfold addF; rw [dbl]; unfold Ieee.Format.add; generalize (Ieee.double.read x).sum (Ieee.double.read y)=s at hs; rcases hs with ⟨m,p,rfl⟩|rfl
 ·rw [Option.map_some,Option.getD_some]; exact ⟨rfl,gf_write⟩
 ·rw [Option.map_some,Option.getD_some]; exact ⟨rfl,gf_inf⟩
theorem ord_self {x:Nat} (hx:Gf x):(FloatKind.f64.format.order x x != some Ordering.eq)=false:=by
 rw [dbl]; unfold Ieee.Format.order; rcases hx.read with ⟨m,p,h1⟩|h1
 ·rw [h1]; unfold Ieee.Datum.order; dsimp only; have:compare (Ieee.signed false m (p - min p p).toNat) (Ieee.signed false m (p - min p p).toNat) = .eq:=by simp [compare,compareOfLessAndEq]
  rw [this]; rfl
 ·rw [h1]; rfl
theorem gf_zero:Gf 0:=Nat.zero_le _
theorem gf_qt : ∀i:Fin 60,((((FloatKind.f64).format.div (FloatKind.nearest .f64 ((i.val:Nat):Int)) (4616189618054758400)).getD 0)≤9218868437227405312):=by decide +kernel
theorem gf_qtI {i:Int} (h0:0≤i) (h:i<60):Gf (qtI i):=by
 have:=gf_qt ⟨i.toNat,by omega⟩
 rwa [show ((i.toNat:Nat):Int)=i by omega] at this
theorem F77_eq {x:Nat} (h:Gf x):F77 x=some (((x:Int),()),(),()):=by
 unfold F77 F103; simp only [Option.bind_some,ord_self h,cond_false]
theorem F57_eq {x:Nat} (h:Gf x):F57 x=some ((x,()),(),()):=by
 unfold F57; rw [F77_eq h]; rfl
theorem F58_eq {x y:Nat} (h:Gf x) (h2:Gf y):F58 x y=some ((addF x y,()),(),()):=by
 obtain ⟨h3,h4⟩:=add_good h h2; unfold F58; rw [h3]; simp only [cond_true]; rw [show ((FloatKind.f64).format.add x y).getD 0=addF x y from rfl,F57_eq h4]; rfl
theorem F38_self {x:Nat} (h:Gf x):F38 x x=some ((true,()),(),()):=by
 unfold F38; rw [F77_eq h]; simp only [Option.bind_some]; simp
abbrev Cs:Type:=List (ByteArray × DCe)
abbrev cd0:DCe:=((0:Int),([],((0:Nat),())))
abbrev keyE (e:DEv):ByteArray:=e.2.2.2.2.1
abbrev kdE (e:DEv):Int:=e.2.2.2.1
abbrev txE (e:DEv):List Int:=e.2.2.2.2.2.1
abbrev nuE (e:DEv):Nat:=e.2.2.2.2.2.2.1
noncomputable def stepC (c:Option DCe) (e:DEv):Option DCe:=
 if kdE e=1 then some (1,(txE e,(0,()))) else if kdE e=2 then some (2,([],(nuE e,()))) else if kdE e=3 then some (2,([],((if (c.getD cd0).1=2 then addF (c.getD cd0).2.2.1 (nuE e) else nuE e),()))) else none
noncomputable def stepM (m:Cs) (e:DEv):Cs:=if kdE e=4 then mdel (keyE e) m else mput (keyE e) ((stepC (mfind (keyE e) m) e).getD cd0) m
noncomputable def cel (q:ByteArray) (l:List DEv):Option DCe:=l.foldl (fun c e=>if keyE e=q then stepC c e else c) none
theorem cel_app (q:ByteArray) (l:List DEv) (e:DEv):cel q (l ++ [e])=if keyE e=q then stepC (cel q l) e else cel q l:=by
 unfold cel; rw [List.foldl_append]; rfl
theorem mfind_mem {α:Type} {q:ByteArray} : ∀{l:List (ByteArray × α)},q∉l.map (·.1)→mfind q l=none:=by
 intro l h; exact mfind_none fun a ha e=>h (by rw [←e]; exact List.mem_map_of_mem ha)
theorem mfind_mdel {α : Type} {q q' : ByteArray} : ∀ {l : List (ByteArray × α)}, (l.map (·.1)).Nodup → mfind q (mdel q' l) = if q = q' then none else mfind q l := by
 intro l; induction l with
 | nil=>intro _; simp [mdel,mfind]
 | cons a l ih =>
  intro hn; rw [List.map_cons,List.nodup_cons] at hn; simp only [mdel]; cases h:q' == a.1 with
  | true=>
   have h':=beq_B.1 h
   simp only [cond_true]; by_cases e:q=q'
   ·rw [if_pos e]; exact mfind_mem (by rw [e,h']; exact hn.1)
   ·rw [if_neg e]; simp only [mfind]; have:(q == a.1)=false:=by
     cases hq:q == a.1 with
     | false=>rfl
     | true=>exact absurd ((beq_B.1 hq).trans h'.symm) e
    rw [this]; rfl
  | false=>
   simp only [cond_false,mfind]; rw [ih hn.2]; cases hq:q == a.1 with
   | true=>
    have hq':=beq_B.1 hq
    have hne:q≠q':=fun e=>by
     rw [e] at hq'; rw [hq',beq_B.2 rfl] at h; cases h
    rw [if_neg hne]; simp only [cond_true]; rw [if_neg hne]
   | false=>rfl
theorem mput_keys {α:Type} {q:ByteArray} {v:α} : ∀{l:List (ByteArray × α)},(l.map (·.1)).Nodup→((mput q v l).map (·.1)).Nodup:=by
 intro l; induction l with
 | nil=>intro _; simp [mput]
 | cons a l ih=>
  intro hn; rw [List.map_cons,List.nodup_cons] at hn; simp only [mput]; cases h:q == a.1 with
  | true=>
   have h':=beq_B.1 h
   simp only [cond_true,List.map_cons,List.nodup_cons]; exact ⟨by rw [h']; exact hn.1,hn.2⟩
  | false=>
   simp only [cond_false,List.map_cons,List.nodup_cons]; refine ⟨fun hm => ?_,ih hn.2⟩; obtain ⟨b,hb,hb2⟩:=List.mem_map.1 hm; rcases mem_mput hb with e|⟨c,hc,e⟩
   ·rw [←hb2,e,beq_B.2 rfl] at h; cases h
   ·exact hn.1 (by rw [←hb2,←e]; exact List.mem_map_of_mem hc)
theorem mdel_keys {α : Type} {q : ByteArray} : ∀ {l : List (ByteArray × α)}, (l.map (·.1)).Nodup → ((mdel q l).map (·.1)).Nodup ∧ ∀ a ∈ mdel q l, a ∈ l := by
 intro l; induction l with
 | nil=>intro _; exact ⟨by simp [mdel],fun a h=>h⟩
 | cons a l ih=>
  intro hn; rw [List.map_cons,List.nodup_cons] at hn; simp only [mdel]; cases h:q == a.1 with
  | true=>exact ⟨hn.2,fun b hb=>List.mem_cons_of_mem _ hb⟩
  | false=>
   simp only [cond_false,List.map_cons,List.nodup_cons]; obtain ⟨i1,i2⟩:=ih hn.2; refine ⟨⟨fun hm => ?_,i1⟩,fun b hb => ?_⟩
   ·obtain ⟨b,hb,hb2⟩:=List.mem_map.1 hm; exact hn.1 (by rw [←hb2]; exact List.mem_map_of_mem (i2 b hb))
   ·rcases List.mem_cons.1 hb with rfl | hb
    ·exact List.mem_cons_self ..
    ·exact List.mem_cons_of_mem _ (i2 b hb)
theorem stepC_some {c:Option DCe} {e:DEv} (h:kdE e=1∨kdE e=2∨kdE e=3) : ∃x,stepC c e=some x:=by
 unfold stepC; rcases h with h | h | h
 ·rw [if_pos h]; exact ⟨_,rfl⟩
 ·rw [if_neg (by omega),if_pos h]; exact ⟨_,rfl⟩
 ·rw [if_neg (by omega),if_neg (by omega),if_pos h]; exact ⟨_,rfl⟩
theorem stepM_find {m:Cs} {e:DEv} (hn:(m.map (·.1)).Nodup) (hk:1≤kdE e∧kdE e≤4) (q:ByteArray):mfind q (stepM m e)=if keyE e=q then stepC (mfind q m) e else mfind q m:=by
 unfold stepM; by_cases h4:kdE e=4
 ·rw [if_pos h4,mfind_mdel hn]; by_cases e1:q=keyE e
  ·subst e1; rw [if_pos rfl,if_pos rfl]; unfold stepC; rw [if_neg (by omega),if_neg (by omega),if_neg (by omega)]
  ·rw [if_neg e1,if_neg (fun h=>e1 h.symm)]
 ·rw [if_neg h4,mfind_mput]; by_cases e1:q=keyE e
  ·subst e1; rw [if_pos rfl,if_pos rfl]; obtain ⟨x,hx⟩:=stepC_some (c:=mfind (keyE e) m) (e:=e) (by omega); rw [hx]; rfl
  ·rw [if_neg e1,if_neg (fun h=>e1 h.symm)]
theorem stepM_keys {m:Cs} {e:DEv} (hn:(m.map (·.1)).Nodup):((stepM m e).map (·.1)).Nodup:=by
 unfold stepM; split
 ·exact (mdel_keys hn).1
 ·exact mput_keys hn
def Gc (c:DCe):Prop:=(c.1=1∨c.1=2)∧Gf c.2.2.1∧c.2.1.length<1000
theorem stepC_good {c : Option DCe} {e : DEv} (hg : EvF e) (hc : ∀ x, c = some x → Gc x) : ∀ x, stepC c e = some x → Gc x := by
 intro x hx; obtain ⟨⟨k1,k2⟩,_,htx,hnum,_⟩:=hg; have hgn:Gf (nuE e):=by
  rcases hnum with h|⟨_,i,h0,h1,h⟩
  ·show Gf e.2.2.2.2.2.2.1; rw [h]; exact gf_zero
  ·show Gf e.2.2.2.2.2.2.1; rw [h]; exact gf_qtI h0 h1
 have htl:(txE e).length<1000:=by
  show e.2.2.2.2.2.1.length<1000; rcases htx with hx|⟨_,c,_,_,hx⟩ <;> rw [hx] <;> simp
 unfold stepC at hx; split at hx
 ·cases hx; exact ⟨.inl rfl,gf_zero,htl⟩
 ·split at hx
  ·cases hx; exact ⟨.inr rfl,hgn,by simp⟩
  ·split at hx
   ·cases hx; refine ⟨.inr rfl, ?_,by simp⟩; dsimp only; split
    ·rename_i h2; cases c with
     | none=>cases h2
     | some c=>exact (add_good (hc c rfl).2.1 hgn).2
    ·exact hgn
   ·cases hx
theorem cel_goodF {q:ByteArray} : ∀{l:List DEv} {c:Option DCe},(∀x,c=some x→Gc x)→(∀e∈l,EvF e) → ∀x,l.foldl (fun c e=>if keyE e=q then stepC c e else c) c=some x→Gc x:=by
 intro l; induction l with
 | nil=>intro c hc _ x hx; exact hc x hx
 | cons e l ih=>
  intro c hc hl x hx; rw [List.foldl_cons] at hx; refine ih ?_ (fun y hy=>hl y (List.mem_cons_of_mem _ hy)) x hx; split
  ·exact stepC_good (hl e (List.mem_cons_self ..)) hc
  ·exact hc
theorem cel_good {q:ByteArray} {l:List DEv} (h : ∀e∈l,EvF e) : ∀x,cel q l=some x→Gc x:=cel_goodF (fun _ h=>by cases h) h
end Go.IM.V
namespace Go.IM.V
open Go Go.IM Go.Proofs
theorem shr7 {n:Int} (h:0≤n):iShr .u64 n 7=n / 128:=by
 unfold iShr; show n.fdiv (2 ^ 7)=_; rw [Int.fdiv_eq_ediv_of_nonneg _ (by omega)]; rfl
theorem L73_run : ∀(d:Nat) (a:Int) (q:List Int),0≤a→a<128*128 ^ d→q.length+d<1000000 →
  ∃(a':Int) (q':List Int),L73_1 a q=some (((),a',()),(),(q',()))∧q'.length≤q.length+d:=by
 intro d; induction d with
 | zero=>
  intro a q h0 h1 hq; refine ⟨a,q, ?_,by omega⟩; rw [L73_1_eq]; unfold T73_1; rw [decide_eq_false (by omega)]; rfl
 | succ d ih=>
  intro a q h0 h1 hq; rw [L73_1_eq]; unfold T73_1; by_cases h:a≥128
  ·rw [decide_eq_true h,decide_eq_true (by rw [limE]; simp only [List.length_cons,List.length_nil]; omega)]
   simp only [cond_true,Option.bind_some,Sum.elim_inl]; rw [shr7 h0]; obtain ⟨a',q',e,hl'⟩:=ih (a / 128) (q ++ [(iOr .u8 (IntKind.wrap .u8 a) 128)]) (by omega) (by rw [Int.pow_succ] at h1; omega) (by simp; omega)
   refine ⟨a',q',e, ?_⟩; simp at hl'; omega
  ·rw [decide_eq_false h]; exact ⟨a,q,rfl,by omega⟩
theorem F73_tot (a:Int) (q:List Int) (h0:0≤a) (h1:a<18446744073709551616) (hq:q.length<900000) : ∃q',F73 a q=some (((),()),(),(q',()))∧q'.length≤q.length+10:=by
 obtain ⟨a',q',e,hl⟩:=L73_run 9 a q h0 (by omega) (by omega); refine ⟨q' ++ [IntKind.wrap .u8 a'], ?_,by simp; omega⟩
 unfold F73; rw [e]; simp only [Option.bind_some]; rw [decide_eq_true (by rw [limE]; simp only [List.length_cons,List.length_nil]; omega)]
 rfl
theorem F76_tot (a q:List Int) (h1:a.length<1000) (hq:q.length<900000) : ∃q',F76 a q=some (((),()),(),(q',()))∧q'.length≤q.length+1010:=by
 obtain ⟨q',e,hl⟩:=F73_tot (a.length:Int) q (by omega) (by omega) hq; refine ⟨q'++a, ?_,by simp; omega⟩
 unfold F76; rw [wu64 (by omega) (by omega),e]; simp only [Option.bind_some]; rw [decide_eq_true (by rw [limE]; omega)]
 rfl
theorem L74_run (a:Int) : ∀(k:Nat) (q:List Int),k≤8→q.length+k<900000 → ∃q',L74_2 a ((k:Int) - 1) q=some (((),()),(),(q',()))∧q'.length≤q.length+k:=by
 intro k; induction k with
 | zero=>
  intro q hk hq; refine ⟨q, ?_,by omega⟩; rw [L74_2_eq]; unfold T74_2; rw [decide_eq_false (by omega)]; rfl
 | succ k ih=>
  intro q hk hq; rw [L74_2_eq]; unfold T74_2; have e1:((k+1:Nat):Int) - 1=(k:Int):=by omega
  rw [e1,decide_eq_true (show (k:Int)≥0 by omega),decide_eq_true (by rw [wz (by omega) (by omega)]; omega),decide_eq_true (by rw [limE]; simp only [List.length_cons,List.length_nil]; omega)]
  simp only [cond_true,Option.bind_some,Sum.elim_inl]; rw [wz (n:=(k:Int) - 1) (by omega) (by omega)]; obtain ⟨q',e,hl⟩:=ih (q ++ [IntKind.wrap .u8 (iShr .u64 a (IntKind.wrap .i64 (8*(k:Int))))]) (by omega) (by simp; omega)
  exact ⟨q',e,by simp at hl; omega⟩
theorem F74_tot (a:Int) (q:List Int) (hq:q.length<800000) : ∃q',F74 a q=some (((),()),(),(q',()))∧q'.length≤q.length+8:=by
 obtain ⟨q',e,hl⟩:=L74_run a 8 q (by omega) (by omega); refine ⟨q', ?_,by omega⟩; unfold F74; rw [show L74_2 a 7 q=_ from e]; rfl
theorem F77_tot (a:Nat) : ∃x:Int,F77 a=some ((x,()),(),()):=by
 unfold F77 F103; simp only [Option.bind_some]; cases ((FloatKind.f64).format.order a a != some Ordering.eq)
 ·exact ⟨_,rfl⟩
 ·exact ⟨_,rfl⟩
theorem F55_tot (e:Ev) (h:EvG e) : ∃q,F55 e=some (((),()),(),(q,()))∧q.length<100000:=by
 obtain ⟨h1,h2,h3,h4,h5,h6,⟨k1,k2⟩,⟨c,c0,c1,hc⟩,htx,hnum,hsub⟩:=h; have hsz:(bytesL e.2.2.2.2.1).length<1000:=by rw [bytesL_len,hc,strL_size]; simp
 have htl:e.2.2.2.2.2.1.length<1000:=by
  rcases htx with hx|⟨_,c,_,_,hx⟩ <;> rw [hx] <;> simp
 unfold F55; rw [wu64 (n:=e.1) (by omega) (by omega)]; obtain ⟨q1,e1,l1⟩:=F73_tot e.1 [] (by omega) (by omega) (by simp); simp only [List.length_nil] at l1; rw [e1]; simp only [Option.bind_some]; obtain ⟨q2,e2,l2⟩:=F73_tot e.2.1 q1 (by omega) (by omega) (by omega); rw [e2]; simp only [Option.bind_some]; obtain ⟨q3,e3,l3⟩:=F73_tot e.2.2.1 q2 (by omega) (by omega) (by omega); rw [e3]; simp only [Option.bind_some]
 obtain ⟨q4,e4,l4⟩:=F76_tot (bytesL e.2.2.2.2.1) (q3 ++ [e.2.2.2.1]) hsz (by simp; omega)
 rw [decide_eq_true (show q3.length + [e.2.2.2.1].length<lim by rw [limE]; simp only [List.length_cons,List.length_nil]; omega),decide_eq_true (show e.2.2.2.1≥1 by omega),decide_eq_true (show e.2.2.2.1≤4 by omega),e4]
 simp only [cond_true,Option.bind_some]; simp only [List.length_append,List.length_cons,List.length_nil] at l4; obtain ⟨q5,e5,l5⟩:=F76_tot e.2.2.2.2.2.1 q4 htl (by omega); obtain ⟨x,ex⟩:=F77_tot e.2.2.2.2.2.2.1; obtain ⟨q6,e6,l6⟩:=F74_tot x q4 (by omega); generalize e.2.2.2.1=kd at *; have hk:kd=1∨kd=2∨kd=3∨kd=4:=by omega
 rcases hk with rfl | rfl | rfl | rfl
 ·simp only [show ((1:Int) == 1)=true from rfl,cond_true,cond_false,e5,Option.bind_some]; exact ⟨_,rfl,by omega⟩
 ·simp only [show ((2:Int) == 1)=false from rfl,show ((2:Int) == 2)=true from rfl,cond_true,cond_false,ex,e6,Option.bind_some]; exact ⟨_,rfl,by omega⟩
 ·simp only [show ((3:Int) == 1)=false from rfl,show ((3:Int) == 2)=false from rfl,show ((3:Int) == 3)=true from rfl,cond_true,cond_false,ex,e6,Option.bind_some]; exact ⟨_,rfl,by omega⟩
 ·simp only [show ((4:Int) == 1)=false from rfl,show ((4:Int) == 2)=false from rfl,show ((4:Int) == 3)=false from rfl,show ((4:Int) == 5)=false from rfl,cond_true,cond_false,Option.bind_some]; exact ⟨_,rfl,by omega⟩
structure EvH (e:Ev):Prop where
 g:EvG e
 w:e.1<64
 s:1≤e.2.1
 t:1≤e.2.2.1
theorem F51_eq (e:Ev) (h:EvH e):F51 e=some ((0,()),(),()):=by
 obtain ⟨⟨h1,h2,h3,h4,h5,h6,⟨k1,k2⟩,⟨c,c0,c1,hc⟩,htx,hnum,hsub⟩,hw,hs,ht⟩:=h; have hsz:e.2.2.2.2.1.size=1:=by rw [hc,strL_size]; rfl
 have htl:e.2.2.2.2.2.1.length≤1:=by
  rcases htx with hx|⟨_,c,_,_,hx⟩ <;> rw [hx] <;> simp
 have e5:(e.2.2.2.1 == 5)=false:=by simp; omega
 have s0:(e.2.1 == 0)=false:=by simp; omega
 have t0:(e.2.2.1 == 0)=false:=by simp; omega
 unfold F51 F89; rw [hsz]; simp only [decide_eq_true (show e.2.2.2.1≥1 by omega),decide_eq_true (show e.1≥0 by omega),decide_eq_true hw,cond_true,Option.bind_some,Bool.not_true,cond_false,s0,t0,decide_eq_false (show ¬e.2.2.2.1<1 by omega),decide_eq_false (show ¬e.2.2.2.1 > 6 by omega),e5,decide_eq_true (show e.2.2.2.1≤4 by omega),show (((1:Nat):Int) == 0)=false from rfl,show decide (((1:Nat):Int) > 64)=false from rfl,
  decide_eq_false (show ¬(((e.2.2.2.2.2.1.length:Nat):Int) > 1048576) by omega),decide_eq_false (show ¬(e.2.1 > 9223372036854775807) by omega),decide_eq_false (show ¬(e.2.2.1 > 9223372036854775807) by omega)]
 cases (e.2.2.2.1 == 1) <;> rfl
theorem L23_run (p:List Int) (J R:List Bool) (v:List Int) (t w:Int) (e:Ev) (ms:Cs) (hp:p.length<1000000) : ∀(d k:Nat) (mk:Int),k+d=p.length →
  ∃mk',L23_12 p ((p.length:Nat):Int) (k:Nat) J R v t w mk e.1 e.2.1 e.2.2.1 e.2.2.2.1 e.2.2.2.2.1 e.2.2.2.2.2.1 e.2.2.2.2.2.2.1 e.2.2.2.2.2.2.2.1 ms=some ((),(((),J,R,v,t,w,mk',()),(e.1,e.2.1,e.2.2.1,e.2.2.2.1,e.2.2.2.2.1,e.2.2.2.2.2.1,e.2.2.2.2.2.2.1,e.2.2.2.2.2.2.2.1,()),(ms,()),()),()):=by
 intro d; induction d with
 | zero=>
  intro k mk hk; rw [L23_12_eq]; unfold T23_12; rw [decide_eq_false (by omega)]; exact ⟨mk,rfl⟩
 | succ d ih=>
  intro k mk hk; rw [L23_12_eq]; unfold T23_12; rw [decide_eq_true (show (k:Int)<((p.length:Nat):Int) by omega),decide_eq_true (show 0≤(k:Int)∧(k:Int)<((p.length:Nat):Int) by omega)]; simp only [cond_true,Option.bind_some,Sum.elim_inl]; rw [show IntKind.wrap .i64 ((k:Int)+1)=((k+1:Nat):Int) by rw [wz (by omega) (by omega)]; rfl]
  exact ih (k+1) _ (by omega)
theorem F56k_val {a:List Int} (h:a.length<1000000):F56k a=some ((a,()),(),()):=by
 unfold F56k; rw [decide_eq_true (show a.length<lim by rw [limE]; omega)]; rfl
theorem F23_eq (e : Ev) (J R : List Bool) (v : List Int) (t w mk : Int) (ms : Cs) (h : EvH e) (hk : kl (t, (w, ())) (pl e) = true) (hv : v.length ≤ 64) (hs : e.2.1 = gv v e.1.toNat + 1) (hm : ∀ c, mfind (keyE e) ms = some c → Gc c) :
  ∃mk',F23 e J R v t w mk ms=some ((0,()),(((),J,R,withV v e.1.toNat e.2.1,e.2.2.1,e.1,mk',()),(stepM ms e,()),()),()):=by
 obtain ⟨q,hq,hql⟩:=F55_tot e h.g; have hg:=h.g; have hf:=hg.f; have hw0:=hg.w0; have hw:=h.w; have hw1:(e.1.toNat:Int)=e.1:=by omega
 have hgn:Gf (nuE e):=by
  obtain ⟨_,_,_,hnum,_⟩:=hf; rcases hnum with h|⟨_,i,h0,h1,h⟩
  ·show Gf e.2.2.2.2.2.2.1; rw [h]; exact gf_zero
  ·show Gf e.2.2.2.2.2.2.1; rw [h]; exact gf_qtI h0 h1
 have htl:(txE e).length<1000:=by
  obtain ⟨_,_,htx,_,_⟩:=hf; show e.2.2.2.2.2.1.length<1000; rcases htx with hx|⟨_,c,_,_,hx⟩ <;> rw [hx] <;> simp
 have h52:F52 e=some (((pl e),()),(),()):=rfl; have hcmp:F46 (pl e) (t,(w,()))=some ((cmpI (pl e) (t,(w,())),()),(),()):=F46_eq _ _; have hc0:decide (cmpI (pl e) (t,(w,()))≤0)=false:=by rw [cmp_le,hk]; rfl
 have h53:F53 v e.1=some (r1 (gv v e.1.toNat)):=by have:=F53_nat v e.1.toNat; rwa [hw1] at this
 have h54:F54 v e.1 e.2.1=some (r1 (withV v e.1.toNat e.2.1)):=by have:=F54_eq v e.1.toNat e.2.1 (by omega) hv; rwa [hw1] at this
 obtain ⟨mk',hL⟩:=L23_run q J R (withV v e.1.toNat e.2.1) e.2.2.1 e.1 e ms (by omega) q.length 0 mk (by omega); refine ⟨mk', ?_⟩; unfold F23; rw [F51_eq e h]; simp only [Option.bind_some,show ((0:Int) != 0)=false from rfl,cond_false]; rw [h52]; simp only [Option.bind_some]; rw [hcmp]; simp only [Option.bind_some,hc0,cond_false]; rw [h53]; simp only [Option.bind_some]; have hws:IntKind.wrap .u64 (gv v e.1.toNat+1)=e.2.1:=by rw [←hs]; exact wu64 hg.s0 (by have:=hg.s1; omega)
 have hne:(e.2.1 != IntKind.wrap .u64 (gv v e.1.toNat+1))=false:=by rw [hws]; simp
 rw [hne]; simp only [cond_false]; rw [h54]; simp only [Option.bind_some]; rw [hq]; simp only [Option.bind_some]; have hL':L23_12 q ((q.length:Nat):Int) 0 J R (withV v e.1.toNat e.2.1) (pl e).1 (pl e).2.1 mk e.1 e.2.1 e.2.2.1 e.2.2.2.1 e.2.2.2.2.1 e.2.2.2.2.2.1 e.2.2.2.2.2.2.1 e.2.2.2.2.2.2.2.1 ms=_:=hL
 rw [hL']; simp only [Option.bind_some]; have hk14:=hf.1; have hcase:kdE e=1∨kdE e=2∨kdE e=3∨kdE e=4:=by show e.2.2.2.1=1∨e.2.2.2.1=2∨e.2.2.2.1=3∨e.2.2.2.1=4; omega
 rcases hcase with hkd | hkd | hkd | hkd
 ·have hM:stepM ms e=mput (keyE e) (1,(txE e,(0,()))) ms:=by unfold stepM stepC; rw [if_neg (by omega),if_pos hkd]; rfl
  rw [hM,show e.2.2.2.1=1 from hkd,F56k_val (a:=e.2.2.2.2.2.1) (by have:e.2.2.2.2.2.1.length<1000:=htl; omega)]
  rfl
 ·have hM:stepM ms e=mput (keyE e) (2,([],(nuE e,()))) ms:=by unfold stepM stepC; rw [if_neg (by omega),if_neg (by omega),if_pos hkd]; rfl
  rw [hM,show e.2.2.2.1=2 from hkd,F57_eq (x:=e.2.2.2.2.2.2.1) hgn]; rfl
 ·have hM:stepM ms e=mput (keyE e) (2,([],((if ((mfind (keyE e) ms).getD cd0).1=2 then addF ((mfind (keyE e) ms).getD cd0).2.2.1 (nuE e) else nuE e),()))) ms:=by unfold stepM stepC; rw [if_neg (by omega),if_neg (by omega),if_neg (by omega),if_pos hkd]; rfl
  rw [hM,show e.2.2.2.1=3 from hkd,F57_eq (x:=e.2.2.2.2.2.2.1) hgn]; simp only [show ((3:Int) == 1)=false from rfl,show ((3:Int) == 2)=false from rfl,show ((3:Int) == 3)=true from rfl,cond_true,cond_false,Option.bind_some]; by_cases h2:((mfind (keyE e) ms).getD cd0).1=2
  ·rw [if_pos h2]; have hgc:Gf ((mfind (keyE e) ms).getD cd0).2.2.1:=by
    cases hq2:mfind (keyE e) ms with
    | none=>exact gf_zero
    | some c=>exact (hm c hq2).2.1
   have hb:(((mfind (keyE e) ms).getD cd0).1 == 2)=true:=by rw [h2]; rfl
   show (bif (((mfind (keyE e) ms).getD cd0).1 == 2) then _ else _)=_; rw [hb,cond_true]; show (F58 ((mfind (keyE e) ms).getD cd0).2.2.1 (nuE e)).bind _=_; rw [F58_eq hgc hgn]; rfl
  ·rw [if_neg h2]; have hb:(((mfind (keyE e) ms).getD cd0).1 == 2)=false:=by simpa using h2
   show (bif (((mfind (keyE e) ms).getD cd0).1 == 2) then _ else _)=_; rw [hb,cond_false]
 ·have hM:stepM ms e=mdel (keyE e) ms:=by unfold stepM; rw [if_pos hkd]
  rw [hM,show e.2.2.2.1=4 from hkd]; rfl
end Go.IM.V
namespace Go.IM.V
open Go Go.IM
variable {P:Program}
abbrev iClone (e:Ty):Tm := { sl := [(0,.mv 0)],bx := [[.ms e]] }
abbrev tClone (e:Ty):Tm := { sl := [(0,.mv 1)],bx := [[.ms e], [.ms e]] }
abbrev FClone {e:Ty} (l:List (ByteArray × e.El)):(tClone e).E:=(((),()),((l,()),(l,()),()),())
theorem castM_self {e:Ty} (l:List (ByteArray × e.El)):castM e e l=some l:=by unfold castM; rw [dif_pos rfl]
theorem clone_con [Orc P] {k:FuncId} {e:Ty} (hcal : ∀(m:M) (i:Nat) (es:Array MapEntry) (clock:Nat),m.mapOf i=some (es,clock)→m.newO (.map es clock)=some (m.nxt,m.mk1 (.map es clock))→Cal P k #[.map (some i)] m (.ret (.map (some m.nxt))) (m.mk1 (.map es clock))) :
  Con.OK P k ⟨iClone e,.ret (tClone e),fun x=>some (FClone x.2.1.1.1)⟩:=by
 intro x y hF S0 env m args hT hB hsl hn; cases hF; generalize hl:x.2.1.1.1=l; have hx:x=(((),()),((l,()),()),()):=by
  obtain ⟨⟨⟨⟩,⟨⟩⟩,⟨⟨l',⟨⟩⟩,⟨⟩⟩,⟨⟩⟩:=x; cases hl; rfl
 have hRel:Rel P S0 env m ⟨args, []⟩ ((iClone e).inst 0 x):=⟨hT,Nat.zero_le _,fun i=>accL_rep hsl i,trivial⟩; have hbx:((iClone e).inst 0 x).bx = [[.ms e l]]:=by rw [hx]; rfl
 have hms:MsOK P (((iClone e).inst 0 x).cx S0 env m) 0 e l:=by
  have:=hT.bx 0 [.ms e l] (by rw [hbx]; rfl)
  exact this
 obtain ⟨kb,es,clock,g1,g2,g3,g4,g5,g6⟩:=hms; have g1':m.alive (env.β 0)=some kb:=g1
 have hmo:m.mapOf (env.β 0)=some (es,clock):=by unfold M.mapOf; rw [g1']; dsimp only; rw [g2]
 have hargs:args = #[.map (some (env.β 0))]:=by
  obtain ⟨⟨_,i,h1,_,h3⟩,_⟩:=hsl; have hh:(((iClone e).inst 0 x).cx S0 env m).has 0=true:=by
   show hasOf ((iClone e).inst 0 x).bx 0=true; rw [hbx]; rfl
  have hii:i=env.β 0:=h3 hh; have hs1:args.size=1:=hn; have h1':args.getD 0 undef = .map (some i):=h1
  apply Array.ext
  ·exact hs1
  ·intro j hj hj2; have:j=0:=by omega
   subst this; rw [Array.getD_eq_getD_getElem?, Array.getElem?_eq_getElem hj] at h1'; rw [hii] at h1'; exact h1'
 obtain ⟨k0,k1,k2⟩:=hRel.newObj (cs := [.ms e l]) (o := .map es clock) rfl (fun Y hle hal hβ=>by
  refine ⟨_,es,clock,hal,rfl,rfl,rfl,hβ.symm,g6.mono hle.mono⟩)
 have hnb:((iClone e).inst 0 x).bx.length=1:=by rw [hbx]; rfl
 have hmat:(tClone e).mat (fun _ => .v (.s (.mv 1))) (newBox ((iClone e).inst 0 x) [.ms e l]).2 (iota 1)=some (FClone l,⟨[0,1], []⟩):=by
  have hb:(newBox ((iClone e).inst 0 x) [.ms e l]).2.bx = [[.ms e l], [.ms e l]]:=by show ((iClone e).inst 0 x).bx ++ [_]=_; rw [hbx]; rfl
  unfold Tm.mat; simp [slM,ptM,unV,pin,iota,bxM,ceM,hb,castM_self,nodupN,bfM]
  rfl
 have hrep:repV P ((newBox ((iClone e).inst 0 x) [.ms e l]).2.cx S0 (env.setβ ((iClone e).inst 0 x).bx.length m.nxt) (m.mk1 (.map es clock))) (.v (.s (.mv 1))) (.map (some m.nxt)):=by
  refine ⟨?_,m.nxt,rfl,Nat.lt_succ_self _,fun _ => ?_⟩
  ·show 1<(((iClone e).inst 0 x).bx ++ [_]).length; rw [hbx]; simp
  ·show m.nxt=(env.setβ _ m.nxt).β 1; rw [←hnb]; exact (setβ_new _ _ _).symm
 obtain ⟨hE,hs2⟩:=Ended.of_mat (av:=fun _ => .map (some m.nxt)) k2 k1.T (hnb:_=1) (fun p _=>hrep) hmat; subst hargs; exact ⟨.ret (.map (some m.nxt)),m.mk1 (.map es clock),_,hcal m _ es clock hmo k0,hE,.map (some m.nxt),rfl,hs2.1⟩
end Go.IM.V
namespace Go.IM.V
open Go Go.IM Go.Proofs
noncomputable def b65:Code:=(.seq (.region 0 (regOf Try.f65 0) false) (.seq (.seq (.region 1 (regOf Try.f65 1) false) (.cond (.tmp 4) (.seq (.region 2 (regOf Try.f65 2) false) .ret) .skip)) (.seq (.region 3 (regOf Try.f65 3) false) .ret)))
theorem body65:Try.f65.body=some b65:=by kernel_rfl
noncomputable def g65 (i:Nat) (m m1:M) (n:Nat):GR:=G Try.prog [(3,2,.op (.iface 107 (.map (some n))) m1)] [] 60 b65 (frame Try.f65 #[.map (some i)]) m
def gOb:GR→Prop
 | some (_,_,_,o)=>o
 | none=>False
def gIs (fn:Func) (P:Program) (v:Value) (m1:M):GR→Prop
 | some (e,a,m,_)=>e = .ret∧a.defers = []∧iresults P fn a.tmps m=some v∧m=m1
 | none=>False
theorem cal65 (m:M) (i:Nat) (es:Array MapEntry) (clock:Nat) (h:m.mapOf i=some (es,clock)) (hn:m.newO (.map es clock)=some (m.nxt,m.mk1 (.map es clock))) :
  Cal Try.prog 65 #[.map (some i)] m (.ret (.map (some m.nxt))) (m.mk1 (.map es clock)):=by
 have hX:iclone #[.iface 107 (.map (some i))] m=some (.val (.iface 107 (.map (some m.nxt))) (m.mk1 (.map es clock))):=by
  unfold iclone; dsimp only; rw [h]; dsimp only; rw [hn]
 have e1 : ∀(m1:M) (n:Nat),gOb (g65 i m m1 n)=(True∧((True∧True)∧((((iclone #[.iface 107 (.map (some i))] m=some (.val (.iface 107 (.map (some n))) m1))∧True)∧True)))):=fun m1 n=>by kernel_rfl
 have e3 : ∀(m1:M) (n:Nat),gIs Try.f65 Try.prog (.map (some n)) m1 (g65 i m m1 n)=(Out.ret=Out.ret∧([]:List Deferred) = []∧some (Value.map (some n))=some (.map (some n))∧m1=m1):=fun m1 n=>by kernel_rfl
 have o1:gOb (g65 i m (m.mk1 (.map es clock)) m.nxt):=by rw [e1]; exact ⟨trivial,⟨trivial,trivial⟩,⟨hX,trivial⟩,trivial⟩
 have o3:gIs Try.f65 Try.prog (.map (some m.nxt)) (m.mk1 (.map es clock)) (g65 i m (m.mk1 (.map es clock)) m.nxt):=by rw [e3]; exact ⟨rfl,rfl,rfl,rfl⟩
 cases hg:g65 i m (m.mk1 (.map es clock)) m.nxt with
 | none=>rw [hg] at o1; exact o1.elim
 | some r=>
  obtain ⟨e,a,m2,o⟩:=r; rw [hg] at o1 o3; obtain ⟨rfl,hd,hr,rfl⟩:=o3; exact Cal.ret (fun _=>rfl) Try.func65 body65 (G_sound 60 hg o1) (.inr rfl) hd hr
noncomputable def i65:Tm:=iClone (.p (.i .u8) (.p (.l (.i .u8)) (.p (.f .f64) .u)))
noncomputable def o65:OT := .ret (tClone (.p (.i .u8) (.p (.l (.i .u8)) (.p (.f .f64) .u))))
noncomputable def F65 (b0_0:List (ByteArray × DCe)):Option o65.E:=some (((),()),((b0_0,()),(b0_0,()),()),())
noncomputable def c65:Con:=⟨i65,o65,fun x=>F65 x.2.1.1.1⟩
theorem c65_ok:Con.OK Try.prog 65 c65:=clone_con cal65
end Go.IM.V