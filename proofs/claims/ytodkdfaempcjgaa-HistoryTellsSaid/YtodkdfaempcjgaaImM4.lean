/- An ideal machine, and a machine of values: part 4 of 5. Lemmas alone; no conditions. -/
import Derived.Test.YtodkdfaempcjgaaImM3
set_option linter.unusedVariables false
set_option linter.unusedSimpArgs false
set_option linter.constructorNameAsVariable false
namespace Go.IM.V
open Go Go.IM
variable {P:Program} {m m1:M} {S0:Nat→Prop} {env:Env} {a:Act} {vs:VS} {X:Cx}
theorem JvH {S:Nat→Prop} {k:IntKind} {xs:List Int} {c:Array Value} (h:Els P S m (.i k) xs c):c.toList=xs.map (Value.int k ·):=by
 have hs:c.size=xs.length:=by rw [h.1];simp [Ty.n]
 apply List.ext_getElem?
 intro q;rw [Jn,List.getElem?_map];by_cases hq:q<xs.length
 ·have:=h.2 q xs[q] (by simp [hq])
  simp only [Ty.n,Nat.mul_one] at this;have h2:(c.extract q (q+1)).toList[0]? = some (Value.int k xs[q]):=by
   have h3:(c.extract q (q+1)).toList = [Value.int k xs[q]]:=this;rw [h3];rfl
  rw [Jn,JA,Jf (by omega)] at h2;rw [Nat.add_zero] at h2;rw [h2];simp [hq]
 ·rw [Array.getElem?_eq_none (by omega),J1 (by omega)];rfl
theorem Jjl : ∀(xs:List Int),JbI (xs.map (Value.int .u8 ·))=some (xs.map fun n=>UInt8.ofNat n.toNat):=by
 intro xs;induction xs with
 | nil=>rfl
 | cons x xs ih=>simp only [List.map_cons,JbI];rw [ih];rfl
theorem JqX {s:Sl} {w:Value} (h:J8 P X s w):Ja3 P X (unV s) w:=by
 cases s with
 | v s=>exact h
 | t l=>trivial
theorem JkL {S1 S : Nat → Prop} {xs : List Int} {w : Value} (h : Jbu P S1 m (Ty.i .u8).n (QR P S m (.i .u8)) xs w) : QO w m = some (.string (Jke xs)) := by
 by_cases hx:xs = []
 ·subst hx;rcases h with ⟨rfl, _⟩ | ⟨i, o, sp, cap, rfl, _⟩
  ·rfl
  ·unfold QO;simp only [JD];cases hq : m.cells i o 0 with
   | none=>rfl
   | some cs=>
    have:cs = #[]:=by
     unfold M.cells at hq;split at hq
     ·split at hq
      ·cases hq;simp;omega
      ·cases hq
     ·cases hq
    subst this;rfl
 ·rcases h with ⟨_,h⟩|⟨i,o,sp,cap,rfl,hr⟩
  ·exact absurd h hx
  ·obtain ⟨_,_,c,e,h1,h2,h3,h4,h5⟩:=Jhn (ty := .i .u8) hx (.inr ⟨i,o,sp,cap,rfl,hr⟩);simp only [Ty.n,Nat.mul_one] at h4 h5;unfold QO;dsimp only;rw [h4];dsimp only;rw [JvH h5,Jjl];rfl
theorem JfZ (h : Rel P S0 env m a vs) {o : Oper} {src dst : TypeId} {hot : Bool} {x : Sl} {w : Value} (hx : J8 P (vs.cx S0 env m) x w) {g : Option Bool} {y : Sl} {vs1 : VS} (hv : JeB P src dst hot x vs = some (g, y, vs1)) (hg : ∀ b, g = some b → b = true) :
  ∃v m1 env1,Q9 P a.eval o src dst w m=some (.val v m1)∧Rel P S0 env1 m1 a vs1∧Stp (vs.cx S0 env m) (vs1.cx S0 env1 m1)∧J8 P (vs1.cx S0 env1 m1) y v:=by
 unfold JeB at hv;split at hv
 ·rename_i e s hs hd;split at hv
  ·rename_i hu;split at hv
   ·rename_i hc;simp only [Jg,Jm] at hv;obtain ⟨hgv,hv⟩:=hv;obtain ⟨rfl,_⟩:=hx;have hf':m.get m.nxt=none:=h.T.free m.nxt (Je _)
    have hnew:m.new (s.data.map fun (b:UInt8) => .int .u8 b.toNat) e=some (⟨m.nxt,0,none⟩,m.mk1 (.cells (s.data.map fun (b:UInt8) => .int .u8 b.toNat) e)):=by unfold M.new;rw [hf']
    have hels:Els P (vs.S S0 env) m (.i .u8) (XS s) (s.data.map fun (b:UInt8) => .int .u8 b.toNat):=by
     obtain ⟨c,h1,h2⟩:=Jfg (P:=P) h (ty := .i .u8) (x := .v (.s (.c (.string s)))) (ys:=XS s) (w := .string s) (by simp [Jna,Jbr]) ⟨rfl,rfl⟩;simp only [JjM,Ty.n,if_true,Jg,Jm] at h1;rw [h1.2];exact h2
    have hl:(XS s).length=s.size:=by simp [XS]
    obtain ⟨_,env1,k1,k2,k3⟩:=h.newB (hot:=hot) (ty := .i .u8) (by decide) (by rw [hc];rfl) hnew hels (fun q q2=>by
     rw [q] at hgv;have h9:=hg _ hgv.symm;have h10:0<s.size:=by simpa using h9
     rw [q2] at hl;simp at hl
     omega)
    have e1:y=(newB hot vs (.i .u8) (XS s)).1:=by rw [hv]
    have e2:vs1=(newB hot vs (.i .u8) (XS s)).2:=by rw [hv]
    subst e1;subst e2;rw [hl] at k3;refine ⟨_,_,_, ?_,k1,k2,k3⟩;unfold Q9;rw [hs,hd];dsimp only;rw [hu];dsimp only;rw [Jf hc];unfold Jav;rw [hnew];rfl
   ·cases hv
  ·cases hv
 ·rename_i e c hs hd;split at hv
  ·rename_i xs hu hxs;split at hv
   ·rename_i hc;cases hv;have hr:=Jda h.T hxs hx;refine ⟨.string (Jke xs),m,env, ?_,h,Stp.refl h.T.free,⟨rfl,rfl⟩⟩;have hi:=JkL hr;have hi':QO w m=some (.string (Jke xs)):=hi
    unfold Q9;rw [hs,hd];cases w <;> first | (simp [QO] at hi';done) | skip
    all_goals dsimp only;rw [hu];dsimp only;rw [hi'];rfl
   ·cases hv
  ·cases hv
 ·rename_i e0 e j hs hd;split at hv
  ·rename_i n hu hn;split at hv
   ·rename_i hsd;subst hsd;cases hv;have hxx:=hx;obtain ⟨b,hb,hw⟩:=hx;refine ⟨_,m,env, ?_,h,Stp.refl h.T.free,hxx⟩;have hb':vs.bf[j]? = some b:=hb
    unfold JsY at hn;rw [hb'] at hn;dsimp only at hn;cases hl:(b.live && !b.cap) with
    | false=>rw [hl] at hn;cases hn
    | true=>
     have hcap:b.cap=false:=by
      simp only [Jh,Bool.not_eq_true'] at hl;exact hl.2
     rw [hl] at hn;cases hn;have h0:=Qf (hg _ rfl);have hbf:=(h.T.bf j b hb).2;cases hτ:env.τ j with
     | none=>
      have h7:(vs.cx S0 env m).env.τ j=none:=hτ;rw [h7] at hbf;have:b.xs = []:=hbf hcap
      rw [this] at h0;simp at h0
     | some i=>
      have h7:(vs.cx S0 env m).env.τ j=some i:=hτ;rw [h7] at hbf;obtain ⟨_,k,c,e1,fr,h3,h4,_,h5,_⟩:=hbf;have h3:m.alive i=some k:=h3;have he:e0=e:=by rw [hs] at hd;cases hd;rfl
      subst he;rw [h7] at hw;have hv7:w = .slice (some ⟨i,0,none⟩) b.xs.length b.xs.length:=hw;rw [hv7];unfold Q9;rw [hs];dsimp only;rw [hu,h3,beq_self_eq_true];dsimp only;rw [h4];dsimp only;rw [Jd (by rw [h5];simp;intro q;rw [q] at h0;exact absurd h0 (by simp))]
   ·cases hv
  ·cases hv
 ·cases hv
theorem JmF (h : Rel P S0 env m a vs) {t : Option TypeId} {x : Sl} {w : Value} (hx : J8 P (vs.cx S0 env m) x w) {g : Option Bool} {y : Sl} {vs1 : VS} (hv : vlen P t x vs = some (g, y, vs1)) :
  vs1=vs ∧ ∃e b n c,t.bind P.underlying=some (.slice e)∧w = .slice b n c∧y = .v (.s (.c (.int .i64 (n:Nat)))):=by
 unfold vlen at hv;split at hv
 ·rename_i e hu;split at hv
  ·rename_i v;cases hn:XU v with
   | false=>rw [hn] at hv;cases hv
   | true=>
    rw [hn] at hv;cases hv;obtain ⟨rfl,_⟩:=hx;exact ⟨rfl,e,none,0,0,hu,Q7 hn,rfl⟩
  ·simp only [Ja] at hv;obtain ⟨n,hn,hv⟩:=hv;cases hv;obtain ⟨_,_,hw⟩:=hx;obtain ⟨h1,h2⟩:=hw n hn;refine ⟨rfl,e, ?_⟩;by_cases h0:n=0
   ·subst h0;rcases h1 rfl with q|⟨i,o,q⟩
    ·exact ⟨_,_,_,hu,q,rfl⟩
    ·exact ⟨_,_,_,hu,q,rfl⟩
   ·exact ⟨_,_,_,hu,h2 (by omega),rfl⟩
  ·rename_i e' j o n cp;simp only [Ja] at hv;obtain ⟨L,hn,hv⟩:=hv;cases hv;obtain ⟨_,_,hw⟩:=hx;obtain ⟨h1,h2,h3⟩:=hw L hn;refine ⟨rfl,e, ?_⟩;by_cases h0:L=0
   ·have:n=0:=by omega
    subst this;rcases h2 h0 with q|⟨i,o,q⟩
    ·exact ⟨_,_,_,hu,q,rfl⟩
    ·exact ⟨_,_,_,hu,q,rfl⟩
   ·obtain ⟨sp,cap,q,_⟩:=h3 (by omega);exact ⟨_,_,_,hu,q,rfl⟩
  ·rename_i e' j n;cases hh:JM vs.bx j with
   | false=>rw [hh] at hv;cases hv
   | true=>
    rw [hh] at hv;cases hv;exact ⟨rfl,e,_,_,_,hu,(hx.2.2 hh).1,rfl⟩
  ·split at hv
   ·rename_i e0 xs hl;cases hv;rcases Jb8 h.T (e:=e0) hl hx with ⟨rfl,rfl⟩|⟨i,o,sp,cap,rfl,_⟩
    ·exact ⟨rfl,e,none,0,0,hu,rfl,rfl⟩
    ·exact ⟨rfl,e,_,_,_,hu,rfl,rfl⟩
   ·cases hv
 ·cases hv
theorem Jct {x:Sl} {b:Bool} {w:Value} (h:JlS x=some b) (hx:J8 P X x w):(b=true∧w = .pointer none)∨(b=false ∧ ∃q,w = .pointer (some q)):=by
 unfold JlS at h;split at h
 ·cases h;exact .inl ⟨rfl,hx.1⟩
 ·cases h;obtain ⟨_,i,hw,_⟩:=hx;exact .inr ⟨rfl,_,hw⟩
 ·cases h
theorem Jgb {t : TypeId} {x y : Sl} {w u : Value} {b : Bool} (hx : J8 P X x w) (hy : J8 P X y u) (h : veqP P t x y = some b) : XP P t w u = some b := by
 unfold veqP at h;split at h
 ·rename_i q hu;split at h
  ·rename_i b' h1 h2;cases h;rcases Jct h1 hx with ⟨_,rfl⟩|⟨h3,_⟩
   ·rcases Jct h2 hy with ⟨rfl,rfl⟩|⟨rfl,q,rfl⟩
    ·unfold XP;rw [hu];rfl
    ·unfold XP;rw [hu];rfl
   ·cases h3
  ·rename_i b' h1 h2;cases h;rcases Jct h2 hy with ⟨_,rfl⟩|⟨h3,_⟩
   ·rcases Jct h1 hx with ⟨rfl,rfl⟩|⟨rfl,q,rfl⟩
    ·unfold XP;rw [hu];rfl
    ·unfold XP;rw [hu]
   ·cases h3
  ·cases h
 ·cases h
theorem Jks {t : TypeId} {k1 k2 : IntKind} {a1 a2 b1 b2 : Int} (h : JpB P t k1 k2 = true) :
  J4 P (Op.equal t (.agg #[.int k1 a1,.int k2 a2]) (.agg #[.int k1 b1,.int k2 b2]))=some ((a1 == b1) && (a2 == b2)):=by
 unfold JpB at h;split at h
 ·rename_i f g hu;split at h
  ·rename_i j1 j2 hf hg;simp only [Jh,bne_iff_ne,ne_eq,Bool.not_eq_true'] at h;obtain ⟨⟨⟨⟨⟨h1,h2⟩,h3⟩,h4⟩,h5⟩,h6⟩:=h;have h3:=Jr h3;have h4:=Jr h4;have hE : ∀(d:Nat) (t:TypeId) (k j:IntKind) (a b:Int),P.underlying t=some (.int j)→J4 P (Op.equalIn (d+1) t (.int k a) (.int k b))=some (a == b):=by
    intro d t k j a b ht;unfold Op.equalIn;simp [Qk,underlying,program,J4,ht,pure]
   have hP : ∀(t:TypeId) (j:IntKind) (cs:Array Value) (o:Nat) (v:Value),P.underlying t=some (.int j)→cs[o]? = some v→J4 P (part t cs o)=some v:=by
    intro t j cs o v ht hv;unfold part isAgg;simp [Qk,underlying,program,J4,ht,pure,hv]
   unfold Op.equal;show J4 P (Op.equalIn (9999+1) _ _ _)=_;unfold Op.equalIn;simp only [Qk,underlying,program,J4,hu,pure,Jb,h5];rw [show (9999:Nat)=9998+1 from rfl];simp [Qk,J4,pure,h1,h2,h3,h4,hP _ _ _ _ _ hf,hP _ _ _ _ _ hg,hE _ _ _ _ _ _ hf,hE _ _ _ _ _ _ hg]
   have hE' : ∀(a b:Int),J4 P (Op.equalIn 9999 g.type (.int k2 a) (.int k2 b))=some (a == b):=fun a b=>hE 9998 _ _ _ _ _ hg
   have hP' : ∀(v w:Value),J4 P (part g.type #[v,w] 1)=some w:=fun v w=>hP _ _ _ _ _ hg rfl
   by_cases e1:a1=b1
   ·by_cases e2:a2=b2
    ·simp [e1,e2,Qk,J4,hP',hE']
    ·simp [e1,e2,Qk,J4,hP',hE']
   ·simp [e1,J4]
  ·cases h
 ·cases h
theorem Jus {ev:Operand→Value} {o:Oper} {m:M} {t:TypeId} {x y:Operand} {ps} {k1 k2:IntKind} {a1 a2 b1 b2:Int} (h:JpB P t k1 k2=true)
  (hx:ev x = .agg #[.int k1 a1,.int k2 a2]) (hy:ev y = .agg #[.int k1 b1,.int k2 b2]) :
  (o.op = .binOp .eql t x y ps→iop P ev o m=some (.val (.bool ((a1 == b1) && (a2 == b2))) m)) ∧
  (o.op = .binOp .neq t x y ps→iop P ev o m=some (.val (.bool (!((a1 == b1) && (a2 == b2)))) m)):=by
 have hg:P.eqGuardType P.depth t=false:=by
  unfold JpB at h;split at h
  ·split at h
   ·simp only [Jh,Bool.not_eq_true'] at h;exact h.2
   ·cases h
  ·cases h
 have hn:XP P t (ev x) (ev y)=none:=by
  rw [hx,hy];unfold XP;cases P.underlying t with
  | none=>rfl
  | some q=>cases q <;> rfl
 have he:=Jks h (a1:=a1) (a2:=a2) (b1:=b1) (b2:=b2)
 constructor
 ·intro ho;have hf:XW ev o=true:=by unfold XW;rw [ho];simp [Op.operands,hx,hy,flat,one]
  unfold iop;rw [ho];dsimp only;rw [hn];dsimp only;unfold QT;rw [Jf hf];have:J4 P (execOp ev o)=some (.value (.bool ((a1 == b1) && (a2 == b2)))):=by
   unfold execOp;rw [ho];simp [Qk,hx,hy,eqGuard,binOp,program,J4,pure,hg,he]
  rw [this];rfl
 ·intro ho;have hf:XW ev o=true:=by unfold XW;rw [ho];simp [Op.operands,hx,hy,flat,one]
  unfold iop;rw [ho];dsimp only;rw [hn];dsimp only;unfold QT;rw [Jf hf];have:J4 P (execOp ev o)=some (.value (.bool (!((a1 == b1) && (a2 == b2))))):=by
   unfold execOp;rw [ho];simp [Qk,hx,hy,eqGuard,binOp,program,J4,pure,hg,he]
  rw [this];rfl
theorem Jut {ev:Operand→Value} {o:Oper} {m:M} {t:TypeId} {x y:Operand} {ps} {a b:ByteArray} (ho:o.op = .binOp .add t x y ps) (hx:ev x = .string a) (hy:ev y = .string b) (h:a.size+b.size≤9223372036854775807) :
  iop P ev o m=some (.val (.string (a++b)) m):=by
 unfold iop;rw [ho];dsimp only;unfold QT XW;rw [ho];have : ¬(((a.size+b.size:Nat):Int) > IntKind.i64.max):=by show ¬(((a.size+b.size:Nat):Int) > 9223372036854775807);omega
 simp [Op.operands,hx,hy,flat,one,execOp,ho,binOp,Op.stringOp,eqGuard]
 rw [Jd (by simpa using this)];rfl
theorem Juq {ev:Operand→Value} {o:Oper} {m:M} {t:TypeId} {x y:Operand} {ps} {k:IntKind} {a b:Int} (ho:o.op = .binOp .quo t x y ps) (hx:ev x = .int k a) (hy:ev y = .int k b) (h:b≠0) :
  iop P ev o m=some (.val (.int k (k.wrap (a.tdiv b))) m):=by
 unfold iop;rw [ho];dsimp only;unfold QT XW;rw [ho];simp [Op.operands,hx,hy,flat,one,execOp,ho,binOp,Op.intDiv,eqGuard,h]
 rfl
theorem JrQ {ev:Operand→Value} {o:Oper} {m:M} {t:TypeId} {x y:Operand} {ps} {k:FloatKind} {a b r:Nat} (ho:o.op = .binOp .quo t x y ps) (hx:ev x = .float k a) (hy:ev y = .float k b) (h:k.format.div a b=some r) :
  iop P ev o m=some (.val (.float k r) m):=by
 unfold iop;rw [ho];dsimp only;unfold QT XW;rw [ho];simp [Op.operands,hx,hy,flat,one,execOp,ho,binOp,Op.floatArith,eqGuard,h]
 rfl
theorem JrR {ev:Operand→Value} {o:Oper} {m:M} {t:TypeId} {x y:Operand} {ps} {k:FloatKind} {a b r:Nat} (ho:o.op = .binOp .add t x y ps) (hx:ev x = .float k a) (hy:ev y = .float k b) (h:k.format.add a b=some r) :
  iop P ev o m=some (.val (.float k r) m):=by
 unfold iop;rw [ho];dsimp only;unfold QT XW;rw [ho];simp [Op.operands,hx,hy,flat,one,execOp,ho,binOp,Op.floatArith,eqGuard,h]
 rfl
theorem JrP {ev:Operand→Value} {o:Oper} {m:M} {t:TypeId} {x y:Operand} {ps} {k:FloatKind} {a b r:Nat} (ho:o.op = .binOp .sub t x y ps) (hx:ev x = .float k a) (hy:ev y = .float k b) (h:k.format.sub a b=some r) :
  iop P ev o m=some (.val (.float k r) m):=by
 unfold iop;rw [ho];dsimp only;unfold QT XW;rw [ho];simp [Op.operands,hx,hy,flat,one,execOp,ho,binOp,Op.floatArith,eqGuard,h]
 rfl
theorem Jup {ev:Operand→Value} {o:Oper} {m:M} {t:TypeId} {x y:Operand} {ps} {k:IntKind} {a b:Int} (ho:o.op = .binOp .rem t x y ps) (hx:ev x = .int k a) (hy:ev y = .int k b) (h:b≠0) :
  iop P ev o m=some (.val (.int k (a.tmod b)) m):=by
 unfold iop;rw [ho];dsimp only;unfold QT XW;rw [ho];simp [Op.operands,hx,hy,flat,one,execOp,ho,binOp,Op.intDiv,eqGuard,h]
 rfl
theorem JsO {X:Cx} {k1 k2:IntKind} {a1 a2:Int} {w:Value} (h:J8 P X (.v (.a [.c (.int k1 a1),.c (.int k2 a2)])) w):w = .agg #[.int k1 a1,.int k2 a2]:=by
 obtain ⟨⟨l⟩,rfl,h2⟩:=h
 match l,h2 with
 | [u,v],h2=>
  obtain ⟨⟨rfl,_⟩,⟨rfl,_⟩,_⟩:=h2;rfl
theorem Jcm {t:TypeId} {x y:Operand} {ev:Operand→Value} {sx sy:Sl} {b:Bool} (hx:J8 P X sx (ev x)) (hy:J8 P X sy (ev y)) (h:veqS P t sx sy=some b) {o:Oper} {m:M} {ps} :
  (o.op = .binOp .eql t x y ps→iop P ev o m=some (.val (.bool b) m))∧(o.op = .binOp .neq t x y ps→iop P ev o m=some (.val (.bool (!b)) m)):=by
 unfold veqS at h;split at h
 ·split at h
  ·rename_i hc;obtain ⟨rfl,rfl,hc⟩:=hc;cases h;exact Jus hc (JsO hx) (JsO hy)
  ·cases h
 ·cases h
theorem Jj2 (h : Rel P S0 env m a vs) {place : Nat → Option (Nat × Nat)} : ∀ {l : List (Nat × Operand)} {cs cs' : List Cl} {c : Array Value}, JqU place vs.ev cs l = some cs' → Qa P (vs.cx S0 env m) cs c.toList →
  ∃c',Instr.fill place c (l.map fun (p:Nat × Operand)=>(p.1,a.eval p.2))=some c'∧Qa P (vs.cx S0 env m) cs' c'.toList:=by
 intro l;induction l with
 | nil=>intro cs cs' c hv hr;cases hv;exact ⟨c,rfl,hr⟩
 | cons p l ih=>
  intro cs cs' c hv hr;obtain ⟨i,x⟩:=p;simp only [JqU] at hv;split at hv
  ·rename_i off size ns hp hns;split at hv
   ·rename_i hc;have hx:=JqX (QE h x);obtain ⟨h1,h2⟩:=XD hns hx hc.2.2;have hl:cs.length=c.size:=(Qe hr).trans Jq;have hnl:ns.length=(a.eval x).cells.size:=(Qe h1).trans Jq;obtain ⟨c',h3,h4⟩:=ih (c:=wr c off (a.eval x).cells.toList) hv (JhC hr h1 hc.2.1);refine ⟨c', ?_,h4⟩;simp only [List.map_cons]
    unfold Instr.fill;dsimp only;rw [hp];dsimp only;rw [Jd (by simp;omega),Jn5]
    exact h3
   ·cases hv
  ·cases hv
theorem Jix (h : Rel P S0 env m a vs) {t : TypeId} {parts : Array (Nat × Operand)} {g : Option Bool} {x : Sl} {vs1 : VS} (hv : Jon P t parts.toList vs = some (g, x, vs1)) :
  vs1=vs ∧ ∃z v,QI P t=some z∧J4 P (Instr.build t (parts.map fun (p:Nat × Operand)=>(p.1,a.eval p.2)))=some v∧J8 P (vs.cx S0 env m) x v:=by
 unfold Jon at hv;split at hv
 ·rename_i z fields hz hu;split at hv
  ·rename_i places hp;split at hv
   ·rename_i hone;simp only [Ja] at hv;obtain ⟨cs, h1, h2⟩ := hv;cases h2;have hrep : Qa P (vs.cx S0 env m) (z.cells.toList.map .c) z.cells.toList := by
     rw [Array.all_eq_true'] at hone;have : ∀l:List Value,(∀v∈l,okc v=true)→Qa P (vs.cx S0 env m) (l.map .c) l:=by
      intro l;induction l with
      | nil=>intro _;trivial
      | cons v l ih=>intro h;exact ⟨⟨rfl,h v (by simp)⟩,ih fun w hw=>h w (by simp [hw])⟩
     exact this _ fun v hv=>hone v (by simpa using hv)
    obtain ⟨c',h3,h4⟩:=Jj2 h h1 hrep;refine ⟨rfl,z,.agg c',hz, ?_,c',rfl,h4⟩;have hzp:J4 P (zeroValue t)=some z:=by
     unfold QI at hz;split at hz
     ·rename_i i hi;split at hz
      ·rename_i z' hz';split at hz
       ·cases hz;simp [zeroValue,typeInfo,Qk,program,J4,hi,hz',pure]
       ·cases hz
      ·cases hz
     ·cases hz
    unfold Instr.build;simp only [Qk,hzp,Jb,hu];have hp':J4 P (fields.mapM fun f=>do pure (f.offset,←sizeOf f.type))=some places:=hp
    rw [hp'];simp only [Jb];have h5:Instr.fill (places[·]?) z.cells (parts.map fun (p:Nat × Operand)=>(p.1,a.eval p.2)).toList=some c':=by rw [Array.toList_map];exact h3
    rw [h5];rfl
   ·cases hv
  ·cases hv
 ·cases hv
theorem Jd5 (h : Rel P S0 env m a vs) (hbar : ∀ i, Wb (vs.cx S0 env m) i → m.bar ≤ i) {t e : TypeId} {ty : Ty} {ti : TypeInfo} {j o n : Nat} {x : Sl} {wx : Value} {b : Option Addr} {cap : Nat} (hu : P.underlying t = some (.slice e)) (hti : P.info? e = some ti) (hsz : ti.size = ty.n) (hn : 0 < ty.n)
  (hx:J8 P (vs.cx S0 env m) x wx) {own:Bool} {xs:List ty.El} (hj:vs.bx[j]? = some [.r own ty xs]) (hfit:o+n≤xs.length) (hb:xs ≠ [] → ∃sp,b=some ⟨env.β j,o*ty.n,sp⟩) {ys:List ty.El} (hys:Jna vs ty x=some ys) :
  ∃v m1,Jfx P t (.slice b n cap) wx m=some (v,m1)∧Rel P S0 env m1 a { vs with bx:=QC vs.bx j [.r own ty (xs.take o++ys.take (min n ys.length)++xs.drop (o+min n ys.length))] } ∧
   Stp (vs.cx S0 env m) (({ vs with bx:=QC vs.bx j [.r own ty (xs.take o++ys.take (min n ys.length)++xs.drop (o+min n ys.length))] }:VS).cx S0 env m1)∧v = .int .i64 ((min n ys.length:Nat):Int):=by
 obtain ⟨cs,hnews,hels⟩:=Jfg h hys hx;have hcl:Jci wx=some ys.length:=by
  unfold JjM at hnews;split at hnews
  ·simp only [Jg,Jm] at hnews;rw [←hnews.1];rfl
  ·split at hnews
   ·simp only [Jg,Jm] at hnews;rw [←hnews.1];rfl
   ·simp only [Ja,Jm] at hnews;obtain ⟨_,_,h1,_⟩:=hnews;rw [←h1];rfl
  ·split at hnews
   ·simp only [Jg,Jm] at hnews;rw [←hnews.1];rfl
   ·cases hnews
  ·cases hnews
 generalize hk:min n ys.length=k;have hkn:k≤n:=by omega
 have hky:k≤ys.length:=by omega
 have hcc : ∃ ds, XR ti.size k m wx = some ds ∧ Els P (vs.S S0 env) m ty (ys.take k) ds := by
  have hsub : ∀ {ds : Array Value}, ds = cs.extract 0 (k * ty.n) → Els P (vs.S S0 env) m ty (ys.take k) ds := by
   intro ds hds;subst hds;refine ⟨?_,fun q y hq => ?_⟩
   ·rw [Array.size_extract,hels.1,JE,Nat.min_eq_left hky];have:k*ty.n≤ys.length*ty.n:=Jw _ hky
    omega
   ·rw [List.getElem?_take] at hq;split at hq
    ·rename_i hqk;have:=hels.2 q y hq
     have hmul:q*ty.n+ty.n≤k*ty.n:=by
      have:(q+1)*ty.n≤k*ty.n:=Jw _ hqk
      rw [JQ,Nat.one_mul] at this;exact this
     rw [Array.extract_extract,JG,JG,Nat.min_eq_left hmul];exact this
    ·cases hq
  by_cases hk0:k*ti.size=0
  ·have hkz : k = 0 := by
    rcases Nat.mul_eq_zero.1 hk0 with q | q
    ·exact q
    ·omega
   subst hkz;refine ⟨#[], ?_, ?_⟩
   ·unfold JjM at hnews;unfold XR;split at hnews
    ·rfl
    ·dsimp only;rw [Jf hk0]
    ·rename_i s;split at hnews
     ·rename_i h1;dsimp only;rw [Jf (by rw [hsz];exact h1)]
      simp
     ·cases hnews
    ·cases hnews
   ·simpa using Els.nil (P:=P) (S:=vs.S S0 env) (m:=m) (ty:=ty)
  ·unfold JjM at hnews;unfold XR;split at hnews
   ·simp only [Jg,Jm] at hnews
    exfalso;apply hk0;rw [show k=0 by omega];simp
   ·rename_i i o' sp q cp;dsimp only;rw [Jd hk0];split at hnews
    ·rename_i hz;simp only [Jg,Jm] at hnews;rcases Nat.mul_eq_zero.1 hz with q1 | q1
     ·exfalso;apply hk0;rw [show k=0 by omega];simp
     ·omega
    ·simp only [Ja,Jm] at hnews;obtain ⟨cs2,h1,h2,rfl⟩:=hnews;have hcells:=h1;unfold M.cells at hcells ⊢;split at hcells
     ·rename_i c e' hrow;split at hcells
      ·rename_i hfit2;cases hcells;have hle:k*ti.size≤q*ty.n:=by rw [hsz,h2];exact Jw _ hky
       rw [Jf (by omega)];refine ⟨_,rfl,hsub ?_⟩;rw [Array.extract_extract,Nat.add_zero,hsz,Nat.min_eq_left (by rw [hsz] at hle;omega)]
      ·cases hcells
     ·cases hcells
   ·rename_i s;split at hnews
    ·rename_i h1;dsimp only;rw [Jf (by rw [hsz];exact h1)]
     simp only [Jg,Jm] at hnews;obtain ⟨h2,rfl⟩:=hnews;refine ⟨_,rfl,hsub ?_⟩;rw [h1,Nat.mul_one];apply Array.ext'
     simp
    ·cases hnews
   ·cases hnews
 obtain ⟨ds,hds,hels2⟩:=hcc;have hones:=hels2.all_one hn;have hlen2:(ys.take k).length=k:=by rw [JE];omega
 have hic : ∀r,(if k=0 then some (Value.int .i64 0,m) else match b with | some ⟨i,o,_⟩=>(m.store i o ds.toList).map (Value.int .i64 ((k:Nat):Int), ·) | _=>none)=some r→Jfx P t (.slice b n cap) wx m=some r:=by
  intro r hr;unfold Jfx;rw [hu];dsimp only;rw [hti,hcl];dsimp only;rw [show min ys.length n=k by omega,hds];dsimp only;exact hr
 by_cases hk0:k=0
 ·have hnew : xs.take o ++ ys.take k ++ xs.drop (o + k) = xs := by rw [hk0];simp
  rw [hnew];have hsame:({ vs with bx:=QC vs.bx j [.r own ty xs] }:VS)=vs:=by
   have : ∀(l:List (List Cl)) (j:Nat) (c:List Cl),l[j]? = some c→QC l j c=l:=by
    intro l;induction l with
    | nil=>intro j c hc;rfl
    | cons d l ih=>intro j c hc;cases j with
     | zero=>cases hc;rfl
     | succ j=>simp only [QC];rw [ih j c (by simpa using hc)]
   rw [this _ _ _ hj]
  rw [hsame];exact ⟨_,m,hic _ (by rw [Jf hk0]),h,Stp.refl h.T.free,by rw [hk0];rfl⟩
 ·have hne : xs ≠ [] := fun q => by rw [q] at hfit;simp at hfit;omega
  obtain ⟨sp,rfl⟩:=hb hne;have hhas:=Ja9 h hj (QG hne);obtain ⟨⟨hpos,hR⟩,_⟩:=h.T.bx j _ hj;obtain ⟨kb,c,eo,fr,g1,g2,g3,g4,g5,g6,g7,g8,⟨rb,g9,g10⟩,g11⟩:=hR hne;have hal:m.alive (env.β j)=some kb:=g1;have hdl:ds.toList.length=k*ty.n:=by rw [Jq,hels2.1,hlen2]
  have hfit2:o*ty.n+ds.toList.length≤c.size:=by
   rw [hdl,g7,←Nat.add_mul];exact Jw _ (by omega)
  have hlen:(xs.take o++ys.take k++xs.drop (o+k)).length=xs.length:=by
   simp only [Jz,JE,JI];omega
  have hnew : Els P (vs.S S0 env) m ty (xs.take o ++ ys.take k ++ xs.drop (o + k)) (wr c (o * ty.n) ds.toList) := by
   refine ⟨by rw [Qz,hlen];exact g7,fun q y hq => ?_⟩
   have hto:(xs.take o).length=o:=by rw [JE];omega
   by_cases q1:q<o
   ·rw [JF (by rw [Jz,hto];omega),JF (by omega),List.getElem?_take,Jf q1] at hq
    rw [JaV hfit2 (.inl (by
     have:(q+1)*ty.n≤o*ty.n:=Jw _ q1
     rw [JQ,Nat.one_mul] at this;exact this))]
    exact g8 q y hq
   ·by_cases q2 : q < o + k
    ·rw [JF (by rw [Jz,hto,hlen2];omega),JN (by omega),hto] at hq
     have:=hels2.2 (q - o) y hq
     have e1:q*ty.n=o*ty.n+(q - o)*ty.n:=by rw [←Nat.add_mul];congr 1;omega
     have hmul:(q - o)*ty.n+ty.n≤k*ty.n:=by
      have:(q - o+1)*ty.n≤k*ty.n:=Jw _ (by omega)
      rw [JQ,Nat.one_mul] at this;exact this
     have:((wr c (o*ty.n) ds.toList).extract (q*ty.n) (q*ty.n+ty.n)).toList=(ds.extract ((q - o)*ty.n) ((q - o)*ty.n+ty.n)).toList:=by
      apply List.ext_getElem?
      intro r;rw [Jn,Jn,JA,JA,Qz,Jc3 _ _ _ _ hfit2];have hds2:ds.size=k*ty.n:=by rw [←Array.length_toList];exact hdl
      have hA:q*ty.n+ty.n≤c.size:=by omega
      by_cases q3:r<ty.n
      ·rw [Jf (by omega),Jd (by omega),Jf (by rw [hdl];omega),Jf (by rw [hds2];omega),Jn]
       congr 1;omega
      ·rw [Jd (by omega),Jd (by omega)]
     rw [this]
     assumption
    ·rw [JN (by rw [Jz,hto,hlen2];omega),List.getElem?_drop,Jz,hto,hlen2] at hq
     rw [JaV hfit2 (.inr (by
      rw [hdl,←Nat.add_mul];exact Jw _ (by omega)))]
     refine g8 q y ?_;rw [←hq];congr 1;omega
  obtain ⟨hR2,hS2⟩:=h.storeRun (o:=some own) hj hne hlen hal g2 hnew;have hbr:m.bar≤kb.root:=by
   rcases g11 _ rb g9 g10 with q|⟨q,_⟩
   ·rw [q];exact hbar _ (.inl ⟨j,Jx hj,hhas,rfl⟩)
   ·exact hbar _ (.inr q)
  refine ⟨_,_,hic (.int .i64 ((k:Nat):Int),m.put (env.β j) kb (.cells (wr c (o*ty.n) ds.toList) eo fr)) ?_,hR2,hS2,rfl⟩;rw [Jd hk0];dsimp only;unfold M.store;rw [hal];dsimp only;rw [g2];dsimp only;rw [Jf ⟨g3,g4,hfit2,by rw [←Array.all_toList] at hones;exact hones,hbar _ (.inl ⟨j,Jx hj,hhas,rfl⟩),hbr⟩]
  rfl
theorem Jj6 (h : Rel P S0 env m a vs) (hbar : ∀ i, Wb (vs.cx S0 env m) i → m.bar ≤ i) {t : TypeId} {s x : Sl} {ws wx : Value} (hs : J8 P (vs.cx S0 env m) s ws) (hx : J8 P (vs.cx S0 env m) x wx) {g : Option Bool} {y : Sl} {vs1 : VS} (hv : JtO P t s x vs = some (g, y, vs1)) (hg : Jbt g) :
  ∃v m1,Jfx P t ws wx m=some (v,m1)∧Rel P S0 env m1 a vs1∧Stp (vs.cx S0 env m) (vs1.cx S0 env m1)∧J8 P (vs1.cx S0 env m1) y v:=by
 unfold JtO at hv;split at hv
 ·rename_i e ty e0 j hel;obtain ⟨hu, hn, hce, ti, hti, hsz, hby⟩ := Xk hel;split at hv
  ·rename_i he;subst he;split at hv
   ·rename_i n hlen;unfold Jlq at hv;split at hv
    ·rename_i own e1 xs hj;split at hv
     ·rename_i xs' ys hc hys;obtain ⟨hc1,hc2⟩:=Ja0 hc;subst hc1;subst hc2;simp only [Jg,Jm] at hv;obtain ⟨rfl,rfl,rfl⟩:=hv;have hnl:n=xs.length:=by
       have:=QN hj
       rw [hlen] at this;cases this;rfl
      obtain ⟨g1,g2⟩:=JcR (e':=e1) h.T hj hs;have hws : ∃b cap,ws = .slice b n cap∧(xs ≠ [] → ∃sp,b=some ⟨env.β j,0*e1.n,sp⟩):=by
       by_cases hx0:xs = []
       ·have hn0:n=0:=by rw [hnl,hx0];rfl
        rw [hn0];rcases g1 hx0 with q|⟨i,o,q⟩
        ·exact ⟨_,_,q,fun w=>absurd hx0 w⟩
        ·exact ⟨_,_,q,fun w=>absurd hx0 w⟩
       ·exact ⟨_,_,by rw [hnl];exact g2 hx0,fun _=>⟨none,by rw [Nat.zero_mul];rfl⟩⟩
      obtain ⟨b,cap,rfl,hb⟩:=hws;obtain ⟨v,m1,k1,k2,k3,rfl⟩:=Jd5 (o:=0) (n:=n) (cap:=cap) h hbar hu hti hsz hn hx hj (by omega) hb hys;exact ⟨_,m1,k1,k2,k3,rfl,rfl⟩
     ·cases hv
    ·cases hv
   ·cases hv
  ·cases hv
 ·rename_i e ty e0 j o n cp hel;obtain ⟨hu, hn, hce, ti, hti, hsz, hby⟩ := Xk hel;split at hv
  ·rename_i he;subst he;unfold Jlq at hv;split at hv
   ·rename_i own e1 xs hj;split at hv
    ·rename_i xs' ys hc hys;obtain ⟨hc1,hc2⟩:=Ja0 hc;subst hc1;subst hc2;simp only [Jg,Jm] at hv;obtain ⟨rfl,rfl,rfl⟩:=hv;have hL:(vs.cx S0 env m).len j=some xs.length:=QN hj;obtain ⟨_,_,hw⟩:=hs;obtain ⟨q1,q2,q3⟩:=hw _ hL;have hws : ∃b cap,ws = .slice b n cap∧(xs ≠ [] → ∃sp,b=some ⟨env.β j,o*e1.n,sp⟩):=by
      by_cases hx0:xs = []
      ·have hl0:xs.length=0:=by rw [hx0];rfl
       have hn0:n=0:=by omega
       rw [hn0];rcases q2 hl0 with q|⟨i,o,q⟩
       ·exact ⟨_,_,q,fun w=>absurd hx0 w⟩
       ·exact ⟨_,_,q,fun w=>absurd hx0 w⟩
      ·obtain ⟨sp,cap,q,_⟩:=q3 (JR.2 hx0);exact ⟨_,_,q,fun _=>⟨sp,rfl⟩⟩
     obtain ⟨b,cap,rfl,hb⟩:=hws;obtain ⟨v,m1,k1,k2,k3,rfl⟩:=Jd5 (cap:=cap) h hbar hu hti hsz hn hx hj q1 hb hys;exact ⟨_,m1,k1,k2,k3,rfl,rfl⟩
    ·cases hv
   ·cases hv
  ·cases hv
 ·cases hv
theorem JdL {X:Cx} {c:Cl} {w:Value} : ∀{cs:List Cl} {l:List Value} {i:Nat},Qa P X cs l→l[i]? = some w→Jap P X c w→Qa P X (QC cs i c) l:=by
 intro cs;induction cs with
 | nil=>intro l i h _ _;exact h
 | cons d cs ih=>
  intro l i h hw hc;cases l with
  | nil=>exact h.elim
  | cons u l=>cases i with
   | zero=>cases hw;exact ⟨hc,h.2⟩
   | succ i=>exact ⟨h.1,ih h.2 hw hc⟩
theorem Jsn {d:Cl} (hd:Qh d=false) : ∀{cs:List Cl} {i:Nat},cs.any Qh=false→(QC cs i d).any Qh=false:=by
 intro cs;induction cs with
 | nil=>intro i h;rfl
 | cons c cs ih=>
  intro i h;rw [List.any_cons,JP] at h;cases i with
  | zero=>show (d::cs).any Qh=false;rw [List.any_cons,hd,h.2];rfl
  | succ i=>show (c::QC cs i d).any Qh=false;rw [List.any_cons,h.1,ih h.2];rfl
theorem JcQ {cs : List Cl} {i : Nat} {d : Cl} (hd : J9 [d] = false) (h : J9 cs = false) : J9 (QC cs i d) = false := by
 have hs:Qh d=false:=by have:=JqK hd;rw [List.any_cons,JP] at this;exact this.1
 have hc:=Jsn hs (i:=i) (JqK h);cases cs with
 | nil=>rfl
 | cons a cs=>cases cs with
  | nil=>cases i with
   | zero=>exact hd
   | succ i=>exact h
  | cons b cs=>cases i with
   | zero=>exact (JbO _ _ _).1.trans hc
   | succ i=>cases i with
    | zero=>exact (JbO _ _ _).1.trans hc
    | succ i=>exact (JbO _ _ _).1.trans hc
theorem JkB (h : Rel P S0 env m a vs) (j off : Nat) : Rel P S0 env m a (Jm3 vs j off) ∧ Stp (vs.cx S0 env m) ((Jm3 vs j off).cx S0 env m) := by
 unfold Jm3;split
 ·rename_i cs hj;split
  ·rename_i e q hc;split
   ·rename_i L hL;cases hrun:J9 cs with
    | true=>exact ⟨h,Stp.refl h.T.free⟩
    | false=>
     have hns:J9 (QC cs off (.w e q 0 L false))=false:=JcQ rfl hrun;refine h.setBox (ns:=QC cs off (.w e q 0 L false)) hj (Qs hrun) ((Qs hns).trans (Qs hrun).symm) ((XN hns).trans (XN hrun).symm) (Wb':=fun _=>False) (Fr2.refl h.T.free) (fun _ w=>w.elim) (Qy.of hns ?_);obtain ⟨k,c,eo,fr,q1,q2,q3,q4,q5,q6⟩:=(h.T.bx j cs hj).cel hrun
     refine ⟨k,c,eo,fr,q1,q2,q3,q4,q5, ?_⟩;obtain ⟨w,hw,hwc⟩:=Xr q6 hc;refine JdL q6 hw ?_;obtain ⟨u1,u2,u3⟩:=hwc;refine ⟨u1,u2,fun L' hL' => ?_⟩;have hLL:L=L':=by
      have h1:(vs.cx S0 env m).len q=some L:=by rw [h.T.len];exact hL
      have h2:(vs.cx S0 env m).len q=some L':=hL';rw [h1] at h2;cases h2;rfl
     subst hLL;obtain ⟨v1,v2⟩:=u3 L hL';refine ⟨by omega,v1,fun hp=>⟨none,L, ?_,Je _,by omega,fun w=>by cases w⟩⟩;rw [v2 hp,Nat.zero_mul]
   ·exact ⟨h,Stp.refl h.T.free⟩
  ·exact ⟨h,Stp.refl h.T.free⟩
 ·exact ⟨h,Stp.refl h.T.free⟩
theorem JfU {t : TypeId} {x y : Sl} {w : Value} {g : Option Bool} {vs1 : VS} (h : Rel P S0 env m a vs) (hx : J8 P (vs.cx S0 env m) x w) (hv : Jg0 P t x vs = some (g, y, vs1)) :
  (match P.underlying t with | some (.interface _) | none=>none | some _=>some (Res.val (.iface t w) m))=some (Res.val (.iface t w) m)∧Rel P S0 env m a vs1∧Stp (vs.cx S0 env m) (vs1.cx S0 env m)∧J8 P (vs1.cx S0 env m) y (.iface t w):=by
 unfold Jg0 at hv;split at hv
 ·cases hv
 ·cases hv
 ·rename_i d hn hd;refine ⟨?_, ?_⟩
  ·rw [hd];cases d <;> first | rfl | exact (hn _ rfl).elim | exact absurd rfl (hn _)
  ·split at hv
   ·rename_i j off;cases hv;obtain ⟨k1, k2⟩ := JkB h j off;refine ⟨k1, k2, ?_⟩;obtain ⟨u1, i, rfl, u2, u3⟩ := hx;have hb : (Jm3 vs j off).bx.length = vs.bx.length := by
     unfold Jm3;split
     ·split
      ·split
       ·cases J9 _ with
        | true=>rfl
        | false=>exact Qc _ _ _
       ·rfl
      ·rfl
     ·rfl
    exact ⟨Jt u1 k2.le.nb,i,rfl,Jt u2 k2.le.nxt,fun q=>u3 (k2.le.has j u1 q)⟩
   ·cases hv;exact ⟨h,Stp.refl h.T.free,trivial⟩
theorem JmC {o : Oper} {hot : Bool} (h : Rel P S0 env m a vs) (hbar : isWr o.op = true → ∀ i, Wb (vs.cx S0 env m) i → m.bar ≤ i) {g : Option Bool} {x : Sl} {vs1 : VS} (hv : Jll P hot vs o = some (g, x, vs1)) (hg : Jbt g) : OpS P S0 env m a vs o x vs1 := by
 unfold Jll at hv;split at hv
 ·rename_i r hr;cases hv;cases hs:(JhH o.op || JrM vs o.op) with
  | true=>rw [hs] at hr;cases hr
  | false=>rw [hs] at hr;exact JjW h hr
 ·have hE:=fun y=>QE (P:=P) h y
  split at hv
  ·rename_i y ho;cases hv;exact OpS.same h (by unfold iop;rw [ho]) (hE y)
  ·rename_i y ho;cases hv;exact OpS.same h (by unfold iop;rw [ho]) (hE y)
  ·rename_i t ho;obtain ⟨z,v,m1,env1,h1,h2,h3,h4,h5⟩ : ∃z v m1 env1,QI P t=some z∧(m.new z.cells t).map (fun (p:Addr × M)=>Res.val (.pointer (some p.1)) p.2)=some (.val v m1)∧Rel P S0 env1 m1 a vs1∧Stp (vs.cx S0 env m) (vs1.cx S0 env1 m1)∧J8 P (vs1.cx S0 env1 m1) x v:=by
    cases hb:(hot && JlR P t) with
    | true=>rw [hb] at hv;exact Jhd h hv
    | false=>rw [hb] at hv;exact Jiz h hv
   exact ⟨v,m1,env1,.inl (by unfold iop;rw [ho];dsimp only;rw [h1];exact h2),h3,h4,h5⟩
  ·rename_i t y ho;obtain ⟨v,m1,env1,h2,h3,h4,h5⟩ : ∃v m1 env1,(m.new (a.eval y).cells t).map (fun (p:Addr × M)=>Res.val (.pointer (some p.1)) p.2)=some (.val v m1)∧Rel P S0 env1 m1 a vs1∧Stp (vs.cx S0 env m) (vs1.cx S0 env1 m1)∧J8 P (vs1.cx S0 env1 m1) x v:=by
    cases hb:(hot && JlR P t) with
    | true=>rw [hb] at hv;exact Jiy h (hE y) hv
    | false=>rw [hb] at hv;exact JmI h (hE y) hv
   exact ⟨v,m1,env1,.inl (by unfold iop;rw [ho];exact h2),h3,h4,h5⟩
  ·rename_i t len parts ho;obtain ⟨v,m1,env1,h2,h3,h4,h5⟩:=JdF h hv;exact ⟨v,m1,env1,.inl (by unfold iop;rw [ho];dsimp only;rw [h2];rfl),h3,h4,h5⟩
  ·rename_i t parts ho;obtain ⟨rfl,z,v,h1,h2,h3⟩:=Jix h hv;refine OpS.same h ?_ h3;unfold iop;rw [ho];dsimp only;have h2':J4 P (Instr.build t (parts.map fun (i,x)=>(i,a.eval x)))=some v:=h2
   rw [h2'];simp only [Jb];rw [h1]
  ·rename_i t y ho;obtain ⟨rfl,v,h2,h3⟩:vs1=vs ∧ ∃v,Ja5 P t (a.eval y) m=some v∧J8 P (vs.cx S0 env m) x v:=by
    cases hb:Jf2 vs (vs.ev y) with
    | true=>rw [hb] at hv;exact Jip h (hE y) hv hg
    | false=>rw [hb] at hv;exact Jiq h (hE y) hv hg
   exact OpS.same h (by unfold iop;rw [ho];dsimp only;rw [h2];rfl) h3
  ·rename_i t y z ho;obtain ⟨rfl,m1,h2,h3,h4⟩:x=Qn ∧ ∃m1,XO P t (a.eval y) (a.eval z) m=some m1∧Rel P S0 env m1 a vs1∧Stp (vs.cx S0 env m) (vs1.cx S0 env m1):=by
    cases hb:Jf2 vs (vs.ev y) with
    | true=>rw [hb] at hv;exact JgX h (hbar (by rw [ho];rfl)) (hE y) (hE z) hv hg
    | false=>rw [hb] at hv;exact JgY h (hbar (by rw [ho];rfl)) (hE y) (hE z) hv hg
   exact ⟨undef,m1,env,.inr ⟨by unfold iop;rw [ho];dsimp only;rw [h2];rfl,rfl⟩,h3,h4,⟨#[],rfl,trivial⟩⟩
  ·rename_i y ho;split at hv
   ·rename_i j off hy;cases hv;have hr:=hE y;rw [hy] at hr;refine OpS.same (v:=a.eval y) h ?_ hr;obtain ⟨_,kb,hw,_⟩:=hr;unfold iop;rw [ho];dsimp only;rw [hw]
   ·rename_i e j i off hy;cases hv;have hr:=hE y;rw [hy] at hr;refine OpS.same (v:=a.eval y) h ?_ hr;obtain ⟨_,kb,hw,_⟩:=hr;unfold iop;rw [ho];dsimp only;rw [hw]
   ·rename_i e x off hy;cases hv;have hr:=hE y;rw [hy] at hr;refine OpS.same (v:=a.eval y) h ?_ hr;obtain ⟨kb,o1,c1,e1,hw,_⟩:=hr;unfold iop;rw [ho];dsimp only;rw [hw]
   ·cases hv
  ·rename_i op t y z u ho;have hy:=hE y;have hz:=hE z;unfold vbin at hv;split at hv
   ·split at hv
    ·rename_i k n k' b e1 e2;cases hv;rw [e1] at hy;rw [e2] at hz;exact OpS.same h (Jpp ho hy.1 hz.1 (Qf (hg _ rfl))) ⟨rfl,rfl⟩
    ·cases hv
   ·split at hv
    ·rename_i k n k' b e1 e2;cases hv;rw [e1] at hy;rw [e2] at hz;exact OpS.same h (Jpo ho hy.1 hz.1 (Qf (hg _ rfl))) ⟨rfl,rfl⟩
    ·cases hv
   ·simp only [Ja] at hv;obtain ⟨b,h1,h2⟩:=hv;cases h2;unfold veq at h1;split at h1
    ·rename_i b' h1';cases h1;have h3:=Jgb hy hz h1';exact OpS.same h (by unfold iop;rw [ho];dsimp only;rw [h3]) ⟨rfl,rfl⟩
    ·exact OpS.same h (by first | exact (Jcm hy hz h1).1 ho | exact (Jcm hy hz h1).2 ho) ⟨rfl,rfl⟩
   ·simp only [Ja] at hv;obtain ⟨b,h1,h2⟩:=hv;cases h2;unfold veq at h1;split at h1
    ·rename_i b' h1';cases h1;have h3:=Jgb hy hz h1';exact OpS.same h (by unfold iop;rw [ho];dsimp only;rw [h3]) ⟨rfl,rfl⟩
    ·exact OpS.same h (by first | exact (Jcm hy hz h1).1 ho | exact (Jcm hy hz h1).2 ho) ⟨rfl,rfl⟩
   ·split at hv
    ·rename_i n b e1 e2;cases hv;rw [e1] at hy;rw [e2] at hz;exact OpS.same h (Jut ho hy.1 hz.1 (Qf (hg _ rfl))) ⟨rfl,rfl⟩
    ·rename_i k n k' b e1 e2;split at hv
     ·rename_i hk;subst hk;cases hv;rw [e1] at hy;rw [e2] at hz;have hsm:(k.format.add n b).isSome=true:=hg _ rfl;obtain ⟨r,hr⟩:=Option.isSome_iff_exists.1 hsm;have hi:=JrR (P:=P) (m:=m) ho hy.1 hz.1 hr;rw [hr];exact OpS.same h hi ⟨rfl,rfl⟩
     ·cases hv
    ·cases hv
   ·split at hv
    ·rename_i k n k' b e1 e2;split at hv
     ·rename_i hk;subst hk;cases hv;rw [e1] at hy;rw [e2] at hz;have hsm:(k.format.sub n b).isSome=true:=hg _ rfl;obtain ⟨r,hr⟩:=Option.isSome_iff_exists.1 hsm;have hi:=JrP (P:=P) (m:=m) ho hy.1 hz.1 hr;rw [hr];exact OpS.same h hi ⟨rfl,rfl⟩
     ·cases hv
    ·cases hv
   ·split at hv
    ·rename_i k n k' b e1 e2;split at hv
     ·rename_i hk;subst hk;cases hv;rw [e1] at hy;rw [e2] at hz;exact OpS.same h (Juq ho hy.1 hz.1 (Qf (hg _ rfl))) ⟨rfl,rfl⟩
     ·cases hv
    ·rename_i k n k' b e1 e2;split at hv
     ·rename_i hk;subst hk;cases hv;rw [e1] at hy;rw [e2] at hz;have hsm:(k.format.div n b).isSome=true:=hg _ rfl;obtain ⟨r,hr⟩:=Option.isSome_iff_exists.1 hsm;have hi:=JrQ (P:=P) (m:=m) ho hy.1 hz.1 hr;rw [hr];exact OpS.same h hi ⟨rfl,rfl⟩
     ·cases hv
    ·cases hv
   ·split at hv
    ·rename_i k n k' b e1 e2;split at hv
     ·rename_i hk;subst hk;cases hv;rw [e1] at hy;rw [e2] at hz;exact OpS.same h (Jup ho hy.1 hz.1 (Qf (hg _ rfl))) ⟨rfl,rfl⟩
     ·cases hv
    ·cases hv
   ·cases hv
  ·rename_i src dst y ho;obtain ⟨v,m1,env1,h2,h3,h4,h5⟩:=JfZ (o:=o) h (hE y) hv hg;exact ⟨v,m1,env1,.inl (by unfold iop;rw [ho];exact h2),h3,h4,h5⟩
  ·rename_i t l c ho;obtain ⟨v,m1,env1,h2,h3,h4,h5⟩:=Jen h (hE l) (hE c) hv hg;exact ⟨v,m1,env1,.inl (by unfold iop;rw [ho];dsimp only;rw [h2];rfl),h3,h4,h5⟩
  ·rename_i t y lo hi mx ho;exact Jim h ho hv hg
  ·rename_i s y f ho;obtain ⟨rfl,v,h2,h3⟩:=Jep (hE y) hv;exact OpS.same h (by unfold iop;rw [ho];dsimp only;rw [h2];rfl) h3
  ·rename_i s y f ho;obtain ⟨rfl,v,h2,h3⟩:=Jit (hE y) hv;exact OpS.same h (by unfold iop;rw [ho];dsimp only;rw [h2];rfl) h3
  ·rename_i t y ho;obtain ⟨h1,h2,h3,h4⟩:=JfU (t:=t) h (hE y) hv;exact ⟨_,m,env,.inl (by unfold iop;rw [ho];exact h1),h2,h3,h4⟩
  ·rename_i t y ix ho;obtain ⟨rfl,v,h2,h3⟩:=Jg6 h (hE y) (hE ix) hv hg;exact OpS.same h (by unfold iop;rw [ho];dsimp only;rw [h2];rfl) h3
  ·rename_i t y ix ho;obtain ⟨rfl,v,h2,h3⟩:vs1=vs ∧ ∃v,Ql P t (a.eval y) (a.eval ix)=some v∧J8 P (vs.cx S0 env m) x v:=by
    cases hb:Jf2 vs (vs.ev y) with
    | true=>rw [hb] at hv;exact Jg7 h (hE y) (hE ix) hv hg
    | false=>rw [hb] at hv;exact Jeo h (hE y) (hE ix) hv hg
   exact OpS.same h (by unfold iop;rw [ho];dsimp only;rw [h2];rfl) h3
  ·rename_i y ix ho;split at hv
   ·rename_i l hl;split at hv
    ·rename_i s hs;cases hv;have hr:=hE y;rw [hl] at hr;obtain ⟨b,hb,h2⟩:=hr;obtain ⟨u,h3,h4⟩:=Je6 h2 hs;refine OpS.same (v:=u) h ?_ h4;unfold iop;rw [ho];dsimp only;rw [hb];dsimp only;rw [←Array.getElem?_toList,h3];rfl
    ·cases hv
   ·cases hv
  ·rename_i c ho;split at hv
   ·rename_i hc;split at hv
    ·rename_i y hy;obtain ⟨rfl,e,b,n,cp,h1,h2,rfl⟩:=JmF h (hE y) hv;refine OpS.same (v := .int .i64 (n:Nat)) h ?_ ⟨rfl,rfl⟩;unfold iop;rw [ho];dsimp only;unfold JaT;rw [hc];dsimp only;rw [hy];simp only [JU];rw [h1,h2]
    ·cases hv
   ·rename_i hc;split at hv
    ·rename_i s y t hs hy ht;split at hv
     ·rename_i hsz;obtain ⟨v,m1,env1,h2,h3,h4,h5⟩:=Jhb h (hE s) (hE y) hg hv;refine ⟨v,m1,env1,.inl ?_,h3,h4,h5⟩;unfold iop;rw [ho];dsimp only;unfold JaT;rw [hc];dsimp only;rw [hs,hy,ht];simp only [JU];rw [Jf hsz,h2];rfl
     ·cases hv
    ·cases hv
   ·rename_i hc;split at hv
    ·rename_i s y t hs hy ht;split at hv
     ·rename_i hsz;obtain ⟨v,m1,h2,h3,h4,h5⟩:=Jj6 h (hbar (by obtain ⟨ce,cas,cts⟩:=c;dsimp only at hc;subst hc;rw [ho];rfl)) (hE s) (hE y) hv hg
      refine ⟨v,m1,env,.inl ?_,h3,h4,h5⟩;unfold iop;rw [ho];dsimp only;unfold JaT;rw [hc];dsimp only;rw [hs,hy,ht];simp only [JU];rw [Jf hsz,h2];rfl
     ·cases hv
    ·cases hv
   ·cases hv
  ·cases hv
end Go.IM.V
namespace Go.IM.V
open Go Go.IM
variable {P:Program} {m m1:M} {S0:Nat→Prop} {env:Env} {a:Act} {vs:VS} {X Y:Cx}
def Jeb (l l':List Nat):Prop := ∀(t j:Nat),l[t]? = some j→l'[t]? = some j
theorem Jeb.refl (l:List Nat):Jeb l l:=fun _ _ h=>h
theorem Jeb.trans {a b c:List Nat} (h:Jeb a b) (k:Jeb b c):Jeb a c:=fun t j x=>k t j (h t j x)
theorem QX {l l':List Nat} {t j:Nat} (h:pin l t j=some l'):Jeb l l'∧l'[t]? = some j:=by
 unfold pin at h;split at h
 ·rename_i j' hj;cases hb:Nat.beq j' j with
  | true=>rw [hb] at h;cases h;exact ⟨Jeb.refl _,by rw [hj,Jr hb]⟩
  | false=>rw [hb] at h;cases h
 ·rename_i hj;cases hb:Nat.beq t l.length with
  | true=>
   rw [hb] at h;cases h;have ht:=Jr hb;refine ⟨fun s i hs => ?_,by rw [ht];simp⟩
   rw [JF (Jx hs)];exact hs
  | false=>rw [hb] at h;cases h
structure GH.le (q q':GH):Prop where
 g:Jeb q.g q'.g
 h:Jeb q.h q'.h
theorem GH.le.refl (q:GH):q.le q:=⟨Jeb.refl _,Jeb.refl _⟩
theorem GH.le.trans {a b c:GH} (h:a.le b) (k:b.le c):a.le c:=⟨h.g.trans k.g,h.h.trans k.h⟩
structure Ju4 (X Y:Cx) (q:GH) (rx rb:Nat→Nat):Prop where
 mono:Jex X.S X.m Y.S Y.m
 nxt:X.m.nxt≤Y.m.nxt
 ty : ∀i e,X.m.typ i=some e→Y.m.typ i=some e
 box : ∀t j,q.g[t]? = some j→rx t<Y.nb∧Y.env.β (rx t)=X.env.β j∧(Y.has (rx t)=true→X.has j=true) ∧ ∀L,Y.len (rx t)=some L→X.len j=some L
 buf : ∀(t j:Nat) (b:Bf),q.h[t]? = some j→X.bf[j]? = some b → ∃l,Y.bf[rb t]? = some { b with live:=l }∧Y.env.τ (rb t)=X.env.τ j
def JqJ (rx:Nat→Nat) (g:List Nat):List (ByteArray × Nat × Nat)→List (ByteArray × Nat × Nat)→Prop
 | [], []=>True
 | a::l,b::r=>(a.1=b.1∧a.2.1=b.2.1 ∧ ∃t,b.2.2=rx t∧g[t]? = some a.2.2)∧JqJ rx g l r
 | _,_=>False
theorem JqJ.le {rx:Nat→Nat} {g g':List Nat} (h:Jeb g g') : ∀{l r:List (ByteArray × Nat × Nat)},JqJ rx g l r→JqJ rx g' l r:=by
 intro l;induction l with
 | nil=>intro r hr;cases r <;> exact hr
 | cons a l ih=>intro r hr;cases r with
  | nil=>exact hr.elim
  | cons b r=>
   obtain ⟨⟨h1,h2,t,h3,h4⟩,h5⟩:=hr;exact ⟨⟨h1,h2,t,h3,h _ _ h4⟩,ih h5⟩
theorem JoP (rx:Nat→Nat) : ∀{l r:List (ByteArray × Nat × Nat)} {g g':List Nat},pinL g l r=some g'→eqK l r=true→Jeb g g'∧JqJ rx g' r (l.map fun q=>(q.1,q.2.1,rx q.2.2)):=by
 intro l;induction l with
 | nil=>intro r g g' h he;cases r with
  | nil=>cases h;exact ⟨Jeb.refl _,trivial⟩
  | cons=>cases h
 | cons a l ih=>intro r g g' h he;cases r with
  | nil=>cases h
  | cons b r=>
   simp only [pinL,Jp] at h;obtain ⟨g1,h1,h2⟩:=h;simp only [eqK,Jh] at he;obtain ⟨⟨e1,e2⟩,e3⟩:=he;obtain ⟨k1,k2⟩:=ih h2 e3;obtain ⟨p1,p2⟩:=QX h1;refine ⟨p1.trans k1,⟨?_,(Jr e2).symm,a.2.2,rfl,k1 _ _ p2⟩,k2⟩;exact ((MapKept.bytes_beq _ _).1 e1).symm
theorem JoQ : ∀{l r:List (ByteArray × Nat × Nat)} {g g':List Nat},pinL g l r=some g'→Jeb g g':=by
 intro l;induction l with
 | nil=>intro r g g' h;cases r with
  | nil=>cases h;exact Jeb.refl _
  | cons=>cases h
 | cons a l ih=>intro r g g' h;cases r with
  | nil=>cases h
  | cons b r=>
   simp only [pinL,Jp] at h;obtain ⟨g1,h1,h2⟩:=h;exact (QX h1).1.trans (ih h2)
theorem JsT {bf : List Bf} {p : Pt} {s : S1} {q q' : GH} {x : PtE p} (h : ptM bf p s q = some (x, q')) : q.le q' := by
 cases p with
 | v t=>
  simp only [ptM,Ja] at h;obtain ⟨y,_,h2⟩:=h;cases h2;exact GH.le.refl _
 | o t=>
  simp only [ptM] at h;split at h
  ·simp only [Ja] at h;obtain ⟨l,h1,h2⟩:=h;cases h2;exact ⟨Jeb.refl _,(QX h1).1⟩
  ·cases h
 | p t off=>
  simp only [ptM] at h;split at h
  ·rename_i j off';cases hb:Nat.beq off off' with
   | false=>rw [hb] at h;cases h
   | true=>
    rw [hb] at h;simp only [Jk,Ja] at h;obtain ⟨l,h1,h2⟩:=h;cases h2;exact ⟨(QX h1).1,Jeb.refl _⟩
  ·cases h
 | fn f=>
  simp only [ptM] at h;split at h
  ·rename_i f' a c;cases hc:(Nat.beq f f' && a.isEmpty && c.isEmpty) with
   | false=>rw [hc] at h;cases h
   | true=>rw [hc] at h;cases h;exact GH.le.refl _
  ·cases h
 | m e t=>
  simp only [ptM] at h;split at h
  ·split at h
   ·simp only [Ja] at h;obtain ⟨l,h1,h2⟩:=h;cases h2;exact ⟨(QX h1).1,Jeb.refl _⟩
   ·cases h
  ·cases h
 | r e=>
  simp only [ptM] at h;split at h
  ·simp only [Ja] at h;obtain ⟨l,h1,h2⟩:=h;cases h2;exact GH.le.refl _
  ·cases h
 | ra e=>
  simp only [ptM] at h;split at h
  ·simp only [Ja] at h;obtain ⟨l,h1,h2⟩:=h;cases h2;exact GH.le.refl _
  ·cases h
 | g=>
  simp only [ptM] at h;split at h
  ·cases h;exact GH.le.refl _
  ·cases h
 | ns=>
  simp only [ptM] at h;split at h
  ·rename_i v;cases hb:XU v with
   | false=>rw [hb] at h;cases h
   | true=>rw [hb] at h;cases h;exact GH.le.refl _
  ·cases h
 | nl=>
  simp only [ptM] at h;split at h
  ·cases h;exact GH.le.refl _
  ·cases h
 | mv t=>
  simp only [ptM] at h;split at h
  ·simp only [Ja] at h;obtain ⟨l,h1,h2⟩:=h;cases h2;exact ⟨(QX h1).1,Jeb.refl _⟩
  ·cases h
 | mx c l=>
  simp only [ptM] at h;split at h
  ·rename_i c' l';cases hb:(Nat.beq c c' && eqK l l') with
   | false=>rw [hb] at h;cases h
   | true=>
    rw [hb] at h;simp only [Jk,Ja] at h;obtain ⟨g,h1,h2⟩:=h;cases h2;exact ⟨JoQ h1,Jeb.refl _⟩
  ·cases h
 | sg n e=>
  simp only [ptM] at h;split at h
  ·split at h
   ·simp only [Ja] at h;obtain ⟨l,h1,h2⟩:=h;cases h2;exact GH.le.refl _
   ·cases h
  ·cases h
 | mt ks=>
  simp only [ptM] at h;split at h
  ·split at h
   ·cases h;exact GH.le.refl _
   ·cases h
  ·cases h
 | ms e=>
  simp only [ptM] at h;split at h
  ·simp only [Ja] at h;obtain ⟨l,h1,h2⟩:=h;cases h2;exact GH.le.refl _
  ·cases h
 | sb e n t=>
  simp only [ptM] at h;split at h
  ·split at h
   ·simp only [Ja] at h;obtain ⟨l,h1,h2⟩:=h;cases h2;exact ⟨(QX h1).1,Jeb.refl _⟩
   ·cases h
  ·cases h
 | ki k n=>
  simp only [ptM] at h;split at h
  ·split at h
   ·cases h;exact GH.le.refl _
   ·cases h
  ·cases h
 | kt n=>
  simp only [ptM] at h;split at h
  ·split at h
   ·cases h;exact GH.le.refl _
   ·cases h
  ·cases h
 | va t=>
  simp only [ptM,Ja] at h;obtain ⟨y,h1,h2⟩:=h;cases h2;exact GH.le.refl _
 | ip u t off=>
  simp only [ptM] at h;split at h
  ·rename_i u' j off';cases hb:(Nat.beq u u' && Nat.beq off off') with
   | false=>rw [hb] at h;cases h
   | true=>
    rw [hb] at h;simp only [Jk,Ja] at h;obtain ⟨l,h1,h2⟩:=h;cases h2;exact ⟨(QX h1).1,Jeb.refl _⟩
  ·cases h
 | w e t=>
  simp only [ptM] at h;split at h
  ·rename_i e' j n cp;split at h
   ·rename_i he;simp only [Ja] at h;obtain ⟨l,h1,h2⟩:=h;cases h2;exact ⟨(QX h1).1,Jeb.refl _⟩
   ·cases h
  ·cases h
 | x=>
  simp only [ptM] at h;split at h
  ·rename_i c;cases hb:J9 [c] with
   | true=>rw [hb] at h;cases h
   | false=>rw [hb] at h;cases h;exact GH.le.refl _
  ·cases h;exact GH.le.refl _
theorem JlJ {v:Value} (h:okc v=true) (n:Nat):Jc1 n v:=by
 unfold okc at h;rw [Jh] at h;have h2:=h.2;unfold noAd at h2;split at h2
 ·cases h2
 ·cases h2
 ·rename_i h3 h4;unfold Jc1;split
  ·exact absurd rfl (h3 _)
  ·exact absurd rfl (h4 _ _ _)
  ·trivial
theorem Jb5 {bx:List (List Cl)} (hT:Jao P X bx) {s:Sl} {v:Value} (h:J8 P X s v) (hp:QS s=true):Jc1 X.m.nxt v:=by
 have key : ∀{n:Nat} {α:Type} {R:α→List Value→Prop} {xs:List α} {w:Value},Jbu P X.S X.m n R xs w→Jc1 X.m.nxt w:=by
  intro n α R xs w hr;rcases hr with ⟨rfl,_⟩|⟨i,o,sp,cap,rfl,h1,h2⟩
  ·trivial
  ·rcases h2 with h2|⟨c,e,h3,_⟩
   ·exact .inl ⟨by omega,h2⟩
   ·exact .inr (Je3 hT.free h3)
 cases s with
 | t l=>obtain ⟨b,rfl,_⟩:=h;trivial
 | v s=>
  cases s with
  | x=>cases hp
  | a cs=>obtain ⟨b,rfl,_⟩:=h;trivial
  | s c=>
   cases c with
   | x=>cases hp
   | c v=>obtain ⟨rfl,h2⟩:=h;exact JlJ h2 _
   | l e xs=>exact key (R:=QR P X.S X.m e) h
   | z e xs=>exact JbH h.1 _
   | o j=>obtain ⟨b,h1,h2⟩:=h;exact key (Jdw (hT.bf j b h1) h2)
   | p j off=>obtain ⟨h1,i,rfl,h2,_⟩:=h;exact h2
   | e t x off=>obtain ⟨i,o,c,e',rfl,h1,_⟩:=h;exact Je3 hT.free h1
   | m e j=>exact h.2.1.2
   | w e j o n cp=>exact h.2.1.2
   | q e j i off=>obtain ⟨h1,k,rfl,h2,_⟩:=h;exact h2
   | ra=>exact h.elim
   | g=>exact h.elim
   | r=>exact h.elim
   | sb e j n=>exact h.2.1.2
   | ip t j off=>obtain ⟨h1,i,rfl,_⟩:=h;trivial
   | mv j=>obtain ⟨h1,i,rfl,_⟩:=h;trivial
   | mx=>exact h.elim
   | mi=>exact h.elim
   | sg=>exact h.elim
   | ms=>exact h.elim
   | mt=>exact h.elim
   | y=>exact h.2
theorem JlY {X Y:Cx} {bx:List (List Cl)} (hT:Jao P X bx) (hn:X.m.nxt≤Y.m.nxt) {c:Cl} {w:Value} (h:Jap P X c w):Jap P Y (Jtj c) w:=by
 have key:JcW c=true→QS (.v (.s c))=true→Jap P Y .y w:=fun h1 h2=>⟨Jfj h1 h,(Jb5 (s := .v (.s c)) hT h h2).mono hn⟩
 cases c <;> first | trivial | exact h | exact key rfl rfl
theorem JkU {X Y:Cx} {bx:List (List Cl)} (hT:Jao P X bx) (hn:X.m.nxt≤Y.m.nxt) {s:S1} {w:Value} (h:Ja3 P X s w):Ja3 P Y (fog s) w:=by
 cases s with
 | x=>trivial
 | s c=>exact JlY (P:=P) (c:=c) hT hn h
 | a cs=>
  obtain ⟨b,rfl,h2⟩:=h;refine ⟨b,rfl, ?_⟩;generalize b.toList=l at h2;clear b;induction cs generalizing l with
  | nil=>cases l with
   | nil=>trivial
   | cons=>exact h2.elim
  | cons c cs ih=>cases l with
   | nil=>exact h2.elim
   | cons v l=>exact ⟨JlY hT hn h2.1,ih l h2.2⟩
theorem JhV {X Y:Cx} (hn:X.m.nxt≤Y.m.nxt) {c:Cl} {w:Value} (h:Jap P X (Jtj c) w):Jap P Y (Jtj c) w:=by
 cases c <;> first | trivial | exact h | exact ⟨h.1,h.2.mono hn⟩
theorem JuA {X Y:Cx} (hn:X.m.nxt≤Y.m.nxt) {s:S1} {w:Value} (h:Ja3 P X (fog s) w):Ja3 P Y (fog s) w:=by
 cases s with
 | x=>trivial
 | s c=>exact JhV (P:=P) (c:=c) hn h
 | a cs=>
  obtain ⟨b,rfl,h2⟩:=h;refine ⟨b,rfl, ?_⟩;generalize b.toList=l at h2;clear b;induction cs generalizing l with
  | nil=>cases l with
   | nil=>trivial
   | cons=>exact h2.elim
  | cons c cs ih=>cases l with
   | nil=>exact h2.elim
   | cons v l=>exact ⟨JhV hn h2.1,ih l h2.2⟩
theorem Jnx (c:Cl):J9 [Jtj c]=false∧Xo [Jtj c]=true∧JaQ [Jtj c]=none:=by cases c <;> exact ⟨rfl,rfl,rfl⟩
theorem Jbq (s:S1):J9 [Jam (fog s)]=false∧Xo [Jam (fog s)]=true∧JaQ [Jam (fog s)]=none:=by
 cases s with
 | s c=>exact Jnx c
 | _=>exact ⟨rfl,rfl,rfl⟩
theorem Jkt {bx : List (List Cl)} (hT : Jao P X bx) {p : Pt} {s : S1} {q q' qf : GH} {x : PtE p} (h : ptM X.bf p s q = some (x, q')) (hq : q'.le qf) {rx rb : Nat → Nat} (hR : Ju4 X Y qf rx rb) {w : Value} (hr : Ja3 P X s w) :
  Ja3 P Y (ptI rx rb p x) w∧(∀c,s = .s c → ∃c',ptI rx rb p x = .s c'):=by
 cases p with
 | v t=>
  simp only [ptM,Ja] at h;obtain ⟨y,h1,h2⟩:=h;cases h2;obtain ⟨h3,h4,h5⟩:=Jhp hT h1 hr;refine ⟨Jbx (QR.mono hR.mono h3) h4 h5,fun c hc => ?_⟩;subst hc;show ∃c',JfT t _ = .s c';simp only [rdS] at h1;cases t <;> first | exact ⟨_,rfl⟩ | (simp [Ty.ag] at h1;done)
 | o t=>
  simp only [ptM] at h;split at h
  ·rename_i j;simp only [Ja] at h;obtain ⟨l,h1,h2⟩:=h;cases h2;obtain ⟨_,h3⟩:=QX h1;obtain ⟨b,h4,h5⟩:=hr;obtain ⟨l',h6,h8⟩:=hR.buf t j b (hq.h t j h3) h4;refine ⟨⟨_,h6, ?_⟩,fun c hc=>⟨_,rfl⟩⟩;rw [h8];unfold JjO at h5 ⊢;split at h5
   ·exact ⟨h5.1,h5.2.mono hR.mono fun _ _ q=>QR.mono hR.mono q⟩
   ·exact h5
  ·cases h
 | p t off=>
  simp only [ptM] at h;split at h
  ·rename_i j off';cases hb:Nat.beq off off' with
   | false=>rw [hb] at h;cases h
   | true=>
    rw [hb] at h;simp only [Jk,Ja] at h;obtain ⟨l,h1,h2⟩:=h;cases h2;obtain ⟨_,h3⟩:=QX h1;obtain ⟨h4,h5,h7,_⟩:=hR.box t j (hq.g t j h3);obtain ⟨_,i,h6,h9,h8⟩:=hr;have:=Jr hb
    subst this;exact ⟨⟨h4,i,h6,Jt h9 hR.nxt,fun w=>by rw [h5];exact h8 (h7 w)⟩,fun c hc=>⟨_,rfl⟩⟩
  ·cases h
 | fn f=>
  simp only [ptM] at h;split at h
  ·rename_i f' a c;cases hc:(Nat.beq f f' && a.isEmpty && c.isEmpty) with
   | false=>rw [hc] at h;cases h
   | true=>
    rw [hc] at h;cases h;simp only [Jh,Array.isEmpty_iff] at hc;obtain ⟨⟨h1,rfl⟩,rfl⟩:=hc;have:=Jr h1
    subst this;exact ⟨hr,fun c hc=>⟨_,rfl⟩⟩
  ·cases h
 | m e t=>
  simp only [ptM] at h;split at h
  ·rename_i e' j;split at h
   ·rename_i he;subst he;simp only [Ja] at h;obtain ⟨l,h1,h2⟩:=h;cases h2;obtain ⟨_,h3⟩:=QX h1;obtain ⟨h4,h5,h7,h8⟩:=hR.box t j (hq.g t j h3);obtain ⟨_,h6,h9⟩:=hr;exact ⟨⟨h4,⟨h6.1,h6.2.mono hR.nxt⟩,fun L hL=>by rw [h5];exact h9 L (h8 L hL)⟩,fun c hc=>⟨_,rfl⟩⟩
   ·cases h
  ·cases h
 | r e=>
  simp only [ptM] at h;split at h
  ·exact hr.elim
  ·cases h
 | ra e=>
  simp only [ptM] at h;split at h
  ·exact hr.elim
  ·cases h
 | g=>
  simp only [ptM] at h;split at h
  ·exact hr.elim
  ·cases h
 | ns=>
  simp only [ptM] at h;split at h
  ·rename_i v;cases hb:XU v with
   | false=>rw [hb] at h;cases h
   | true=>
    rw [hb] at h;cases h;rw [Q7 hb] at hr;exact ⟨hr,fun c hc=>⟨_,rfl⟩⟩
  ·cases h
 | nl=>
  simp only [ptM] at h;split at h
  ·cases h;exact ⟨hr,fun c hc=>⟨_,rfl⟩⟩
  ·cases h
 | mv t=>
  simp only [ptM] at h;split at h
  ·rename_i j;simp only [Ja] at h;obtain ⟨l,h1,h2⟩:=h;cases h2;obtain ⟨_,h3⟩:=QX h1;obtain ⟨h4,h5,h7,_⟩:=hR.box t j (hq.g t j h3);obtain ⟨_,i,h6,h9,h8⟩:=hr;exact ⟨⟨h4,i,h6,Jt h9 hR.nxt,fun w=>by rw [h5];exact h8 (h7 w)⟩,fun c hc=>⟨_,rfl⟩⟩
  ·cases h
 | mx c l=>
  simp only [ptM] at h;split at h
  ·exact hr.elim
  ·cases h
 | sg n e=>
  simp only [ptM] at h;split at h
  ·exact hr.elim
  ·cases h
 | ms e=>
  simp only [ptM] at h;split at h
  ·exact hr.elim
  ·cases h
 | mt ks=>
  simp only [ptM] at h;split at h
  ·exact hr.elim
  ·cases h
 | sb e n t =>
  simp only [ptM] at h;split at h
  ·rename_i e' j n';split at h
   ·rename_i he;obtain ⟨rfl,rfl⟩:=he;simp only [Ja] at h;obtain ⟨l,h1,h2⟩:=h;cases h2;obtain ⟨_,h3⟩:=QX h1;obtain ⟨h4,h5,h7,h8⟩:=hR.box t j (hq.g t j h3);obtain ⟨_,h6,h9⟩:=hr;exact ⟨⟨h4,⟨h6.1,h6.2.mono hR.nxt⟩,fun w=>by
     rw [h5];obtain ⟨u1,eo,u2,u3⟩:=h9 (h7 w);exact ⟨u1,eo,hR.ty _ _ u2,u3⟩⟩,fun c hc=>⟨_,rfl⟩⟩
   ·cases h
  ·cases h
 | ki k n=>
  simp only [ptM] at h;split at h
  ·split at h
   ·rename_i he;obtain ⟨rfl,rfl⟩:=he;cases h;exact ⟨hr,fun c hc=>⟨_,rfl⟩⟩
   ·cases h
  ·cases h
 | kt n=>
  simp only [ptM] at h;split at h
  ·split at h
   ·rename_i he;subst he;cases h;exact ⟨hr,fun c hc=>⟨_,rfl⟩⟩
   ·cases h
  ·cases h
 | va t=>
  simp only [ptM,Ja] at h;obtain ⟨y,h1,h2⟩:=h;cases h2;obtain ⟨h3,h4,h5⟩:=Jhp hT h1 hr;refine ⟨JkU (X:=X) hT hR.nxt (Jbx h3 h4 h5),fun c hc => ?_⟩;subst hc;show ∃c',fog (JfT t _) = .s c';simp only [rdS] at h1;cases t <;> first | exact ⟨_,rfl⟩ | (simp [Ty.ag] at h1;done)
 | ip u t off=>
  simp only [ptM] at h;split at h
  ·rename_i u' j off';cases hb:(Nat.beq u u' && Nat.beq off off') with
   | false=>rw [hb] at h;cases h
   | true=>
    rw [hb] at h;simp only [Jk,Ja] at h;obtain ⟨l,h1,h2⟩:=h;cases h2;obtain ⟨_,h3⟩:=QX h1;obtain ⟨h4,h5,h7,_⟩:=hR.box t j (hq.g t j h3);obtain ⟨_,i,h6,h9,h8⟩:=hr;rw [Jh] at hb;have e1:=Jr hb.1;have e2:=Jr hb.2;subst e1;subst e2;exact ⟨⟨h4,i,h6,Jt h9 hR.nxt,fun w=>by rw [h5];exact h8 (h7 w)⟩,fun c hc=>⟨_,rfl⟩⟩
  ·cases h
 | w e t =>
  simp only [ptM] at h;split at h
  ·rename_i e' j n cp;split at h
   ·rename_i he;simp only [Ja] at h;obtain ⟨l,h1,h2⟩:=h;cases h2;subst he;obtain ⟨_,h3⟩:=QX h1;obtain ⟨h4,h5,h7,h8⟩:=hR.box t j (hq.g t j h3);obtain ⟨_,h6,h9⟩:=hr;exact ⟨⟨h4,⟨h6.1,h6.2.mono hR.nxt⟩,fun L hL=>by
     rw [h5,Ji];obtain ⟨u1,u2,u3⟩:=h9 L (h8 L hL);exact ⟨u1,u2,fun q=>by
      obtain ⟨sp,cap,v1,v2,v3,v4⟩:=u3 q;exact ⟨sp,cap,v1,v2,v3,fun q=>by cases q⟩⟩⟩,fun c hc=>⟨_,rfl⟩⟩
   ·cases h
  ·cases h
 | x=>
  simp only [ptM] at h;split at h
  ·rename_i c;cases hb:J9 [c] with
   | true=>rw [hb] at h;cases h
   | false=>rw [hb] at h;cases h;exact ⟨trivial,fun c hc=>⟨_,rfl⟩⟩
  ·cases h;exact ⟨trivial,fun c hc=>⟨_,rfl⟩⟩
def Qm (P:Program) (X:Cx) (av:Nat→Value):List (Nat × S1)→Prop
 | []=>True
 | (k,s)::r=>Ja3 P X s (av k)∧Qm P X av r
theorem JsN {bf:List Bf} {acc:Nat→Sl} : ∀{l:List (Nat × Pt)} {q q':GH} {x:SlE l},slM bf acc l q=some (x,q')→q.le q':=by
 intro l;induction l with
 | nil=>intro q q' x h;cases h;exact GH.le.refl _
 | cons p l ih=>
  intro q q' x h;obtain ⟨k,p⟩:=p;simp only [slM,Jp,Ja] at h;obtain ⟨⟨y,q1⟩,h1,⟨z,q2⟩,h2,h3⟩:=h;cases h3;exact (JsT h1).trans (ih h2)
theorem Joq {s:Sl} {w:Value} (h:J8 P X s w):Ja3 P X (unV s) w:=by
 cases s with
 | v s=>exact h
 | t l=>trivial
theorem JtV {bx:List (List Cl)} (hT:Jao P X bx) {acc:Nat→Sl} {av:Nat→Value} : ∀{l:List (Nat × Pt)} {q q' qf:GH} {x:SlE l},slM X.bf acc l q=some (x,q')→q'.le qf→(∀p∈l,J8 P X (acc p.1) (av p.1)) → ∀{rx rb:Nat→Nat},Ju4 X Y qf rx rb→Qm P Y av (slI rx rb l x):=by
 intro l;induction l with
 | nil=>intro q q' qf x h hq ha rx rb hR;trivial
 | cons p l ih=>
  intro q q' qf x h hq ha rx rb hR;obtain ⟨k,p⟩:=p;simp only [slM,Jp,Ja] at h;obtain ⟨⟨y,q1⟩,h1,⟨z,q2⟩,h2,h3⟩:=h;cases h3;exact ⟨(Jkt hT h1 ((JsN h2).trans hq) hR (Joq (ha (k,p) (by simp)))).1,ih h2 hq (fun p hp=>ha p (by simp [hp])) hR⟩
theorem Jq8 {q : GH} {rx rb : Nat → Nat} (hR : Ju4 X Y q rx rb) : ∀ {l0 l1 : List (ByteArray × Nat × Nat)} {es : List MapEntry}, JqJ rx q.g l0 l1 → Xj P X l0 es → Xj P Y l1 es := by
 intro l0;induction l0 with
 | nil=>intro l1 es h k;cases l1 with
  | nil=>cases es <;> exact k
  | cons=>exact h.elim
 | cons a l0 ih=>intro l1 es h k;cases l1 with
  | nil=>exact h.elim
  | cons b l1=>cases es with
   | nil=>exact k.elim
   | cons e es=>
    obtain ⟨⟨h1,h2,t,h3,h4⟩,h5⟩:=h;obtain ⟨⟨k1,k2,k3⟩,k4⟩:=k;refine ⟨⟨by rw [←h1];exact k1,by rw [←h2];exact k2, ?_⟩,ih h5 k4⟩
    rw [h3];obtain ⟨g4,g5,g7,_⟩:=hR.box t a.2.2 h4;obtain ⟨_,i,g6,g9,g8⟩:=k3;exact ⟨g4,i,g6,Jt g9 hR.nxt,fun w=>by rw [g5];exact g8 (g7 w)⟩
theorem Jjg {bf:List Bf} : ∀{l:List Pt} {cs:List Cl} {q q':GH} {x:CeE l},ceM bf l cs q=some (x,q')→q.le q':=by
 intro l;induction l with
 | nil=>intro cs q q' x h;cases cs with
  | nil=>cases h;exact GH.le.refl _
  | cons=>cases h
 | cons p l ih=>
  intro cs q q' x h;cases cs with
  | nil=>cases h
  | cons c cs=>
   simp only [ceM,Jp,Ja] at h;obtain ⟨⟨y,q1⟩,h1,⟨z,q2⟩,h2,h3⟩:=h;cases h3;exact (JsT h1).trans (ih h2)
theorem JuI {bx : List (List Cl)} (hT : Jao P X bx) : ∀ {l : List Pt} {cs : List Cl} {q q' qf : GH} {x : CeE l}, ceM X.bf l cs q = some (x, q') → q'.le qf → ∀ {rx rb : Nat → Nat}, Ju4 X Y qf rx rb → ∀ {ws : List Value}, Qa P X cs ws → Qa P Y (ceI rx rb l x) ws := by
 intro l;induction l with
 | nil=>intro cs q q' qf x h hq rx rb hR ws hr;cases cs with
  | nil=>cases ws with
   | nil=>trivial
   | cons=>exact hr.elim
  | cons=>cases h
 | cons p l ih=>
  intro cs q q' qf x h hq rx rb hR ws hr;cases cs with
  | nil=>cases h
  | cons c cs=>
   cases ws with
   | nil=>exact hr.elim
   | cons w ws=>
    simp only [ceM,Jp,Ja] at h;obtain ⟨⟨y,q1⟩,h1,⟨z,q2⟩,h2,h3⟩:=h;cases h3;obtain ⟨h4,h5⟩:=Jkt hT h1 ((Jjg h2).trans hq) hR (s := .s c) hr.1;obtain ⟨c',h6⟩:=h5 c rfl;refine ⟨?_,ih h2 hq hR hr.2⟩;show Jap P Y (Jam (ptI rx rb p y)) w;rw [h6] at h4 ⊢;exact h4
theorem isRun1 {c:Cl} (h1 : ∀o e xs,c ≠ .r o e xs) (h2 : ∀e xs,c ≠ .ra e xs) (h3:c ≠ .g) (h4 : ∀k l,c ≠ .mx k l) (h5 : ∀j s n t,c ≠ .mi j s n t) (h6 : ∀e l,c ≠ .ms e l) (h7:Qh c=false):J9 [c]=false∧Xo [c]=true∧JaQ [c]=none:=by
 cases c <;> first | exact ⟨rfl,rfl,rfl⟩|exact absurd rfl (h1 _ _ _) | exact absurd rfl (h2 _ _) | exact absurd rfl h3 | exact absurd rfl (h4 _ _) | exact absurd rfl (h5 _ _ _ _) | exact absurd rfl (h6 _ _) | cases h7
theorem JaC {t:Ty} {x:t.El}:J9 [Jam (JfT t x)]=false∧Xo [Jam (JfT t x)]=true∧JaQ [Jam (JfT t x)]=none:=by
 cases t <;> exact ⟨rfl,rfl,rfl⟩
theorem Jai {bf:List Bf} {t:Ty} {c:Cl} {x:t.El} (h:rdS bf t (.s c)=some x):J9 [c]=false∧Xo [c]=true∧JaQ [c]=none:=by
 have h7:Qh c=false:=by cases c <;> first | rfl | (cases t <;> cases h)
 refine isRun1 (fun o e xs q => ?_) (fun e xs q => ?_) (fun q => ?_) (fun k l q => ?_) (fun j s n t' q => ?_) (fun e l q => ?_) h7 <;> subst q <;> cases t <;> cases h
theorem JoK {bf:List Bf} {p:Pt} {c:Cl} {q q':GH} {y:PtE p} {rx rb:Nat→Nat} (h:ptM bf p (.s c) q=some (y,q')):Qh (Jam (ptI rx rb p y))=Qh c:=by
 have plain:J9 [Jam (ptI rx rb p y)]=false→J9 [c]=false→Qh (Jam (ptI rx rb p y))=Qh c:=fun h1 h2=>by
  have k1:=JqK h1;have k2:=JqK h2;rw [List.any_cons,JP] at k1 k2;rw [k1.1,k2.1]
 cases p with
 | v t=>
  simp only [ptM,Ja] at h;obtain ⟨y',h4,h5⟩:=h;cases h5;exact plain JaC.1 (Jai h4).1
 | va t=>
  simp only [ptM,Ja] at h;obtain ⟨y',h4,h5⟩:=h;cases h5;exact plain (Jbq _).1 (Jai h4).1
 | x=>
  simp only [ptM] at h;cases hb:J9 [c] with
  | true=>rw [hb] at h;cases h
  | false=>exact plain rfl hb
 | ns=>
  simp only [ptM] at h;split at h
  ·rename_i hs;cases hs;rfl
  ·cases h
 | _=>
  simp only [ptM] at h;split at h
  ·rename_i hs;cases hs;rfl
  ·cases h
theorem Jtp {bf:List Bf} {rx rb:Nat→Nat} : ∀{l:List Pt} {cs:List Cl} {q q':GH} {x:CeE l},ceM bf l cs q=some (x,q')→(ceI rx rb l x).any Qh=cs.any Qh:=by
 intro l;induction l with
 | nil=>intro cs q q' x h;cases cs with
  | nil=>rfl
  | cons=>cases h
 | cons p l ih=>
  intro cs q q' x h;cases cs with
  | nil=>cases h
  | cons c cs=>
   simp only [ceM,Jp,Ja] at h;obtain ⟨⟨y,q1⟩,h1,⟨z,q2⟩,h2,h3⟩:=h;cases h3;show (Jam (ptI rx rb p y)::ceI rx rb l z).any Qh=_;rw [List.any_cons,List.any_cons,ih h2,JoK h1]
theorem JoL {bf:List Bf} {p:Pt} {n:Nat} {e:Ty} {xs:List e.El} {q q':GH} {y:PtE p} {rx rb:Nat→Nat} (h:ptM bf p (.s (.sg n e xs)) q=some (y,q')):Jam (ptI rx rb p y) = .sg n e xs:=by
 cases p with
 | v t=>
  simp only [ptM,Ja] at h;obtain ⟨y',h4,h5⟩:=h;have:=(Jai h4).1
  cases this
 | va t=>
  simp only [ptM,Ja] at h;obtain ⟨y',h4,h5⟩:=h;have:=(Jai h4).1
  cases this
 | x=>cases h
 | sg n' e'=>
  simp only [ptM] at h;split at h
  ·rename_i hn;simp only [Ja] at h;obtain ⟨ys,h4,h5⟩:=h;cases h5;obtain ⟨rfl,rfl⟩:=Ja0 h4;subst hn;rfl
  ·cases h
 | _=>
  simp only [ptM] at h;cases h
theorem JsS {bf:List Bf} {p:Pt} {ks:List ByteArray} {q q':GH} {y:PtE p} {rx rb:Nat→Nat} (h:ptM bf p (.s (.mt ks)) q=some (y,q')):Jam (ptI rx rb p y) = .mt ks:=by
 cases p with
 | v t=>
  simp only [ptM,Ja] at h;obtain ⟨y',h4,h5⟩:=h;have:=(Jai h4).1
  cases this
 | va t=>
  simp only [ptM,Ja] at h;obtain ⟨y',h4,h5⟩:=h;have:=(Jai h4).1
  cases this
 | x=>cases h
 | mt ks'=>
  simp only [ptM] at h;split at h
  ·rename_i hn;cases h;subst hn;rfl
  ·cases h
 | _=>
  simp only [ptM] at h;cases h
theorem JuH {bf : List Bf} {rx rb : Nat → Nat} {l : List Pt} {cs : List Cl} {q q' : GH} {x : CeE l} (h : ceM bf l cs q = some (x, q')) : Jcn (ceI rx rb l x) = Jcn cs := by
 cases l with
 | nil=>cases cs with
  | nil=>rfl
  | cons=>cases h
 | cons p l=>
  cases cs with
  | nil=>cases h
  | cons c cs=>
   simp only [ceM,Jp,Ja] at h;obtain ⟨⟨y,q1⟩,h1,⟨z,q2⟩,h2,h3⟩:=h;cases h3;show Jcn (Jam (ptI rx rb p y)::ceI rx rb l z)=_;cases hs:Qh c with
   | true=>
    cases c with
    | sg n e xs=>rw [JoL h1];rfl
    | mt ks=>rw [JsS h1];rfl
    | _=>cases hs
   | false=>rw [JaJ hs,JaJ (by rw [JoK h1];exact hs)]
theorem Jsf {bx : List (List Cl)} (hT : Jao P X bx) : ∀ {l : List Pt} {cs : List Cl} {q q' qf : GH} {x : CeE l}, ceM X.bf l cs q = some (x, q') → q'.le qf → ∀ {rx rb : Nat → Nat}, Ju4 X Y qf rx rb → ∀ {ws : List Value}, JeD P X cs ws → JeD P Y (ceI rx rb l x) ws := by
 intro l;induction l with
 | nil=>intro cs q q' qf x h hq rx rb hR ws hr;cases cs with
  | nil=>exact hr
  | cons=>cases h
 | cons p l ih =>
  intro cs q q' qf x h hq rx rb hR ws hr;cases cs with
  | nil=>cases h
  | cons c cs=>
   obtain ⟨w1,w2,g1,g2,g3⟩:=hr;simp only [ceM,Jp,Ja] at h;obtain ⟨⟨y,q1⟩,h1,⟨z,q2⟩,h2,h3⟩:=h;cases h3;refine ⟨w1,w2,g1, ?_,ih h2 hq hR g3⟩;show Jt0 P Y (Jam (ptI rx rb p y)) w1;cases hs:Qh c with
   | true=>
    cases c with
    | sg n e xs=>
     rw [JoL h1];exact ⟨g2.1,g2.2.1,fun k x hx=>QR.mono hR.mono (g2.2.2 k x hx)⟩
    | mt ks=>rw [JsS h1];exact g2
    | _=>cases hs
   | false=>
    obtain ⟨w,k1,k2⟩:=(JaK hs).1 g2;obtain ⟨h4,h5⟩:=Jkt hT h1 ((Jjg h2).trans hq) hR (s := .s c) k2;obtain ⟨c',h6⟩:=h5 c rfl;refine (JaK (by rw [JoK h1];exact hs)).2 ⟨w,k1, ?_⟩
    rw [h6] at h4 ⊢;exact h4
theorem JfM : ∀{l:List (List Pt)} {t:Nat} {q q':GH} {x:BxE l},bxM vs l t q=some (x,q')→q.le q':=by
 intro l;induction l with
 | nil=>intro t q q' x h;cases h;exact GH.le.refl _
 | cons p l ih=>
  intro t q q' x h;simp only [bxM] at h;split at h
  ·split at h
   ·simp only [Jp,Ja] at h;obtain ⟨⟨y,q1⟩,h1,⟨z,q2⟩,h2,h3⟩:=h;cases h3;exact (Jjg h1).trans (ih h2)
   ·cases h
  ·cases h
theorem JpM {bf : List Bf} {l : List Pt} {cs : List Cl} {q q' : GH} {x : CeE l} (h : ceM bf l cs q = some (x, q')) (rx rb : Nat → Nat) :
  J9 (ceI rx rb l x)=J9 cs∧Xo (ceI rx rb l x)=Xo cs∧JaQ (ceI rx rb l x)=JaQ cs ∧
   (J9 cs=true→(∃own e xs,cs = [.r own e xs]∧ceI rx rb l x = [.r false e xs])∨(∃e xs,cs = [.ra e xs]∧ceI rx rb l x = [.ra e xs])∨(cs = [.g]∧ceI rx rb l x = [.g])∨(∃c l0 l1,cs = [.mx c l0]∧ceI rx rb l x = [.mx c l1]∧JqJ rx q'.g l0 l1)∨(∃e xs,cs = [.ms e xs]∧ceI rx rb l x = [.ms e xs])∨cs.any Qh=true):=by
 cases l with
 | nil=>cases cs with
  | nil=>cases h;exact ⟨rfl,rfl,rfl,fun q=>by cases q⟩
  | cons=>cases h
 | cons p l =>
  cases cs with
  | nil=>cases h
  | cons c cs =>
   simp only [ceM,Jp,Ja] at h;obtain ⟨⟨y,q1⟩,h1,⟨z,q2⟩,h2,h3⟩:=h;cases h3;cases l with
   | nil=>
    cases cs with
    | cons=>cases h2
    | nil=>
     cases h2;show J9 [Jam (ptI rx rb p y)]=_∧Xo [Jam (ptI rx rb p y)]=_∧JaQ [Jam (ptI rx rb p y)]=_∧(_→(∃own e xs,_ ∧ [Jam (ptI rx rb p y)]=_)∨(∃e xs,_ ∧ [Jam (ptI rx rb p y)]=_)∨(_ ∧ [Jam (ptI rx rb p y)]=_)∨(∃c l0 l1,_ ∧ [Jam (ptI rx rb p y)]=_∧JqJ rx q1.g l0 l1)∨(∃e xs,_ ∧ [Jam (ptI rx rb p y)]=_)∨_);have plain:J9 [Jam (ptI rx rb p y)]=false∧Xo [Jam (ptI rx rb p y)]=true∧JaQ [Jam (ptI rx rb p y)]=none→J9 [c]=false∧Xo [c]=true∧JaQ [c]=none→J9 [Jam (ptI rx rb p y)]=J9 [c]∧Xo [Jam (ptI rx rb p y)]=Xo [c]∧JaQ [Jam (ptI rx rb p y)]=JaQ [c]∧(J9 [c]=true→(∃own e xs, [c] = [.r own e xs] ∧ [Jam (ptI rx rb p y)] = [.r false e xs])∨(∃e xs, [c] = [.ra e xs] ∧ [Jam (ptI rx rb p y)] = [.ra e xs])∨([c] = [.g] ∧ [Jam (ptI rx rb p y)] = [.g])∨(∃k l0 l1, [c] = [.mx k l0] ∧ [Jam (ptI rx rb p y)] = [.mx k l1]∧JqJ rx q1.g l0 l1)∨(∃e xs, [c] = [.ms e xs] ∧ [Jam (ptI rx rb p y)] = [.ms e xs]) ∨ [c].any Qh=true):=by
      intro ⟨a1,a2,a3⟩ ⟨b1,b2,b3⟩;exact ⟨a1.trans b1.symm,a2.trans b2.symm,a3.trans b3.symm,fun q=>by rw [b1] at q;cases q⟩
     cases p with
     | v t=>
      simp only [ptM,Ja] at h1;obtain ⟨y',h4,h5⟩:=h1;cases h5;exact plain JaC (Jai h4)
     | o t=>
      simp only [ptM] at h1;split at h1
      ·rename_i hs;cases hs;exact plain ⟨rfl,rfl,rfl⟩ ⟨rfl,rfl,rfl⟩
      ·cases h1
     | p t off=>
      simp only [ptM] at h1;split at h1
      ·rename_i hs;cases hs;exact plain ⟨rfl,rfl,rfl⟩ ⟨rfl,rfl,rfl⟩
      ·cases h1
     | fn f=>
      simp only [ptM] at h1;split at h1
      ·rename_i hs;cases hs;exact plain ⟨rfl,rfl,rfl⟩ ⟨rfl,rfl,rfl⟩
      ·cases h1
     | m e t=>
      simp only [ptM] at h1;split at h1
      ·rename_i hs;cases hs;exact plain ⟨rfl,rfl,rfl⟩ ⟨rfl,rfl,rfl⟩
      ·cases h1
     | r e=>
      simp only [ptM] at h1;split at h1
      ·rename_i own e' xs hs;cases hs;simp only [Ja] at h1;obtain ⟨ys,h4,h5⟩:=h1;cases h5;obtain ⟨rfl,rfl⟩:=Ja0 h4;exact ⟨rfl,rfl,rfl,fun _ => .inl ⟨_,_,_,rfl,rfl⟩⟩
      ·cases h1
     | ra e=>
      simp only [ptM] at h1;split at h1
      ·rename_i e' xs hs;cases hs;simp only [Ja] at h1;obtain ⟨ys,h4,h5⟩:=h1;cases h5;obtain ⟨rfl,rfl⟩:=Ja0 h4;exact ⟨rfl,rfl,rfl,fun _ => .inr (.inl ⟨_,_,rfl,rfl⟩)⟩
      ·cases h1
     | g=>
      simp only [ptM] at h1;split at h1
      ·rename_i hs;cases hs;exact ⟨rfl,rfl,rfl,fun _ => .inr (.inr (.inl ⟨rfl,rfl⟩))⟩
      ·cases h1
     | mv t=>
      simp only [ptM] at h1;split at h1
      ·rename_i hs;cases hs;exact plain ⟨rfl,rfl,rfl⟩ ⟨rfl,rfl,rfl⟩
      ·cases h1
     | mx k l=>
      simp only [ptM] at h1;split at h1
      ·rename_i k' l' hs;cases hs;cases hb:(Nat.beq k k' && eqK l l') with
       | false=>rw [hb] at h1;cases h1
       | true=>
        rw [hb] at h1;simp only [Jk,Ja] at h1;obtain ⟨g,h4,h5⟩:=h1;cases h5;rw [Jh] at hb;have:=Jr hb.1
        subst this;exact ⟨rfl,rfl,rfl,fun _ => .inr (.inr (.inr (.inl ⟨_,_,_,rfl,rfl,(JoP rx h4 hb.2).2⟩)))⟩
      ·cases h1
     | sg n e=>
      simp only [ptM] at h1;split at h1
      ·rename_i n' e' xs hs;cases hs;exact ⟨rfl,rfl,rfl,fun _ => .inr (.inr (.inr (.inr (.inr rfl))))⟩
      ·cases h1
     | mt ks=>
      simp only [ptM] at h1;split at h1
      ·rename_i ks' hs;cases hs;exact ⟨rfl,rfl,rfl,fun _ => .inr (.inr (.inr (.inr (.inr rfl))))⟩
      ·cases h1
     | ms e=>
      simp only [ptM] at h1;split at h1
      ·rename_i e' xs hs;cases hs;simp only [Ja] at h1;obtain ⟨ys,h4,h5⟩:=h1;cases h5;obtain ⟨rfl,rfl⟩:=Jsh h4;exact ⟨rfl,rfl,rfl,fun _ => .inr (.inr (.inr (.inr (.inl ⟨_,_,rfl,rfl⟩))))⟩
      ·cases h1
     | ns=>
      simp only [ptM] at h1;split at h1
      ·rename_i hs;cases hs;exact plain ⟨rfl,rfl,rfl⟩ ⟨rfl,rfl,rfl⟩
      ·cases h1
     | nl=>
      simp only [ptM] at h1;split at h1
      ·rename_i hs;cases hs;exact plain ⟨rfl,rfl,rfl⟩ ⟨rfl,rfl,rfl⟩
      ·cases h1
     | sb e n t=>
      simp only [ptM] at h1;split at h1
      ·rename_i hs;cases hs;exact plain ⟨rfl,rfl,rfl⟩ ⟨rfl,rfl,rfl⟩
      ·cases h1
     | ki k n=>
      simp only [ptM] at h1;split at h1
      ·rename_i hs;cases hs;exact plain ⟨rfl,rfl,rfl⟩ ⟨rfl,rfl,rfl⟩
      ·cases h1
     | kt n=>
      simp only [ptM] at h1;split at h1
      ·rename_i hs;cases hs;exact plain ⟨rfl,rfl,rfl⟩ ⟨rfl,rfl,rfl⟩
      ·cases h1
     | va t=>
      simp only [ptM,Ja] at h1;obtain ⟨y',h4,h5⟩:=h1;cases h5;exact plain (Jbq _) (Jai h4)
     | ip u t off=>
      simp only [ptM] at h1;split at h1
      ·rename_i hs;cases hs;exact plain ⟨rfl,rfl,rfl⟩ ⟨rfl,rfl,rfl⟩
      ·cases h1
     | w e t=>
      simp only [ptM] at h1;split at h1
      ·rename_i hs;cases hs;exact plain ⟨rfl,rfl,rfl⟩ ⟨rfl,rfl,rfl⟩
      ·cases h1
     | x=>
      have hb:J9 [c]=false:=by
       simp only [ptM] at h1;cases hb:J9 [c] with
       | true=>rw [hb] at h1;cases h1
       | false=>rfl
      exact plain ⟨rfl,rfl,rfl⟩ ⟨hb,Qs hb,XN hb⟩
   | cons p2 l=>
    cases cs with
    | nil=>cases h2
    | cons c2 cs=>
     obtain ⟨a1,a2,a3⟩:=JbO c c2 cs;obtain ⟨b1,b2,b3⟩:=JbO (Jam (ptI rx rb p y)) (Jam (ptI rx rb p2 z.1)) (ceI rx rb l z.2);have hsg:(ceI rx rb (p::p2::l) (y,z)).any Qh=(c::c2::cs).any Qh:=Jtp (show ceM bf (p::p2::l) (c::c2::cs) q=some ((y,z),q2) by
      simp only [ceM,Jp,Ja] at h2 ⊢;exact ⟨_,h1,_,h2,rfl⟩)
     exact ⟨(b1.trans hsg).trans a1.symm,b2.trans a2.symm,b3.trans a3.symm,fun q=>by rw [a1] at q;exact .inr (.inr (.inr (.inr (.inr q))))⟩
theorem JpV {bx : List (List Cl)} (hbx : vs.bx = bx) (rx rb : Nat → Nat) : ∀ {l : List (List Pt)} {t : Nat} {q q' : GH} {x : BxE l}, bxM vs l t q = some (x, q') →
  (bxI rx rb l x).length=l.length ∧ ∀(i:Nat) cs',(bxI rx rb l x)[i]? = some cs' → ∃j cs,q'.g[t+i]? = some j∧bx[j]? = some cs∧J9 cs'=J9 cs∧Xo cs'=Xo cs∧JaQ cs'=JaQ cs ∧
   (J9 cs=true→(∃own e xs,cs = [.r own e xs]∧cs' = [.r false e xs])∨(∃e xs,cs = [.ra e xs]∧cs' = [.ra e xs])∨(cs = [.g]∧cs' = [.g])∨(∃c l0 l1,cs = [.mx c l0]∧cs' = [.mx c l1]∧JqJ rx q'.g l0 l1)∨(∃e xs,cs = [.ms e xs]∧cs' = [.ms e xs])∨(cs.any Qh=true∧cs'.any Qh=true∧Jcn cs'=Jcn cs)):=by
 intro l;induction l with
 | nil=>intro t q q' x h;exact ⟨rfl,fun i cs' hi=>by cases hi⟩
 | cons p l ih =>
  intro t q q' x h;simp only [bxM] at h;split at h
  ·rename_i j hj;split at h
   ·rename_i cs hcs;simp only [Jp,Ja] at h;obtain ⟨⟨y,q1⟩,h1,⟨z,q2⟩,h2,h3⟩:=h;cases h3;obtain ⟨h4,h5⟩:=ih h2;refine ⟨by show (_::_).length=_;simp [h4],fun i cs' hi => ?_⟩
    cases i with
    | zero=>
     cases hi;obtain ⟨k1,k2,k3,k4⟩:=JpM h1 rx rb;refine ⟨j,cs,((Jjg h1).trans (JfM h2)).g t j hj,by rw [←hbx];exact hcs,k1,k2,k3,fun w => ?_⟩
     rcases k4 w with k4 | k4 | k4|⟨c,l0,l1,u1,u2,u3⟩|k4 | k4
     ·exact .inl k4
     ·exact .inr (.inl k4)
     ·exact .inr (.inr (.inl k4))
     ·exact .inr (.inr (.inr (.inl ⟨c,l0,l1,u1,u2,u3.le (JfM h2).g⟩)))
     ·exact .inr (.inr (.inr (.inr (.inl k4))))
     ·exact .inr (.inr (.inr (.inr (.inr ⟨k4,(Jtp h1).trans k4,JuH h1⟩))))
    | succ i=>
     obtain ⟨j',cs2,h6,h7⟩:=h5 i cs' hi;exact ⟨j',cs2,by rw [show t+(i+1)=t+1+i by omega];exact h6,h7⟩
   ·cases h
  ·cases h
theorem Ju0 {bx : List (List Cl)} (hT : Jao P X bx) (hbf : vs.bf = X.bf) (hbx : vs.bx = bx) : ∀ {l : List (List Pt)} {t : Nat} {q q' qf : GH} {x : BxE l}, bxM vs l t q = some (x, q') → q'.le qf → ∀ {rx rb : Nat → Nat}, Ju4 X Y qf rx rb →
  ∀(i:Nat) cs',(bxI rx rb l x)[i]? = some cs' → ∃j cs,qf.g[t+i]? = some j∧bx[j]? = some cs∧(∀{ws:List Value},Qa P X cs ws→Qa P Y cs' ws) ∧ ∀{ws:List Value},JeD P X cs ws→JeD P Y cs' ws:=by
 intro l;induction l with
 | nil=>intro t q q' qf x h hq rx rb hR i cs' hi;cases hi
 | cons p l ih =>
  intro t q q' qf x h hq rx rb hR i cs' hi;simp only [bxM] at h;split at h
  ·rename_i j hj;split at h
   ·rename_i cs hcs;simp only [Jp,Ja] at h;obtain ⟨⟨y,q1⟩,h1,⟨z,q2⟩,h2,h3⟩:=h;cases h3;cases i with
    | zero=>
     cases hi;rw [hbf] at h1;exact ⟨j,cs,((Jjg h1).trans ((JfM h2).trans hq)).g t j hj,by rw [←hbx];exact hcs,fun hr=>JuI hT h1 ((JfM h2).trans hq) hR hr,fun hr=>Jsf hT h1 ((JfM h2).trans hq) hR hr⟩
    | succ i=>
     obtain ⟨j',cs2,h6,h7,h8⟩:=ih h2 hq hR i cs' hi;exact ⟨j',cs2,by rw [show t+(i+1)=t+1+i by omega];exact h6,h7,h8⟩
   ·cases h
  ·cases h
theorem Jp1 {bf : List Bf} : ∀ {l : List Ty} {h : List Nat} {x : BfE l}, bfM bf l h = some x → (bfI l x).length = h.length ∧ ∀ (t : Nat) (b' : Bf), (bfI l x)[t]? = some b' → ∃ j, h[t]? = some j ∧ bf[j]? = some b' := by
 intro l;induction l with
 | nil=>intro h x hx;cases h with
  | nil=>exact ⟨rfl,fun t b' hb=>by cases hb⟩
  | cons=>cases hx
 | cons ty l ih =>
  intro h x hx;cases h with
  | nil=>cases hx
  | cons j h =>
   simp only [bfM] at hx;split at hx
   ·rename_i b hb;cases hl:(b.live && !b.cap) with
    | false=>rw [hl] at hx;cases hx
    | true=>
     rw [hl] at hx;simp only [Jk,Jp,Ja] at hx;obtain ⟨ys,h1,z,h2,h3⟩:=hx;cases h3;obtain ⟨h4,h5⟩:=ih h2;refine ⟨by show (_::_).length=_;simp [h4],fun t b' hb' => ?_⟩
     cases t with
     | zero=>
      cases hb';refine ⟨j,rfl, ?_⟩;rw [hb];obtain ⟨e,hys⟩:=XH h1;subst hys;obtain ⟨be,bxs,bl,bc⟩:=b;dsimp only at e hl;subst e;simp only [Jh,Bool.not_eq_true'] at hl;rw [hl.1,hl.2]
     | succ t=>exact h5 t b' hb'
   ·cases hx
theorem JaX : ∀{l:List Nat},Jbj l=true → ∀(i j a:Nat),l[i]? = some a→l[j]? = some a→i=j:=by
 intro l;induction l with
 | nil=>intro _ i j a h;simp at h
 | cons b l ih=>
  intro h i j a hi hj;simp only [Jbj,Jh] at h;obtain ⟨h1,h2⟩:=h;have hno : ∀(k:Nat),l[k]? ≠ some b:=by
   intro k hk;have:l.any (Nat.beq b)=true:=List.any_eq_true.2 ⟨b,JW hk,by simp⟩
   rw [this] at h1;cases h1
  cases i with
  | zero=>cases j with
   | zero=>rfl
   | succ j=>cases hi;exact absurd hj (hno j)
  | succ i=>cases j with
   | zero=>cases hj;exact absurd hi (hno i)
   | succ j=>rw [ih h2 i j a hi hj]
def Env.sub (env:Env) (q:GH) (p:Prop):Env := { τ:=fun t=>match q.h[t]? with | some j=>env.τ j | none=>none,β:=fun t=>match q.g[t]? with | some j=>env.β j | none=>0,φ:=fun i=>p∧env.φ i }
theorem Jbk {bx : List (List Cl)} (hT : Jao P X bx) (hbf : vs.bf = X.bf) (hbx : vs.bx = bx) {t : Tm} {acc : Nat → Sl} {av : Nat → Value} (hacc : ∀ p ∈ t.sl, J8 P X (acc p.1) (av p.1)) {g0 : List Nat} {x : t.E} {q : GH} (hm : t.mat acc vs g0 = some (x, q))
  {p:Prop} (hp:q.g ≠ []→p) {S0:Nat→Prop} (hS : ∀i,S0 i→X.S i) (N:Nat) :
  Jao P ((t.inst N x).cx S0 (X.env.sub q p) X.m) (t.inst N x).bx∧Qm P ((t.inst N x).cx S0 (X.env.sub q p) X.m) av (slI id id t.sl x.1)∧q.g.length=t.bx.length∧(t.inst N x).bx.length=t.bx.length∧(t.inst N x).bf.length=q.h.length∧Jeb g0 q.g ∧
  (∀(k:Nat) (b:Bf),(t.inst N x).bf[k]? = some b → ∃j,q.h[k]? = some j∧X.bf[j]? = some b)∧(∀(k j:Nat),q.g[k]? = some j→j<bx.length∧JM (t.inst N x).bx k=JM bx j∧lenOf (t.inst N x).bx k=lenOf bx j)∧Jbj q.g=true∧Jbj q.h=true:=by
 simp only [Tm.mat,Jp] at hm;obtain ⟨⟨x1,q1⟩,h1,⟨x2,q2⟩,h2,hm⟩:=hm;cases hc:(Nat.beq q2.g.length t.bx.length && Jbj q2.g && Jbj q2.h) with
 | false=>rw [hc] at hm;cases hm
 | true=>
  rw [hc] at hm;simp only [Jk,Ja] at hm;obtain ⟨z,h3,h4⟩:=hm;cases h4;simp only [Jh] at hc;obtain ⟨⟨hc1,hc2⟩,hc3⟩:=hc;have hgl:q.g.length=t.bx.length:=Jr hc1;rw [hbf] at h1 h3;obtain ⟨hb1,hb2⟩:=Jp1 h3;obtain ⟨hsl,hshape⟩:=JpV hbx id id h2;have hgj : ∀(k j:Nat),q.g[k]? = some j → ∃cs cs',bx[j]? = some cs∧(bxI id id t.bx x2)[k]? = some cs'∧Xo cs'=Xo cs∧JaQ cs'=JaQ cs:=by
   intro k j hk;have hkl:k<(bxI id id t.bx x2).length:=by rw [hsl,←hgl];exact Jx hk
   obtain ⟨j',cs,g4,g5,_,g6,g7,_⟩:=hshape k (bxI id id t.bx x2)[k] (by simp [hkl]);rw [JG,hk] at g4;cases g4;exact ⟨cs,_,g5,by simp [hkl],g6,g7⟩
  have hhas : ∀(k j:Nat),q.g[k]? = some j→JM (t.inst N (x1,x2,z)).bx k=JM bx j:=by
   intro k j hk;obtain ⟨cs,cs',g1,g2,g3,_⟩:=hgj k j hk;rw [JK g1,←g3];exact JK (bx:=bxI id id t.bx x2) g2
  have hlenk : ∀(k j:Nat),q.g[k]? = some j→lenOf (t.inst N (x1,x2,z)).bx k=lenOf bx j:=by
   intro k j hk;obtain ⟨cs,cs',g1,g2,_,g3⟩:=hgj k j hk;rw [QN g1,←g3];exact QN (bx:=bxI id id t.bx x2) g2
  have hjl : ∀(k j:Nat),q.g[k]? = some j→j<bx.length:=fun k j hk=>by obtain ⟨cs,_,hcs,_⟩:=hgj k j hk;exact Jx hcs
  have hβ : ∀(k j:Nat),q.g[k]? = some j→(X.env.sub q p).β k=X.env.β j:=fun k j hk=>by show (match q.g[k]? with | some j=>_ | none=>_)=_;rw [hk]
  have hτ : ∀(k j:Nat),q.h[k]? = some j→(X.env.sub q p).τ k=X.env.τ j:=fun k j hk=>by show (match q.h[k]? with | some j=>_ | none=>_)=_;rw [hk]
  have hnb:((t.inst N (x1,x2,z)).cx S0 (X.env.sub q p) X.m).nb=q.g.length:=by show (bxI id id t.bx x2).length=_;rw [hsl,hgl]
  have hSle : ∀i,(t.inst N (x1,x2,z)).S S0 (X.env.sub q p) i→X.S i:=by
   intro i w;rcases w with w|⟨k,hk,hh,he⟩|w
   ·exact hS i w
   ·have hk':k<q.g.length:=by rw [←hnb];exact hk
    have hgk:q.g[k]? = some q.g[k]:=by simp [hk']
    rw [hβ k _ hgk] at he;rw [hhas k _ hgk] at hh;rw [←he];exact hT.inS _ (by rw [hT.nb];exact hjl k _ hgk) (by rw [hT.has];exact hh)
   ·exact hT.φS i w.2
  have hmono:Jex X.S X.m ((t.inst N (x1,x2,z)).S S0 (X.env.sub q p)) X.m:=fun i r hr hn=>⟨hr,fun w=>hn (hSle i w)⟩
  have hR:Ju4 X ((t.inst N (x1,x2,z)).cx S0 (X.env.sub q p) X.m) q id id:=by
   refine ⟨hmono,Je _,fun _ _ q=>q,fun k j hk=>⟨by rw [hnb];exact Jx hk,hβ k j hk,fun w => ?_,fun L w => ?_⟩,fun k j b hk hb => ?_⟩
   ·rw [hT.has,←hhas k j hk];exact w
   ·rw [hT.len,←hlenk k j hk];exact w
   ·have hkl:k<(bfI t.bf z).length:=by rw [hb1];exact Jx hk
    obtain ⟨j',h5,h6⟩:=hb2 k (bfI t.bf z)[k] (by simp [hkl]);rw [hk] at h5;cases h5;rw [hb] at h6;refine ⟨b.live, ?_,hτ k j hk⟩;show (bfI t.bf z)[k]? = some b;rw [h6];simp [hkl]
  have hbr2:=Ju0 (rx:=id) (rb:=id) hT hbf hbx h2 (GH.le.refl _) hR;have hfr:Fr2 (fun _=>False) (fun _=>False) X.m X.m:=Fr2.refl hT.free;have hbd : ∀k k',k<q.g.length→k'<q.g.length→JM (t.inst N (x1,x2,z)).bx k=true→JM (t.inst N (x1,x2,z)).bx k'=true→(X.env.sub q p).β k=(X.env.sub q p).β k'→k=k':=by
   intro k k' g1' g2' a1 a2 ge;have hk:q.g[k]? = some q.g[k]:=by simp [g1']
   have hk':q.g[k']? = some q.g[k']:=by simp [g2']
   have ge':X.env.β q.g[k]=X.env.β q.g[k']:=(hβ _ _ hk).symm.trans (ge.trans (hβ _ _ hk'))
   have heq:=hT.bxd _ _ (by rw [hT.nb];exact hjl k _ hk) (by rw [hT.nb];exact hjl k' _ hk') (by rw [hT.has,←hhas _ _ hk];exact a1) (by rw [hT.has,←hhas _ _ hk'];exact a2) ge'
   exact JaX hc2 k k' _ hk (by rw [heq];exact hk')
  refine ⟨⟨hT.free,hT.bar,rfl,rfl,rfl,fun k hk hh => .inr (.inl ⟨k,hk,hh,rfl⟩),fun i w=>hT.slt i (hSle i w),fun k b hb => ?_,fun k k' b b' i g1 g2 l1 l2 t1 t2 => ?_,fun k cs hcs => ?_,fun k k' g1 g2 a1 a2 ge => ?_,fun i w => .inr (.inr w),fun k hk hh w => ?_,hT.rts,hT.unq⟩,
   JtV hT h1 (JfM h2) hacc hR,hgl,hsl,hb1,((JsN h1).trans (JfM h2)).g,hb2,fun k j hk=>⟨hjl k j hk,hhas k j hk,hlenk k j hk⟩,hc2,hc3⟩
  ·obtain ⟨j,h5,h6⟩:=hb2 k b hb;exact XV.le (Y:=(t.inst N (x1,x2,z)).cx S0 (X.env.sub q p) X.m) hfr hmono (fun _ w=>w.elim) (hτ k j h5) (hT.bf j b h6) (fun _ _ _ w=>w)
  ·obtain ⟨j,h5,h6⟩:=hb2 k b g1;obtain ⟨j',h5',h6'⟩:=hb2 k' b' g2;have t1':X.env.τ j=some i:=(hτ k j h5).symm.trans t1
   have t2':X.env.τ j'=some i:=(hτ k' j' h5').symm.trans t2
   have:=hT.bfd j j' b b' i h6 h6' l1 l2 t1' t2'
   subst this;exact JaX hc3 k k' j h5 h5'
  ·obtain ⟨j,cs0,h5,h6,k1,k2,k3,k4⟩:=hshape k cs hcs;obtain ⟨j2,cs2,h5',h6',h7,h7g⟩:=hbr2 k cs hcs;rw [JG] at h5 h5';rw [h5] at h5';cases h5';rw [h6] at h6';cases h6';have hb:((t.inst N (x1,x2,z)).cx S0 (X.env.sub q p) X.m).env.β k=X.env.β j:=hβ k j h5;have hgne:q.g ≠ []:=fun e=>by rw [e] at h5;simp at h5
   have runle : ∀{arr:Bool} {e:Ty} {xs:List e.El},JaA P X j arr e xs→JaA P ((t.inst N (x1,x2,z)).cx S0 (X.env.sub q p) X.m) k arr e xs:=fun hr=>
    JaA.le (X:=X) (Y:=(t.inst N (x1,x2,z)).cx S0 (X.env.sub q p) X.m) (Wb:=fun _=>False) (Wl:=fun _=>False) hT.free hT.rts hfr hmono (fun i w=>⟨hp hgne,w⟩) (fun _=>hb) hr (fun _ w=>w) (fun _ w=>w)
   cases hrun:J9 cs0 with
   | false=>
    refine Qy.of (k1.trans hrun) ?_;obtain ⟨b,c,e,fr,g1,g2,g3,g4,g5,g7⟩:=(hT.bx j cs0 h6).cel hrun;unfold JeA;rw [hb];exact ⟨b,c,e,fr,g1,g2,g3,g4,g5,h7 g7⟩
   | true=>
    rcases k4 hrun with ⟨own,e,xs,rfl,rfl⟩|⟨e,xs,rfl,rfl⟩|⟨rfl,rfl⟩|⟨c,l0,l1,rfl,rfl,hren⟩|⟨e,xs,rfl,rfl⟩|⟨hs0,hs1,htg⟩
    ·have hB:=hT.bx j _ h6;exact ⟨runle hB.1,fun q=>by cases q⟩
    ·exact runle (hT.bx j _ h6)
    ·trivial
    ·obtain ⟨k0,es,g1,g2,g3,g4,g5,g7⟩:=hT.bx j _ h6;show Jf8 P _ k c l1;unfold Jf8;rw [hb];exact ⟨k0,es,g1,g2,g3,g4,g5,Jq8 hR hren g7⟩
    ·obtain ⟨k0,es,ck,g1,g2,g3,g4,g5,g7⟩:=hT.bx j _ h6;show Jqr P _ k e xs;unfold Jqr;rw [hb];exact ⟨k0,es,ck,g1,g2,g3,g4,g5,g7.mono hR.mono⟩
    ·refine Qy.ofSg hs1 ?_;obtain ⟨k0,ws,g1,g3,g4,g5,g7,g8⟩:=(hT.bx j cs0 h6).sg hs0;unfold JbP;rw [hb];exact ⟨k0,ws,g1,g3,g4,g5,h7g g7,by rw [htg];exact g8⟩
  ·exact hbd k k' (by rw [←hnb];exact g1) (by rw [←hnb];exact g2) a1 a2 ge
  ·have hk':k<q.g.length:=by rw [←hnb];exact hk
   have hgk:q.g[k]? = some q.g[k]:=by simp [hk']
   have w':X.env.φ ((X.env.sub q p).β k):=w.2
   rw [hβ k _ hgk] at w';exact hT.φd _ (by rw [hT.nb];exact hjl k _ hgk) (by rw [hT.has,←hhas k _ hgk];exact hh) w'
end Go.IM.V
namespace Go.IM.V
open Go Go.IM
variable {P:Program} {m m1:M} {S0:Nat→Prop} {env env1:Env} {a:Act} {vs:VS} {X Y:Cx}
def Tm.cx (t:Tm) (x:t.E) (S0:Nat→Prop) (env:Env) (m:M):Cx:=(t.inst 0 x).cx S0 env m
structure JbJ (P:Program) (X:Cx) (S0:Nat→Prop) (env1:Env) (m1:M) (t:Tm) (x:t.E):Prop where
 fr:Fr2 (Wb X) (Wl X) X.m m1
 T:Jao P (t.cx x S0 env1 m1) (t.inst 0 x).bx
 β : ∀j,j<X.nb→j<t.bx.length∧((t.cx x S0 env1 m1).has j=true→env1.β j=X.env.β j)
 wb : ∀i,Wb (t.cx x S0 env1 m1) i→Wb X i∨X.m.nxt≤i
 wl : ∀i,Wl (t.cx x S0 env1 m1) i→Wl X i∨Wb X i∨X.m.nxt≤i
 has : ∀j,j<X.nb→(t.cx x S0 env1 m1).has j=true→X.has j=true
 len : ∀j L,j<X.nb→(t.cx x S0 env1 m1).len j=some L→X.len j=some L
 φ : ∀i,X.env.φ i→env1.φ i
def Jf9 (X:Cx):Prop := ∀i,Wb X i→X.m.bar≤i
def JsI (P:Program) (Y:Cx) (e:Out) (sl:List (Nat × S1)) (c:Jn4):Prop:=
 match e with
 | .ret => ∃v,c = .ret v∧J8 P Y (JiI sl) v
 | .pnc w=>c = .pnc w
 | _=>False
def Con.OK (P:Program) [Orc P] (k:FuncId) (con:Con):Prop:=
 ∀x y,con.F x=some y → ∀(S0:Nat→Prop) (env:Env) (m:M) (args:Array Value),Jao P (con.ins.cx x S0 env m) (con.ins.inst 0 x).bx→Jf9 (con.ins.cx x S0 env m)→Qm P (con.ins.cx x S0 env m) (fun i=>args.getD i undef) (slI id id con.ins.sl x.1)→args.size=con.ins.sl.length →
  ∃c m1 env1,Cal P k args m c m1∧JbJ P (con.ins.cx x S0 env m) S0 env1 m1 (con.out.out y).2.1 (con.out.out y).2.2 ∧
   JsI P ((con.out.out y).2.1.cx (con.out.out y).2.2 S0 env1 m1) (con.out.out y).1 (slI id id (con.out.out y).2.1.sl (con.out.out y).2.2.1) c
def Con.OKR (P:Program) [Orc P] (k:FuncId) (con:Con):Prop:=
 ∀x y,con.F x=some y → ∀(S0:Nat→Prop) (env:Env) (m:M) (args:Array Value),Jao P (con.ins.cx x S0 env m) (con.ins.inst 0 x).bx→Qm P (con.ins.cx x S0 env m) (fun i=>args.getD i undef) (slI id id con.ins.sl x.1)→args.size=con.ins.sl.length →
  ∃c m1 env1,Cal P k args m c m1∧JbJ P (con.ins.cx x S0 env m) S0 env1 m1 (con.out.out y).2.1 (con.out.out y).2.2 ∧
   JsI P ((con.out.out y).2.1.cx (con.out.out y).2.2 S0 env1 m1) (con.out.out y).1 (slI id id (con.out.out y).2.1.sl (con.out.out y).2.2.1) c
def Con.LOK (P:Program) [Orc P] (N:Nat) (b:Code) (con:Con):Prop:=
 ∀x y,con.F x=some y → ∀(S0:Nat→Prop) (env:Env) (m:M) (a:Act),N≤a.tmps.size→Jao P (con.ins.cx x S0 env m) (con.ins.inst 0 x).bx→Jf9 (con.ins.cx x S0 env m)→Qm P (con.ins.cx x S0 env m) (fun i=>a.tmps.getD i undef) (slI id id con.ins.sl x.1) →
  ∃a1 m1 env1,Ev.To P (.loop b) a m (con.out.out y).1 a1 m1∧JbJ P (con.ins.cx x S0 env m) S0 env1 m1 (con.out.out y).2.1 (con.out.out y).2.2∧(con.out.out y).1 ≠ .normal∧a1.defers=a.defers ∧
   Qm P ((con.out.out y).2.1.cx (con.out.out y).2.2 S0 env1 m1) (fun i=>a1.tmps.getD i undef) (slI id id (con.out.out y).2.1.sl (con.out.out y).2.2.1)
def keyR (k:Nat):Bool:=Nat.ble 3000000 k && Nat.blt k 4000000
def JaU (P:Program) [Orc P]:Tab→Prop
 | []=>True
 | (k,c)::l=>(bif keyR k then c.OKR P (k - 3000000) else c.OK P k)∧JaU P l
theorem Jum {k:Nat} (h:Nat.blt k 1000000=true):keyR k=false:=by
 unfold keyR;have h1:=JC (show Nat.ble (k+1) 1000000=true from h);have:Nat.ble 3000000 k=false:=by
  cases hq:Nat.ble 3000000 k with
  | false=>rfl
  | true=>have:=JC hq;omega
 rw [this];rfl
theorem JaU.gets [Orc P] {C:Tab} (h:JaU P C) {k:Nat} (hk:Nat.blt k 1000000=true) : ∀c∈Jb9 C k,c.OK P k:=by
 induction C with
 | nil=>intro c hc;cases hc
 | cons p C ih=>
  obtain ⟨k',c'⟩:=p;intro c hc;simp only [Jb9] at hc;cases hb:Nat.beq k' k with
  | true=>
   rw [hb] at hc;have:=Jr hb
   subst this;rcases JJ.1 hc with rfl | hc
   ·have:=h.1;rw [Jum hk] at this;exact this
   ·exact ih h.2 c hc
  | false=>rw [hb] at hc;exact ih h.2 c hc
theorem JaU.getsR [Orc P] {C : Tab} (h : JaU P C) {k : Nat} (hk : Nat.blt k 1000000 = true) : ∀ c ∈ Jb9 C (3000000 + k), c.OKR P k := by
 induction C with
 | nil=>intro c hc;cases hc
 | cons p C ih =>
  obtain ⟨k',c'⟩:=p;intro c hc;simp only [Jb9] at hc;cases hb:Nat.beq k' (3000000+k) with
  | true=>
   rw [hb] at hc;have e:=Jr hb;subst e;rcases JJ.1 hc with rfl | hc
   ·have hkr:keyR (3000000+k)=true:=by
     unfold keyR;have h1:k<1000000:=JC (show Nat.ble (k+1) 1000000=true from hk);have h2:Nat.ble 3000000 (3000000+k)=true:=Nat.ble_eq_true_of_le (by omega);have h3:Nat.blt (3000000+k) 4000000=true:=Nat.ble_eq_true_of_le (by omega);rw [h2,h3];rfl
    have:=h.1
    rw [hkr] at this;have h4:3000000+k - 3000000=k:=by omega
    rw [h4] at this;exact this
   ·exact ih h.2 c hc
  | false=>rw [hb] at hc;exact ih h.2 c hc
theorem Jma {X Z:Cx} (hm:Jex X.S X.m Z.S Z.m) {b:Bf} {l:Bool} {t:Option Nat} {w:Value} (h:JjO P X b t w):JjO P Z { b with live:=l } t w:=by
 cases t with
 | none=>exact ⟨h.1,h.2.mono hm fun _ _ q=>QR.mono hm q⟩
 | some i=>exact h
structure Jss (Y Z:Cx) (rx rb:Nat→Nat):Prop where
 mono:Jex Y.S Y.m Z.S Z.m
 nxt:Y.m.nxt≤Z.m.nxt
 ty : ∀i e,Y.m.typ i=some e→Z.m.typ i=some e
 box : ∀t,t<Y.nb→rx t<Z.nb∧(Z.has (rx t)=true→Z.env.β (rx t)=Y.env.β t)∧(Z.has (rx t)=true→Y.has t=true) ∧ ∀L,Z.len (rx t)=some L→Y.len t=some L
 hl : ∀j L,Z.len j=some L→0<L→Z.has j=true
 buf : ∀(t:Nat) (b:Bf),Y.bf[t]? = some b → ∃l,Z.bf[rb t]? = some { b with live:=l }∧Z.env.τ (rb t)=Y.env.τ t
theorem Jl0 {S' : Nat → Prop} {m' : M} {Z : Cx} (hm : Jex Y.S Y.m Z.S Z.m) : ∀ {t : Ty} {x : t.El} {ws : List Value}, Qa P Y (exp t x) ws → Qa P Z (exp t x) ws := by
 intro t;induction t with
 | l e ih=>
  intro x ws h;cases ws with
  | nil=>exact h.elim
  | cons w ws=>exact ⟨Jbu.mono (P:=P) (n:=e.n) (R:=QR P Y.S Y.m e) hm (fun _ _ q=>QR.mono hm q) h.1,by cases ws with
   | nil=>trivial
   | cons=>exact h.2.elim⟩
 | h e ih=>
  intro x ws h;cases ws with
  | nil=>exact h.elim
  | cons w ws=>exact ⟨Jbu.mono (P:=P) (n:=e.n) (R:=QR P Y.S Y.m e) hm (fun _ _ q=>QR.mono hm q) h.1,by cases ws with
   | nil=>trivial
   | cons=>exact h.2.elim⟩
 | p t1 t2 ih1 ih2 =>
  intro x ws h;have hl:=Qe h;have hsplit : ∀{cs ds:List Cl} {ws:List Value},Qa P Y (cs++ds) ws → ∃w1 w2,ws=w1++w2∧Qa P Y cs w1∧Qa P Y ds w2:=by
   intro cs;induction cs with
   | nil=>intro ds ws h;exact ⟨[],ws,rfl,trivial,h⟩
   | cons c cs ih=>intro ds ws h;cases ws with
    | nil=>exact h.elim
    | cons w ws=>
     obtain ⟨w1,w2,rfl,h1,h2⟩:=ih h.2;exact ⟨w::w1,w2,rfl,⟨h.1,h1⟩,h2⟩
  obtain ⟨w1,w2,rfl,h1,h2⟩:=hsplit h;exact XF (ih1 h1) (ih2 h2)
 | u=>intro x ws h;cases ws with
  | nil=>trivial
  | cons=>exact h.elim
 | _=>intro x ws h;cases ws with
  | nil=>exact h.elim
  | cons w ws=>exact ⟨h.1,by cases ws with
   | nil=>trivial
   | cons=>exact h.2.elim⟩
theorem JaO {Z:Cx} {rx rb:Nat→Nat} (hR:Jss Y Z rx rb) {p:Pt} {x:PtE p} {w:Value} (h:Ja3 P Y (ptI id id p x) w):Ja3 P Z (ptI rx rb p x) w:=by
 cases p with
 | v t=>
  show Ja3 P Z (JfT t x) w;have h':Ja3 P Y (JfT t x) w:=h
  cases t with
  | p t1 t2=>obtain ⟨b,rfl,h2⟩:=h';exact ⟨b,rfl,Jl0 (S':=fun _=>False) (m':=Y.m) hR.mono (t := .p t1 t2) h2⟩
  | u=>obtain ⟨b,rfl,h2⟩:=h';exact ⟨b,rfl,Jl0 (S':=fun _=>False) (m':=Y.m) hR.mono (t := .u) (x:=()) h2⟩
  | l e=>exact Jbu.mono (P:=P) (n:=e.n) (R:=QR P Y.S Y.m e) hR.mono (fun _ _ q=>QR.mono hR.mono q) h'
  | h e=>exact Jbu.mono (P:=P) (n:=e.n) (R:=QR P Y.S Y.m e) hR.mono (fun _ _ q=>QR.mono hR.mono q) h'
  | _=>exact h'
 | o t=>
  obtain ⟨b,h1,h2⟩:=h;obtain ⟨l',h3,h5⟩:=hR.buf t b h1;refine ⟨_,h3, ?_⟩;rw [h5];exact Jma hR.mono h2
 | p t off=>
  obtain ⟨h1,i,h2,h7,h5⟩:=h;obtain ⟨h3,h4,h6,_⟩:=hR.box t h1;exact ⟨h3,i,h2,Jt h7 hR.nxt,fun w=>by rw [h4 w];exact h5 (h6 w)⟩
 | mv t=>
  obtain ⟨h1,i,h2,h7,h5⟩:=h;obtain ⟨h3,h4,h6,_⟩:=hR.box t h1;exact ⟨h3,i,h2,Jt h7 hR.nxt,fun w=>by rw [h4 w];exact h5 (h6 w)⟩
 | mx c l=>exact (show False from h).elim
 | mt ks=>exact (show False from h).elim
 | sg n e=>exact (show False from h).elim
 | ms e=>exact (show False from h).elim
 | fn f=>exact h
 | m e t=>
  obtain ⟨h1,h2,h5⟩:=h;obtain ⟨h3,h4,_,h6⟩:=hR.box t h1;exact ⟨h3,⟨h2.1,h2.2.mono hR.nxt⟩,fun L hL=>⟨(h5 L (h6 L hL)).1,fun w=>by rw [h4 (hR.hl _ L hL w)];exact (h5 L (h6 L hL)).2 w⟩⟩
 | r e=>exact h
 | ra e=>exact h
 | g=>exact h
 | nl=>exact h
 | ns=>exact h
 | sb e n t=>
  obtain ⟨h1,h2,h5⟩:=h;obtain ⟨h3,h4,h6,_⟩:=hR.box t h1;exact ⟨h3,⟨h2.1,h2.2.mono hR.nxt⟩,fun w=>by
   rw [h4 w];obtain ⟨u1,eo,u2,u3⟩:=h5 (h6 w);exact ⟨u1,eo,hR.ty _ _ u2,u3⟩⟩
 | ki k n=>exact h
 | kt n=>exact h
 | va t=>
  show Ja3 P Z (fog (JfT t x)) w;have h':Ja3 P Y (fog (JfT t x)) w:=h
  exact JuA hR.nxt h'
 | ip u t off=>
  obtain ⟨h1,i,h2,h7,h5⟩:=h;obtain ⟨h3,h4,h6,_⟩:=hR.box t h1;exact ⟨h3,i,h2,Jt h7 hR.nxt,fun w=>by rw [h4 w];exact h5 (h6 w)⟩
 | w e t=>
  obtain ⟨h1,h2,h5⟩:=h;obtain ⟨h3,h4,_,h6⟩:=hR.box t h1;exact ⟨h3,⟨h2.1,h2.2.mono hR.nxt⟩,fun L hL=>⟨(h5 L (h6 L hL)).1,(h5 L (h6 L hL)).2.1,fun w=>by rw [h4 (hR.hl _ L hL w)];exact (h5 L (h6 L hL)).2.2 w⟩⟩
 | x=>trivial
theorem JrZ {Z:Cx} {rx rb:Nat→Nat} (hR:Jss Y Z rx rb) : ∀{l:List (ByteArray × Nat × Nat)} {es:List MapEntry},Xj P Y (l.map fun q=>(q.1,q.2.1,q.2.2)) es→Xj P Z (l.map fun q=>(q.1,q.2.1,rx q.2.2)) es:=by
 intro l;induction l with
 | nil=>intro es h;cases es <;> exact h
 | cons a l ih=>intro es h;cases es with
  | nil=>exact h.elim
  | cons e es=>
   obtain ⟨⟨k1,k2,k3⟩,k4⟩:=h;exact ⟨⟨k1,k2,JaO (P:=P) (p := .p a.2.2 0) (x:=()) hR k3⟩,ih k4⟩
theorem JtW {Z:Cx} {rx rb:Nat→Nat} (hR:Jss Y Z rx rb) {av:Nat→Value} : ∀{l:List (Nat × Pt)} {x:SlE l},Qm P Y av (slI id id l x)→Qm P Z av (slI rx rb l x):=by
 intro l;induction l with
 | nil=>intro x h;trivial
 | cons p l ih=>intro x h;exact ⟨JaO hR h.1,ih h.2⟩
theorem Jl5 {Z:Cx} {rx rb:Nat→Nat} (hR:Jss Y Z rx rb) {p:Pt} {x:PtE p} {w:Value} (h:Jap P Y (Jam (ptI id id p x)) w):Jap P Z (Jam (ptI rx rb p x)) w:=by
 cases p with
 | v t=>
  cases t with
  | p t1 t2=>trivial
  | u=>trivial
  | l e=>exact Jbu.mono (P:=P) (n:=e.n) (R:=QR P Y.S Y.m e) hR.mono (fun _ _ q=>QR.mono hR.mono q) h
  | h e=>exact Jbu.mono (P:=P) (n:=e.n) (R:=QR P Y.S Y.m e) hR.mono (fun _ _ q=>QR.mono hR.mono q) h
  | _=>exact h
 | o t=>exact JaO (P:=P) (p := .o t) (x:=x) hR h
 | p t off=>exact JaO (P:=P) (p := .p t off) (x:=x) hR h
 | mv t=>exact JaO (P:=P) (p := .mv t) (x:=x) hR h
 | mx c l=>exact (show False from h).elim
 | mt ks=>exact (show False from h).elim
 | sg n e=>exact (show False from h).elim
 | ms e=>exact (show False from h).elim
 | fn f=>exact h
 | m e t=>exact JaO (P:=P) (p := .m e t) (x:=x) hR h
 | r e=>exact h
 | ra e=>exact h
 | g=>exact h
 | nl=>exact h
 | ns=>exact h
 | sb e n t=>exact JaO (P:=P) (p := .sb e n t) (x:=x) hR h
 | ki k n=>exact h
 | kt n=>exact h
 | va t=>
  have h':Jap P Y (Jam (fog (JfT t x))) w:=h
  show Jap P Z (Jam (fog (JfT t x))) w;generalize JfT t x=s at h';cases s with
  | s c=>exact JhV (P:=P) (c:=c) hR.nxt h'
  | _=>trivial
 | ip u t off=>exact JaO (P:=P) (p := .ip u t off) (x:=x) hR h
 | w e t=>exact JaO (P:=P) (p := .w e t) (x:=x) hR h
 | x=>trivial
theorem JoM {p:Pt} {x:PtE p} {rx rb:Nat→Nat}:Qh (Jam (ptI rx rb p x))=Qh (Jam (ptI id id p x)):=by
 cases p <;> first | rfl
theorem ceI_sg : ∀{l:List Pt} {x:CeE l} {rx rb:Nat→Nat},(ceI rx rb l x).any Qh=(ceI id id l x).any Qh:=by
 intro l;induction l with
 | nil=>intro x rx rb;rfl
 | cons p l ih=>
  intro x rx rb;show (Jam (ptI rx rb p x.1)::ceI rx rb l x.2).any Qh=(Jam (ptI id id p x.1)::ceI id id l x.2).any Qh;rw [List.any_cons,List.any_cons,ih,JoM]
theorem JuJ {l:List Pt} {x:CeE l} {rx rb:Nat→Nat}:Jcn (ceI rx rb l x)=Jcn (ceI id id l x):=by
 cases l with
 | nil=>rfl
 | cons p l=>
  show Jcn (Jam (ptI rx rb p x.1)::_)=Jcn (Jam (ptI id id p x.1)::_);cases hs:Qh (Jam (ptI id id p x.1)) with
  | false=>rw [JaJ hs,JaJ (JoM.trans hs)]
  | true=>
   obtain ⟨x,x2⟩:=x;cases p with
   | sg n e=>rfl
   | mt ks=>rfl
   | v t=>have:=JqK (JaC (t:=t) (x:=x)).1;rw [List.any_cons,JP] at this;rw [show Qh (Jam (ptI id id (.v t) x))=false from this.1] at hs;cases hs
   | va t=>have:=JqK (Jbq (JfT t x)).1;rw [List.any_cons,JP] at this;rw [show Qh (Jam (ptI id id (.va t) x))=false from this.1] at hs;cases hs
   | _=>cases hs
theorem Jjh {rx rb:Nat→Nat} {ps:List Pt} {z:CeE ps}:(J9 (ceI rx rb ps z)=false∧J9 (ceI id id ps z)=false) ∨
  (((∃e xs,ceI rx rb ps z = [.r false e xs])∨(∃e xs,ceI rx rb ps z = [.ra e xs])∨ceI rx rb ps z = [.g]∨(∃e xs,ceI rx rb ps z = [.ms e xs]))∧ceI id id ps z=ceI rx rb ps z) ∨
  (∃(c:Nat) (l:List (ByteArray × Nat × Nat)),ceI rx rb ps z = [.mx c (l.map fun q=>(q.1,q.2.1,rx q.2.2))]∧ceI id id ps z = [.mx c (l.map fun q=>(q.1,q.2.1,q.2.2))]) ∨
  ((ceI rx rb ps z).any Qh=true∧(ceI id id ps z).any Qh=true):=by
 cases ps with
 | nil=>exact .inl ⟨rfl,rfl⟩
 | cons p ps=>cases ps with
  | nil=>
   obtain ⟨z,_⟩:=z;cases p with
   | v t=>exact .inl ⟨JaC.1,JaC.1⟩
   | r e=>exact .inr (.inl ⟨.inl ⟨e,z,rfl⟩,rfl⟩)
   | ra e=>exact .inr (.inl ⟨.inr (.inl ⟨e,z,rfl⟩),rfl⟩)
   | g=>exact .inr (.inl ⟨.inr (.inr (.inl rfl)),rfl⟩)
   | ms e=>exact .inr (.inl ⟨.inr (.inr (.inr ⟨e,z,rfl⟩)),rfl⟩)
   | mx c l=>exact .inr (.inr (.inl ⟨c,l,rfl,rfl⟩))
   | sg n e=>exact .inr (.inr (.inr ⟨rfl,rfl⟩))
   | mt ks=>exact .inr (.inr (.inr ⟨rfl,rfl⟩))
   | va t=>exact .inl ⟨(Jbq _).1,(Jbq _).1⟩
   | _=>exact .inl ⟨rfl,rfl⟩
  | cons p2 ps=>
   have hq:=ceI_sg (l:=p::p2::ps) (x:=z) (rx:=rx) (rb:=rb);cases hs:(ceI rx rb (p::p2::ps) z).any Qh with
   | false=>exact .inl ⟨(JbO _ _ _).1.trans hs,(JbO _ _ _).1.trans (hq.symm.trans hs)⟩
   | true=>exact .inr (.inr (.inr ⟨rfl,hq.symm.trans hs⟩))
theorem JpN {rx rb:Nat→Nat} {ps:List Pt} {z:CeE ps}:Xo (ceI rx rb ps z)=Xo (ceI id id ps z)∧JaQ (ceI rx rb ps z)=JaQ (ceI id id ps z):=by
 rcases Jjh (rx:=rx) (rb:=rb) (ps:=ps) (z:=z) with ⟨h1,h2⟩|⟨_,h2⟩|⟨c,l,h1,h2⟩|⟨h1,h2⟩
 ·exact ⟨(Qs h1).trans (Qs h2).symm,(XN h1).trans (XN h2).symm⟩
 ·rw [h2];exact ⟨rfl,rfl⟩
 ·rw [h1,h2];exact ⟨rfl,rfl⟩
 ·exact ⟨(Q2 h1).1.trans (Q2 h2).1.symm,(Q2 h1).2.trans (Q2 h2).2.symm⟩
theorem Jrc (o:Bool) {cs:List Cl} (h:cs.any Qh=true):JdN o cs=cs:=by
 unfold JdN;split
 ·cases h
 ·rfl
theorem Jbz (o:Bool) (cs:List Cl):J9 (JdN o cs)=J9 cs∧Xo (JdN o cs)=Xo cs∧JaQ (JdN o cs)=JaQ cs∧(J9 cs=false→JdN o cs=cs):=by
 unfold JdN;split
 ·exact ⟨rfl,rfl,rfl,fun q=>by cases q⟩
 ·exact ⟨rfl,rfl,rfl,fun _=>rfl⟩
theorem Jce (old:Option (List Cl)) (cs:List Cl):J9 (Jdh old cs)=J9 cs∧Xo (Jdh old cs)=Xo cs∧JaQ (Jdh old cs)=JaQ cs∧(J9 cs=false→Jdh old cs=cs):=by
 unfold Jdh;split
 ·exact Jbz _ _
 ·exact ⟨rfl,rfl,rfl,fun _=>rfl⟩
theorem JuK {Z:Cx} {rx rb:Nat→Nat} (hR:Jss Y Z rx rb) : ∀{l:List Pt} {x:CeE l} {ws:List Value},Qa P Y (ceI id id l x) ws→Qa P Z (ceI rx rb l x) ws:=by
 intro l;induction l with
 | nil=>intro x ws h;cases ws with
  | nil=>trivial
  | cons=>exact h.elim
 | cons p l ih=>intro x ws h;cases ws with
  | nil=>exact h.elim
  | cons w ws=>exact ⟨Jl5 hR h.1,ih h.2⟩
theorem Jsg {Z:Cx} {rx rb:Nat→Nat} (hR:Jss Y Z rx rb) : ∀{l:List Pt} {x:CeE l} {ws:List Value},JeD P Y (ceI id id l x) ws→JeD P Z (ceI rx rb l x) ws:=by
 intro l;induction l with
 | nil=>intro x ws h;exact h
 | cons p l ih=>
  intro x ws h;obtain ⟨w1,w2,g1,g2,g3⟩:=h;refine ⟨w1,w2,g1, ?_,ih g3⟩;cases hs:Qh (Jam (ptI id id p x.1)) with
  | false=>
   obtain ⟨w,k1,k2⟩:=(JaK hs).1 g2;exact (JaK (JoM.trans hs)).2 ⟨w,k1,Jl5 hR k2⟩
  | true=>
   obtain ⟨x,x2⟩:=x;cases p with
   | sg n e=>exact ⟨g2.1,g2.2.1,fun k y hy=>QR.mono hR.mono (g2.2.2 k y hy)⟩
   | mt ks=>exact g2
   | v t=>have:=JqK (JaC (t:=t) (x:=x)).1;rw [List.any_cons,JP] at this;rw [show Qh (Jam (ptI id id (.v t) x))=false from this.1] at hs;cases hs
   | va t=>have:=JqK (Jbq (JfT t x)).1;rw [List.any_cons,JP] at this;rw [show Qh (Jam (ptI id id (.va t) x))=false from this.1] at hs;cases hs
   | _=>cases hs
theorem JpW : ∀{l:List (List Pt)} {x:BxE l} {rx rb:Nat→Nat} {k:Nat} {cs:List Cl},(bxI rx rb l x)[k]? = some cs → ∃(ps:List Pt) (z:CeE ps),cs=ceI rx rb ps z∧(bxI id id l x)[k]? = some (ceI id id ps z):=by
 intro l;induction l with
 | nil=>intro x rx rb k cs h;cases h
 | cons p l ih=>
  intro x rx rb k cs h;cases k with
  | zero=>cases h;exact ⟨p,x.1,rfl,rfl⟩
  | succ k=>exact ih (x:=x.2) h
theorem Xl : ∀{l:List (List Pt)} {x:BxE l} {rx rb:Nat→Nat},(bxI rx rb l x).length=l.length:=by
 intro l;induction l with
 | nil=>intro x rx rb;rfl
 | cons p l ih=>intro x rx rb;show (_::_).length=_;simp [ih]
theorem JiH {Z:Cx} {rx rb:Nat→Nat} (hR:Jss Y Z rx rb) {l:List (Nat × Pt)} {x:SlE l} {v:Value} (h:J8 P Y (JiI (slI id id l x)) v):J8 P Z (JiI (slI rx rb l x)) v:=by
 have key : ∀{l:List (Nat × Pt)} {x:SlE l} {ws:List Value},QZ P Y ((slI id id l x).map (·.2)) ws→QZ P Z ((slI rx rb l x).map (·.2)) ws:=by
  intro l;induction l with
  | nil=>intro x ws h;cases ws with
   | nil=>trivial
   | cons=>exact h.elim
  | cons p l ih=>intro x ws h;cases ws with
   | nil=>exact h.elim
   | cons w ws=>exact ⟨JaO hR h.1,ih h.2⟩
 cases l with
 | nil=>obtain ⟨b,rfl,h2⟩:=h;exact ⟨b,rfl,key (l := []) (x:=x) h2⟩
 | cons p l=>cases l with
  | nil=>exact JaO hR h
  | cons p2 l=>obtain ⟨b,rfl,h2⟩:=h;exact ⟨b,rfl,key (l:=p::p2::l) (x:=x) h2⟩
theorem Jnv : ∀{o:Bool} {g:List Nat} {cs bx:List (List Cl)},g.length≤cs.length→(Jbp o g cs bx).length=bx.length+(cs.length - g.length):=by
 intro o g;induction g with
 | nil=>intro cs bx h;cases cs <;> simp [Jbp]
 | cons j g ih=>
  intro cs bx h;cases cs with
  | nil=>simp at h
  | cons c cs=>simp only [Jbp];rw [ih (by simpa using h),Qc];simp
theorem Jgt (o:Bool) (cs bx:List (List Cl)):Jbp o [] cs bx=bx++cs.map (JdN o):=by cases cs <;> rfl
theorem Jnu : ∀{o:Bool} {g:List Nat} {cs bx:List (List Cl)} {j:Nat},g.length≤cs.length→bx.length≤j→(Jbp o g cs bx)[j]? = (cs[g.length+(j - bx.length)]?).map (JdN o):=by
 intro o g;induction g with
 | nil=>
  intro cs bx j h hj;rw [Jgt,JN hj];simp
 | cons i g ih=>
  intro cs bx j h hj;cases cs with
  | nil=>simp at h
  | cons c cs=>
   simp only [Jbp];rw [ih (by simpa using h) (by rw [Qc];exact hj),Qc]
   rw [Ju,show g.length+1+(j - bx.length)=g.length+(j - bx.length)+1 by omega,List.getElem?_cons_succ]
theorem Jgs : ∀{o:Bool} {g:List Nat} {cs bx:List (List Cl)} {j:Nat},g.length≤cs.length→j<bx.length→(∀k:Nat,g[k]? ≠ some j)→(Jbp o g cs bx)[j]? = bx[j]? := by
 intro o g;induction g with
 | nil=>
  intro cs bx j h hj _;rw [Jgt,JF hj]
 | cons i g ih=>
  intro cs bx j h hj hn;cases cs with
  | nil=>simp at h
  | cons c cs=>
   simp only [Jbp];rw [ih (by simpa using h) (by rw [Qc];exact hj) (fun k=>hn (k+1)),Jat,Jd]
   intro e;exact hn 0 (by simp [e])
theorem Jpv : ∀ {o : Bool} {g : List Nat} {cs bx : List (List Cl)} {k j : Nat}, g.length ≤ cs.length → Jbj g = true → (∀ (k j : Nat), g[k]? = some j → j < bx.length) → g[k]? = some j → (Jbp o g cs bx)[j]? = (cs[k]?).map (Jdh bx[j]?) := by
 intro o g;induction g with
 | nil=>intro cs bx k j h hn hl hk;simp at hk
 | cons i g ih=>
  intro cs bx k j h hn hl hk;cases cs with
  | nil=>simp at h
  | cons c cs=>
   have hn':=hn
   simp only [Jbj,Jh] at hn;simp only [Jbp];cases k with
   | zero=>
    simp only [List.getElem?_cons_zero,Jg] at hk;subst hk;have hil:i<bx.length:=hl 0 i rfl;rw [Jgs (by simpa using h) (by rw [Qc];exact hil) (fun k hk=>by have:=JaX hn' 0 (k+1) i rfl (by simpa using hk);omega),Jat,Jf rfl]
    simp [hil]
   | succ k=>
    simp only [List.getElem?_cons_succ] at hk ⊢;rw [ih (by simpa using h) hn.2 (fun k j hk=>by rw [Qc];exact hl (k+1) j (by simpa using hk)) hk,Jat,Jd]
    intro e;subst e;have:=JaX hn' 0 (k+1) j rfl (by simpa using hk)
    omega
theorem X9 : ∀(h:List Nat) (bf:List Bf),(Jaa h bf).length=bf.length:=by
 intro h;induction h with
 | nil=>intro bf;rfl
 | cons j h ih=>intro bf;simp only [Jaa];rw [ih,JbD]
theorem XC : ∀ (h : List Nat) (bf : List Bf) (j : Nat) (b' : Bf), (Jaa h bf)[j]? = some b' → ∃ b, bf[j]? = some b ∧ (b' = b ∨ b' = { b with live := false }) := by
 intro h;induction h with
 | nil=>intro bf j b' hb;exact ⟨b',hb,.inl rfl⟩
 | cons i h ih=>
  intro bf j b' hb;simp only [Jaa] at hb;obtain ⟨b1,h1,h2⟩:=ih _ _ _ hb;rw [JdX] at h1;split at h1
  ·cases hq:bf[j]? with
   | none=>rw [hq] at h1;cases h1
   | some b0=>
    rw [hq] at h1;cases h1;rcases h2 with rfl | rfl
    ·exact ⟨b0,rfl,.inr rfl⟩
    ·exact ⟨b0,rfl,.inr rfl⟩
  ·exact ⟨b1,h1,h2⟩
theorem Jgu : ∀(h:List Nat) (bf:List Bf) (j k:Nat) (b':Bf),h[k]? = some j→(Jaa h bf)[j]? = some b'→b'.live=false:=by
 intro h;induction h with
 | nil=>intro bf j k b' hk;simp at hk
 | cons i h ih=>
  intro bf j k b' hk hb;simp only [Jaa] at hb;cases k with
  | zero=>
   simp only [List.getElem?_cons_zero,Jg] at hk;subst hk;obtain ⟨b1,h1,h2⟩:=XC h _ _ _ hb;rw [JdX,Jf rfl] at h1;cases hq:bf[i]? with
   | none=>rw [hq] at h1;cases h1
   | some b0=>rw [hq] at h1;cases h1;rcases h2 with rfl | rfl <;> rfl
  | succ k=>exact ih _ _ k b' (by simpa using hk) hb
def Env.join (env env1:Env) (nb nf ng:Nat):Env:=
 { β:=fun j=>if j<nb then env.β j else env1.β (j - nb+ng),τ:=fun j=>if j<nf then env.τ j else env1.τ (j - nf),φ:=fun i=>env.φ i∨env1.φ i }
theorem Jo6 {bx:List (List Cl)} {j L:Nat} (h:lenOf bx j=some L) (hL:0<L):JM bx j=true:=by
 unfold lenOf at h;unfold JM;split at h
 ·rename_i cs hcs;unfold JaQ at h;split at h
  ·rename_i o e xs;cases h;exact QG (fun w=>by rw [w] at hL;cases hL)
  ·cases h
 ·cases h
theorem Jud (T : Jao P (vs.cx S0 env m) vs.bx) {q : GH} (hg : ∀ (k j : Nat), q.g[k]? = some j → j < vs.bx.length) (hh : ∀ (k j : Nat), q.h[k]? = some j → ∃ b : Bf, vs.bf[j]? = some b ∧ b.live = true) (ng : Jbj q.g = true) {Xc : Cx}
  (hXm:Xc.m=m) (hXn:Xc.nb=q.g.length) {p:Prop} (hXe:Xc.env=env.sub q p) (hXh : ∀(k j:Nat),q.g[k]? = some j→Xc.has k=JM vs.bx j) (hXlen : ∀(k j:Nat),q.g[k]? = some j→Xc.len k=lenOf vs.bx j) (hXl : ∀i,Wl Xc i → ∃(k j:Nat),q.h[k]? = some j∧env.τ j=some i) {t:Tm} {x:t.E} (hE:JbJ P Xc (vs.S S0 env) env1 m1 t x) :
  Jao P ((after vs q t x).2.cx S0 (env.join env1 vs.bx.length vs.bf.length q.g.length) m1) (after vs q t x).2.bx∧Stp (vs.cx S0 env m) ((after vs q t x).2.cx S0 (env.join env1 vs.bx.length vs.bf.length q.g.length) m1) ∧
   Jss (t.cx x (vs.S S0 env) env1 m1) ((after vs q t x).2.cx S0 (env.join env1 vs.bx.length vs.bf.length q.g.length) m1) (rx q.g vs.bx.length) (vs.bf.length + ·):=by
 obtain ⟨hfr,hT,hβ,hwb,hwl,hhas,hlen,hφ⟩:=hE;rw [hXm] at hfr;have hXm' : ∀i,Xc.m.nxt≤i→m.nxt≤i:=fun i h=>by rw [←hXm];exact h
 have hgl:q.g.length≤t.bx.length:=by
  rcases Nat.eq_zero_or_pos q.g.length with h | h
  ·omega
  ·have:=(hβ (q.g.length - 1) (by omega)).1;omega
 have hYn:(t.cx x (vs.S S0 env) env1 m1).nb=t.bx.length:=by show (bxI id id t.bx x.2.1).length=_;rw [Xl]
 have hβX : ∀(k j:Nat),q.g[k]? = some j→Xc.env.β k=env.β j:=fun k j hk=>by
  rw [hXe];show (match q.g[k]? with | some j=>_ | none=>_)=_;rw [hk]
 have hβ1 : ∀(k j:Nat),q.g[k]? = some j→(t.cx x (vs.S S0 env) env1 m1).has k=true→env1.β k=env.β j:=fun k j hk hhas=>by
  have:=(hβ k (by rw [hXn];exact Jx hk)).2 hhas
  rw [this,hXe];show (match q.g[k]? with | some j=>_ | none=>_)=_;rw [hk]
 have hWbX : ∀i,Wb Xc i→(∃(k j:Nat),q.g[k]? = some j∧JM vs.bx j=true∧env.β j=i)∨env.φ i:=by
  intro i w;rcases w with ⟨k,hk,hhk,he⟩|w
  ·rw [hXn] at hk;have hgk:q.g[k]? = some q.g[k]:=by simp [hk]
   refine .inl ⟨k,q.g[k],hgk,by rw [←hXh k _ hgk];exact hhk, ?_⟩
   rw [←he,hXe];show _=(match q.g[k]? with | some j=>_ | none=>_);rw [hgk]
  ·rw [hXe] at w;exact .inr w.2
 have hWb0 : ∀i,Wb Xc i→Wb (vs.cx S0 env m) i:=fun i w=>by
  rcases hWbX i w with ⟨k,j,h1,h3,h2⟩|w
  ·exact .inl ⟨j,hg k j h1,h3,h2⟩
  ·exact .inr w
 have hWl0 : ∀i,Wl Xc i→Wl (vs.cx S0 env m) i:=fun i w=>by
  obtain ⟨k,j,h1,h2⟩:=hXl i w;obtain ⟨b,h3,h4⟩:=hh k j h1;exact ⟨j,b,h3,h4,h2⟩
 have hWbS : ∀ i, Wb (vs.cx S0 env m) i → vs.S S0 env i := WbS;have hnew : ∀ k, q.g.length ≤ k → k < t.bx.length → (t.cx x (vs.S S0 env) env1 m1).has k = true → m.nxt ≤ env1.β k ∨ ∃ (k' j : Nat), q.g[k']? = some j ∧ JM vs.bx j = true ∧ env.β j = env1.β k ∧ (t.cx x (vs.S S0 env) env1 m1).has k' = false := by
  intro k h1 h2 h2h;rcases hwb (env1.β k) (.inl ⟨k,by rw [hYn];exact h2,h2h,rfl⟩) with w | w
  ·right;have hnφ : ¬Xc.env.φ (env1.β k):=fun w=>hT.φd k (by rw [hYn];exact h2) h2h (hφ _ w)
   rcases w with ⟨k',hk',hhk',he'⟩|w
   ·rw [hXn] at hk';have hgk:q.g[k']? = some q.g[k']:=by simp [hk']
    refine ⟨k',_,hgk,by rw [←hXh k' _ hgk];exact hhk',by rw [←hβX k' _ hgk];exact he', ?_⟩
    cases hk2:(t.cx x (vs.S S0 env) env1 m1).has k' with
    | false=>rfl
    | true=>
     have he2:env1.β k'=env1.β k:=by rw [(hβ k' (by rw [hXn];exact hk')).2 hk2];exact he'
     have:k=k':=hT.bxd k k' (by rw [hYn];exact h2) (by rw [hYn];omega) h2h hk2 he2.symm
     omega
   ·exact absurd w hnφ
  ·exact .inl (hXm' _ w)
 generalize hZ:(after vs q t x).2=vs2;have hbx2:vs2.bx=Jbp (JgD vs.bx q.g (bxI (rx q.g vs.bx.length) (vs.bf.length + ·) t.bx x.2.1)) q.g (bxI (rx q.g vs.bx.length) (vs.bf.length + ·) t.bx x.2.1) vs.bx:=by rw [←hZ];rfl
 have hbf2:vs2.bf=Jaa q.h vs.bf++bfI t.bf x.2.2:=by rw [←hZ];rfl
 have hgl':q.g.length≤(bxI (rx q.g vs.bx.length) (vs.bf.length + ·) t.bx x.2.1).length:=by rw [Xl];exact hgl
 have hnb2:vs2.bx.length=vs.bx.length+(t.bx.length - q.g.length):=by rw [hbx2,Jnv (by rw [Xl];exact hgl),Xl]
 generalize hen:env.join env1 vs.bx.length vs.bf.length q.g.length=env2;have hβo : ∀j,j<vs.bx.length→env2.β j=env.β j:=fun j hj=>by rw [←hen];show (if j<_ then _ else _)=_;rw [Jf hj]
 have hβn : ∀j,vs.bx.length≤j→env2.β j=env1.β (j - vs.bx.length+q.g.length):=fun j hj=>by rw [←hen];show (if j<_ then _ else _)=_;rw [Jd (by omega)]
 have hτo : ∀j,j<vs.bf.length→env2.τ j=env.τ j:=fun j hj=>by rw [←hen];show (if j<_ then _ else _)=_;rw [Jf hj]
 have hτn : ∀j,env2.τ (vs.bf.length+j)=env1.τ j:=fun j=>by rw [←hen];show (if _<_ then _ else _)=_;rw [Jd (by omega),show vs.bf.length+j - vs.bf.length=j by omega]
 have hφ2 : ∀i,env2.φ i↔env.φ i∨env1.φ i:=fun i=>by rw [←hen];exact Iff.rfl
 have hinY : ∀k cs,(bxI (rx q.g vs.bx.length) (vs.bf.length + ·) t.bx x.2.1)[k]? = some cs→(t.cx x (vs.S S0 env) env1 m1).has k=Xo cs∧(t.cx x (vs.S S0 env) env1 m1).len k=JaQ cs:=by
  intro k cs hk;obtain ⟨ps,z,rfl,h1⟩:=JpW hk;have h2:JM (bxI id id t.bx x.2.1) k=_:=JK h1;have h3:lenOf (bxI id id t.bx x.2.1) k=_:=QN h1;exact ⟨h2.trans JpN.1.symm,h3.trans JpN.2.symm⟩
 have hgetY : ∀k,k<t.bx.length → ∃cs,(bxI (rx q.g vs.bx.length) (vs.bf.length + ·) t.bx x.2.1)[k]? = some cs:=fun k hk=>by
  have hk2:k<(bxI (rx q.g vs.bx.length) (vs.bf.length + ·) t.bx x.2.1).length:=by rw [Xl];exact hk
  exact ⟨_,Jj hk2⟩
 have hin : ∀(k j:Nat),q.g[k]? = some j → ∃cs,(bxI (rx q.g vs.bx.length) (vs.bf.length + ·) t.bx x.2.1)[k]? = some cs∧vs2.bx[j]? = some (Jdh vs.bx[j]? cs):=by
  intro k j hk;obtain ⟨cs,hcs⟩:=hgetY k (by have:=Jx hk;omega)
  exact ⟨cs,hcs,by rw [hbx2,Jpv hgl' ng hg hk,hcs];rfl⟩
 have hout : ∀j,j<vs.bx.length→(∀k:Nat,q.g[k]? ≠ some j)→vs2.bx[j]? = vs.bx[j]? := fun j hj hno=>by rw [hbx2,Jgs hgl' hj hno]
 have hnw : ∀j,vs.bx.length≤j→j<vs2.bx.length → ∃cs,(bxI (rx q.g vs.bx.length) (vs.bf.length + ·) t.bx x.2.1)[q.g.length+(j - vs.bx.length)]? = some cs∧vs2.bx[j]? = some (JdN (JgD vs.bx q.g (bxI (rx q.g vs.bx.length) (vs.bf.length + ·) t.bx x.2.1)) cs):=by
  intro j h1 h2;obtain ⟨cs,hcs⟩:=hgetY (q.g.length+(j - vs.bx.length)) (by omega);exact ⟨cs,hcs,by rw [hbx2,Jnu hgl' h1,hcs];rfl⟩
 have hhin : ∀(k j:Nat),q.g[k]? = some j→JM vs2.bx j=(t.cx x (vs.S S0 env) env1 m1).has k∧lenOf vs2.bx j=(t.cx x (vs.S S0 env) env1 m1).len k:=by
  intro k j hk;obtain ⟨cs,h1,h2⟩:=hin k j hk;obtain ⟨h3,h4⟩:=hinY k cs h1;rw [JK h2,QN h2,(Jce _ _).2.1,(Jce _ _).2.2.1,h3,h4];exact ⟨rfl,rfl⟩
 have hhout : ∀j,j<vs.bx.length→(∀k:Nat,q.g[k]? ≠ some j)→JM vs2.bx j=JM vs.bx j∧lenOf vs2.bx j=lenOf vs.bx j:=by
  intro j hj hno;unfold JM lenOf;rw [hout j hj hno];exact ⟨rfl,rfl⟩
 have hhnw : ∀j,vs.bx.length≤j→j<vs2.bx.length→JM vs2.bx j=(t.cx x (vs.S S0 env) env1 m1).has (q.g.length+(j - vs.bx.length))∧lenOf vs2.bx j=(t.cx x (vs.S S0 env) env1 m1).len (q.g.length+(j - vs.bx.length)):=by
  intro j h1 h2;obtain ⟨cs,h3,h4⟩:=hnw j h1 h2;obtain ⟨h5,h6⟩:=hinY _ cs h3;rw [JK h4,QN h4,(Jbz _ _).2.1,(Jbz _ _).2.2.1,h5,h6];exact ⟨rfl,rfl⟩
 have hho : ∀j,j<vs.bx.length→JM vs2.bx j=true→JM vs.bx j=true:=by
  intro j hj hh2;by_cases hin' : ∃k:Nat,q.g[k]? = some j
  ·obtain ⟨k,hk⟩:=hin';rw [(hhin k j hk).1] at hh2;rw [←hXh k j hk];exact hhas k (by rw [hXn];exact Jx hk) hh2
  ·rw [(hhout j hj (fun k hk=>hin' ⟨k,hk⟩)).1] at hh2;exact hh2
 have hlo : ∀j L,j<vs.bx.length→lenOf vs2.bx j=some L→lenOf vs.bx j=some L:=by
  intro j L hj hh2;by_cases hin' : ∃k:Nat,q.g[k]? = some j
  ·obtain ⟨k,hk⟩:=hin';rw [(hhin k j hk).2] at hh2;rw [←hXlen k j hk];exact hlen k L (by rw [hXn];exact Jx hk) hh2
  ·rw [(hhout j hj (fun k hk=>hin' ⟨k,hk⟩)).2] at hh2;exact hh2
 have hnβ : ∀j,vs.bx.length≤j→j<vs2.bx.length→JM vs2.bx j=true→m.nxt≤env2.β j ∨ ∃(k' j':Nat),q.g[k']? = some j'∧JM vs.bx j'=true∧env.β j'=env2.β j∧JM vs2.bx j'=false:=by
  intro j h1 h2 h3;rw [(hhnw j h1 h2).1] at h3;rw [hβn j h1,show j - vs.bx.length+q.g.length=q.g.length+(j - vs.bx.length) by omega];rcases hnew (q.g.length+(j - vs.bx.length)) (by omega) (by omega) h3 with w|⟨k',j',w1,w2,w3,w4⟩
  ·exact .inl w
  ·exact .inr ⟨k',j',w1,w2,w3,by rw [(hhin k' j' w1).1];exact w4⟩
 have hφ1 : ∀i,env1.φ i→Wb (vs.cx S0 env m) i∨m.nxt≤i:=fun i w=>by
  rcases hwb i (.inr w) with w | w
  ·exact .inl (hWb0 i w)
  ·exact .inr (hXm' i w)
 have hWb2 : ∀i,Wb (vs2.cx S0 env2 m1) i→Wb (vs.cx S0 env m) i∨m.nxt≤i:=by
  intro i w;rcases w with ⟨j,h1,h3,h2⟩|w
  ·have h1':j<vs2.bx.length:=h1
   have h3':JM vs2.bx j=true:=h3
   have h2':env2.β j=i:=h2
   rcases JB j vs.bx.length with hj | hj
   ·rw [hβo j hj] at h2';exact .inl (.inl ⟨j,hj,hho j hj h3',h2'⟩)
   ·rcases hnβ j hj h1' h3' with w|⟨k',j',w1,w2,w3,_⟩
    ·exact .inr (by rw [←h2'];exact w)
    ·exact .inl (.inl ⟨j',hg k' j' w1,w2,by show env.β j'=i;rw [w3];exact h2'⟩)
  ·rcases (hφ2 i).1 w with w | w
   ·exact .inl (.inr w)
   ·exact hφ1 i w
 have hS2 : ∀i,vs2.S S0 env2 i→vs.S S0 env i∨m.nxt≤i:=by
  intro i w;rcases w with w | w
  ·exact .inl (.inl w)
  ·rcases hWb2 i w with w | w
   ·exact .inl (WbS i w)
   ·exact .inr w
 have hSY : ∀i,vs2.S S0 env2 i→(t.cx x (vs.S S0 env) env1 m1).S i:=by
  intro i w;rcases w with w|⟨j,h1,h3,h2⟩|w
  ·exact .inl (.inl w)
  ·rcases JB j vs.bx.length with hj | hj
   ·rw [hβo j hj] at h2;exact .inl (.inr (.inl ⟨j,hj,hho j hj h3,h2⟩))
   ·rw [hβn j hj,show j - vs.bx.length+q.g.length=q.g.length+(j - vs.bx.length) by omega] at h2;rw [(hhnw j hj h1).1] at h3;exact .inr (.inl ⟨q.g.length+(j - vs.bx.length),by show _<(bxI id id t.bx x.2.1).length;rw [Xl];omega,h3,h2⟩)
  ·rcases (hφ2 i).1 w with w | w
   ·exact .inl (.inr (.inr w))
   ·exact .inr (.inr w)
 have hτY : ∀(j:Nat) (b:Bf),vs2.bf[j]? = some b→(j<vs.bf.length∧(Jaa q.h vs.bf)[j]? = some b)∨(∃k,j=vs.bf.length+k∧(t.cx x (vs.S S0 env) env1 m1).bf[k]? = some b):=by
  intro j b hj;rw [hbf2] at hj;rcases JB j vs.bf.length with h | h
  ·rw [JF (by rw [X9];exact h)] at hj;exact .inl ⟨h,hj⟩
  ·rw [JN (by rw [X9];exact h),X9] at hj
   exact .inr ⟨j - vs.bf.length,by omega,hj⟩
 have hmonoX:Jex (vs.S S0 env) m (vs2.S S0 env2) m1:=hfr.mono_row T.free (fun i w=>hWbS i (hWb0 i w)) hS2;have hmonoY:Jex (t.cx x (vs.S S0 env) env1 m1).S m1 (vs2.S S0 env2) m1:=fun i r hr hn=>⟨hr,fun w=>hn (hSY i w)⟩
 have hle:Jac (vs.cx S0 env m) (vs2.cx S0 env2 m1):=by
  refine ⟨hmonoX,by show vs.bx.length≤vs2.bx.length;omega,fun j hj=>hβo j hj,fun j b hj => ?_,fun j hj w=>hho j hj w,fun j L hj w=>hlo j L hj w,fun _ w=>w,fun i w=>(hφ2 i).2 (.inl w),hfr.nxt,hfr.ty⟩
  have hjl:=Jx hj;have hjl':j<vs.bf.length:=hjl
  have hin:j<(Jaa q.h vs.bf).length:=by rw [X9];exact hjl'
  obtain ⟨b0,h1,h2⟩:=XC q.h vs.bf j (Jaa q.h vs.bf)[j] (by simp [hin]);have hj':vs.bf[j]? = some b:=hj
  rw [hj'] at h1;cases h1;rcases h2 with h2 | h2
  ·exact ⟨b.live,by show vs2.bf[j]? = _;rw [hbf2,JF hin,Jj hin,h2],hτo j hjl'⟩
  ·exact ⟨false,by show vs2.bf[j]? = _;rw [hbf2,JF hin,Jj hin,h2],hτo j hjl'⟩
 have hrx : ∀k,k<t.bx.length→rx q.g vs.bx.length k<vs2.bx.length∧((t.cx x (vs.S S0 env) env1 m1).has k=true→env2.β (rx q.g vs.bx.length k)=env1.β k)∧JM vs2.bx (rx q.g vs.bx.length k)=(t.cx x (vs.S S0 env) env1 m1).has k∧lenOf vs2.bx (rx q.g vs.bx.length k)=(t.cx x (vs.S S0 env) env1 m1).len k:=by
  intro k hk;unfold rx;cases hq:q.g[k]? with
  | some j=>
   have hj:=hg k j hq;exact ⟨by show j<_;omega,fun hw=>by show env2.β j=_;rw [hβo j hj,hβ1 k j hq hw],(hhin k j hq).1,(hhin k j hq).2⟩
  | none=>
   have:q.g.length≤k:=List.getElem?_eq_none_iff.1 hq
   have hj1:vs.bx.length+(k - q.g.length)<vs2.bx.length:=by omega
   obtain ⟨h1,h2⟩:=hhnw (vs.bx.length+(k - q.g.length)) (by omega) hj1;have hk2:q.g.length+(vs.bx.length+(k - q.g.length) - vs.bx.length)=k:=by omega
   rw [hk2] at h1 h2;refine ⟨hj1,fun _ => ?_,h1,h2⟩;show env2.β (vs.bx.length+(k - q.g.length))=_;rw [hβn _ (by omega)]
   congr 1;omega
 have hR:Jss (t.cx x (vs.S S0 env) env1 m1) (vs2.cx S0 env2 m1) (rx q.g vs.bx.length) (vs.bf.length + ·):=by
  refine ⟨hmonoY,Je _,fun _ _ q=>q,fun k hk => ?_,fun j L w hL=>Jo6 w hL,fun k b hk=>⟨b.live, ?_,hτn k⟩⟩
  ·obtain ⟨h1,h2,h3,h4⟩:=hrx k (by rw [←hYn];exact hk)
   exact ⟨h1,fun w=>h2 (by rw [←h3];exact w),fun w=>by rw [←h3];exact w,fun L w=>by rw [←h4];exact w⟩
  ·show vs2.bf[vs.bf.length+k]? = some b;rw [hbf2,JN (by rw [X9];omega),X9,show vs.bf.length+k - vs.bf.length=k by omega]
   exact hk
 have hfr0:Fr2 (Wb (vs.cx S0 env m)) (Wl (vs.cx S0 env m)) m m1:=hfr.mono hWb0 (fun i w => .inl (hWl0 i w));have hs:Stp (vs.cx S0 env m) (vs2.cx S0 env2 m1):=by
  refine ⟨hfr0,hle,hWb2,fun i w => ?_⟩;obtain ⟨j,b,h1,h2,h3⟩:=w;have h3':env2.τ j=some i:=h3
  rcases hτY j b h1 with ⟨hj,h4⟩|⟨k,rfl,h4⟩
  ·obtain ⟨b0,h5,h6⟩:=XC _ _ _ _ h4;rw [hτo j hj] at h3';rcases h6 with rfl | rfl
   ·exact .inl ⟨j,_,h5,h2,h3'⟩
   ·cases h2
  ·rw [hτn] at h3';rcases hwl i ⟨k,b,h4,h2,h3'⟩ with w | w | w
   ·exact .inl (hWl0 i w)
   ·exact .inr (.inl (hWb0 i w))
   ·exact .inr (.inr (hXm' i w))
 have hbd : ∀j j',j<vs2.bx.length→j'<vs2.bx.length→JM vs2.bx j=true→JM vs2.bx j'=true→env2.β j=env2.β j'→j=j':=by
  have cross : ∀j j',j<vs.bx.length→vs.bx.length≤j'→j'<vs2.bx.length→JM vs2.bx j=true→JM vs2.bx j'=true→env2.β j=env2.β j'→False:=by
   intro j j' hj hj' hj2 a1 a2 ge;rw [hβo j hj] at ge;have a0:=hho j hj a1;rcases hnβ j' hj' hj2 a2 with w|⟨k',j3,w1,w2,w3,w4⟩
   ·have h2:env.β j<m.nxt:=T.slt _ (T.inS j hj a0);omega
   ·have:j=j3:=T.bxd j j3 hj (hg k' j3 w1) a0 w2 (by show env.β j=env.β j3;rw [w3];exact ge)
    subst this;rw [w4] at a1;cases a1
  intro j j' g1' g2' a1 a2 ge';rcases JB j vs.bx.length with hj | hj
  ·rcases JB j' vs.bx.length with hj' | hj'
   ·rw [hβo j hj,hβo j' hj'] at ge';exact T.bxd j j' hj hj' (hho j hj a1) (hho j' hj' a2) ge'
   ·exact (cross j j' hj hj' g2' a1 a2 ge').elim
  ·rcases JB j' vs.bx.length with hj' | hj'
   ·exact (cross j' j hj' hj g1' a2 a1 ge'.symm).elim
   ·rw [(hhnw j hj g1').1] at a1;rw [(hhnw j' hj' g2').1] at a2;rw [hβn j hj,hβn j' hj',show j - vs.bx.length+q.g.length=q.g.length+(j - vs.bx.length) by omega,show j' - vs.bx.length+q.g.length=q.g.length+(j' - vs.bx.length) by omega] at ge';have:=hT.bxd _ _ (by rw [hYn];omega) (by rw [hYn];omega) a1 a2 ge'
    omega
 refine ⟨⟨hfr.free,by show m1.bar≤m1.nxt;rw [hfr.bar];exact Jy T.bar hfr.nxt,rfl,rfl,rfl,fun j hj hh => .inr (.inl ⟨j,hj,hh,rfl⟩),fun i w=>hT.slt i (hSY i w),fun j b hj => ?_,fun j j' b b' i g1 g2 l1 l2 t1 t2 => ?_,fun j cs hj => ?_,fun j j' g1 g2 a1 a2 ge=>hbd j j' g1 g2 a1 a2 ge,fun i w => .inr (.inr w),fun j hj hh w => ?_,hT.rts,hT.unq⟩,hs,hR⟩
 ·rcases hτY j b hj with ⟨hjl,h4⟩|⟨k,rfl,h4⟩
  ·obtain ⟨b0,h5,h6⟩:=XC _ _ _ _ h4;have hB:=T.bf j b0 h5;rcases h6 with rfl | rfl
   ·refine XV.le (X:=vs.cx S0 env m) (Y:=vs2.cx S0 env2 m1) hfr hmonoX (fun i w=>hWbS i (hWb0 i w)) (hτo j hjl) hB (fun hl i hi w => ?_);obtain ⟨k,j',h7,h8⟩:=hXl i w;obtain ⟨b1,h9,h10⟩:=hh k j' h7;have hjj:=T.bfd j j' _ b1 i h5 h9 hl h10 hi h8;subst hjj;have:=Jgu _ _ _ k _ h7 h4
    rw [hl] at this;cases this
   ·exact XV.le (X:=vs.cx S0 env m) (Y:=vs2.cx S0 env2 m1) hfr hmonoX (fun i w=>hWbS i (hWb0 i w)) (hτo j hjl) hB.dead (fun hl=>by cases hl)
  ·exact XV.le (X:=t.cx x (vs.S S0 env) env1 m1) (Y:=vs2.cx S0 env2 m1) (Wb:=fun _=>False) (Wl:=fun _=>False) (Fr2.refl hfr.free) hmonoY (fun _ w=>w.elim) (hτn k) (hT.bf k b h4) (fun _ _ _ w=>w)
 ·have t1':env2.τ j=some i:=t1
  have t2':env2.τ j'=some i:=t2
  have cross : ∀{j k:Nat} {b b':Bf},j<vs.bf.length→(Jaa q.h vs.bf)[j]? = some b→b.live=true→env.τ j=some i→(t.cx x (vs.S S0 env) env1 m1).bf[k]? = some b'→b'.live=true→env1.τ k=some i→False:=by
   intro j k b b' hj h4 l1 t1 h4' l2 t2;obtain ⟨b0,h5,h6⟩:=XC _ _ _ _ h4;have l0:b0.live=true:=by rcases h6 with rfl | rfl;exact l1;cases l1
   rcases hwl i ⟨k,b',h4',l2,t2⟩ with w | w | w
   ·obtain ⟨k2,j2,h7,h8⟩:=hXl i w;obtain ⟨b1,h9,h10⟩:=hh k2 j2 h7;have hjj:=T.bfd j j2 b0 b1 i h5 h9 l0 h10 t1 h8;subst hjj;have:=Jgu _ _ _ k2 _ h7 h4
    rw [l1] at this;cases this
   ·exact (T.bf j b0 h5).noS t1 (hWbS i (hWb0 i w))
   ·have h7:=(T.bf j b0 h5).lt T.free t1;have h8:i<m.nxt:=h7;have:=hXm' i w
    omega
  rcases hτY j b g1 with ⟨hj,h4⟩|⟨k,rfl,h4⟩
  ·rw [hτo j hj] at t1';rcases hτY j' b' g2 with ⟨hj',h4'⟩|⟨k',rfl,h4'⟩
   ·rw [hτo j' hj'] at t2';obtain ⟨b0,h5,h6⟩:=XC _ _ _ _ h4;obtain ⟨b0',h5',h6'⟩:=XC _ _ _ _ h4';have l0:b0.live=true:=by rcases h6 with rfl | rfl;exact l1;cases l1
    have l0':b0'.live=true:=by rcases h6' with rfl | rfl;exact l2;cases l2
    exact T.bfd j j' b0 b0' i h5 h5' l0 l0' t1' t2'
   ·rw [hτn] at t2';exact (cross hj h4 l1 t1' h4' l2 t2').elim
  ·rw [hτn] at t1';rcases hτY j' b' g2 with ⟨hj',h4'⟩|⟨k',rfl,h4'⟩
   ·rw [hτo j' hj'] at t2';exact (cross hj' h4' l2 t2' h4 l1 t1').elim
   ·rw [hτn] at t2';rw [hT.bfd k k' b b' i h4 h4' l1 l2 t1' t2']
 ·
  have fromY : ∀ {k : Nat} {cs0 : List Cl} {own : Bool → Bool}, (bxI (rx q.g vs.bx.length) (vs.bf.length + ·) t.bx x.2.1)[k]? = some cs0 → ((t.cx x (vs.S S0 env) env1 m1).has k = true → env2.β j = env1.β k) → ((∃ o, cs = JdN o cs0 ∧ (o = true → Xo cs0 = true → ¬ S0 (env2.β j))) ∨ cs = cs0) → Qy P (vs2.cx S0 env2 m1) j cs := by
   intro k cs0 own hk he hcs;obtain ⟨ps,z,rfl,h1⟩:=JpW hk;have hBY:=hT.bx k _ h1;have hasY:Xo (ceI id id ps z)=true→(t.cx x (vs.S S0 env) env1 m1).has k=true:=fun w=>by
    show JM (bxI id id t.bx x.2.1) k=true;rw [JK h1];exact w
   have runle : ∀{arr:Bool} {e:Ty} {xs:List e.El},(xs ≠ []→Xo (ceI id id ps z)=true)→JaA P (t.cx x (vs.S S0 env) env1 m1) k arr e xs→JaA P (vs2.cx S0 env2 m1) j arr e xs:=fun hq hr=>
    JaA.le (X:=t.cx x (vs.S S0 env) env1 m1) (Y:=vs2.cx S0 env2 m1) (Wb:=fun _=>False) (Wl:=fun _=>False) hT.free hT.rts (Fr2.refl hfr.free) hmonoY (fun i w=>(hφ2 i).2 (.inr w)) (fun w=>he (hasY (hq w))) hr (fun _ w=>w) (fun _ w=>w)
   rcases Jjh (rx:=rx q.g vs.bx.length) (rb:=(vs.bf.length + ·)) (ps:=ps) (z:=z) with ⟨hr1,hr2⟩|⟨hkind,heq⟩|⟨mc,ml,hk1,hk2⟩|⟨hg1,hg2⟩
   ·have hcs2:cs=ceI (rx q.g vs.bx.length) (vs.bf.length + ·) ps z:=by
     rcases hcs with ⟨o,h5,_⟩|h5
     ·rw [h5,(Jbz _ _).2.2.2 hr1]
     ·exact h5
    rw [hcs2];refine Qy.of hr1 ?_;obtain ⟨b,c,e,fr,h2,h3,h4,h5,h6,h8⟩:=hBY.cel hr2;unfold JeA;rw [show (vs2.cx S0 env2 m1).env.β j=env1.β k from he (hasY (Qs hr2))];exact ⟨b,c,e,fr,h2,h3,h4,h5,h6,JuK hR h8⟩
   ·rw [heq] at hBY;rcases hkind with ⟨e,xs,hk1⟩|⟨e,xs,hk1⟩|hk1|⟨e,xs,hk1⟩
    ·rw [hk1] at hBY hcs;rcases hcs with ⟨o,h5,h6⟩|h5
     ·rw [h5];exact ⟨runle (fun w=>by rw [heq,hk1];exact QG w) hBY.1,fun o1 o2=>h6 o1 (QG o2)⟩
     ·rw [h5];exact ⟨runle (fun w=>by rw [heq,hk1];exact QG w) hBY.1,fun o1=>by cases o1⟩
    ·rw [hk1] at hBY hcs;have:cs = [.ra e xs]:=by
      rcases hcs with ⟨o,h5,_⟩|h5
      ·rw [h5];rfl
      ·exact h5
     rw [this];exact runle (fun w=>by rw [heq,hk1];exact Jcf w) hBY
    ·rw [hk1] at hcs;have:cs = [.g]:=by
      rcases hcs with ⟨o,h5,_⟩|h5
      ·rw [h5];rfl
      ·exact h5
     rw [this];trivial
    ·rw [hk1] at hBY hcs;have:cs = [.ms e xs]:=by
      rcases hcs with ⟨o,h5,_⟩|h5
      ·rw [h5];rfl
      ·exact h5
     rw [this];obtain ⟨b,es,ck,h2,h3,h4,h5,h6,h8⟩:=hBY;show Jqr P (vs2.cx S0 env2 m1) j e xs;unfold Jqr;rw [show (vs2.cx S0 env2 m1).env.β j=env1.β k from he (hasY (by rw [heq,hk1];rfl))]
     exact ⟨b,es,ck,h2,h3,h4,h5,h6,h8.mono hmonoY⟩
   ·rw [hk2] at hBY;rw [hk1] at hcs;have:cs = [.mx mc (ml.map fun u=>(u.1,u.2.1,rx q.g vs.bx.length u.2.2))]:=by
     rcases hcs with ⟨o,h5,_⟩|h5
     ·rw [h5];rfl
     ·exact h5
    rw [this];obtain ⟨b,es,h2,h3,h4,h5,h6,h8⟩:=hBY;show Jf8 P (vs2.cx S0 env2 m1) j mc _;unfold Jf8;rw [show (vs2.cx S0 env2 m1).env.β j=env1.β k from he (hasY (by rw [hk2];rfl))]
    exact ⟨b,es,h2,h3,h4,h5,h6,JrZ hR h8⟩
   ·have hcs2:cs=ceI (rx q.g vs.bx.length) (vs.bf.length + ·) ps z:=by
     rcases hcs with ⟨o,h5,_⟩|h5
     ·rw [h5,Jrc _ hg1]
     ·exact h5
    rw [hcs2];refine Qy.ofSg hg1 ?_;obtain ⟨b,ws,h2,h4,h5,h6,h8,h9⟩:=hBY.sg hg2;unfold JbP;rw [show (vs2.cx S0 env2 m1).env.β j=env1.β k from he (hasY (Q2 hg2).1)];exact ⟨b,ws,h2,h4,h5,h6,Jsg hR h8,by rw [JuJ];exact h9⟩
  rcases JB j vs.bx.length with hjl | hjl
  ·by_cases hin' : ∃ k : Nat, q.g[k]? = some j
   ·obtain ⟨k,hk⟩:=hin';obtain ⟨cs0,h1,h2⟩:=hin k j hk;rw [hj] at h2;simp only [Jg] at h2;refine fromY (own:=id) h1 (fun hw=>by rw [hβo j hjl,hβ1 k j hk hw]) ?_;rw [h2];unfold Jdh;split
    ·rename_i o e xs ho;refine .inl ⟨o,rfl,fun o1 hh1 w => ?_⟩;subst o1;have hB:=T.bx j _ ho;have hj2:JM vs.bx j=true:=by
      refine hho j hjl ?_;rw [(hhin k j hk).1,(hinY k cs0 h1).1];exact hh1
     rw [JK ho] at hj2;rw [hβo j hjl] at w;exact hB.2 rfl (JcY hj2) w
    ·exact .inr rfl
   ·have hno : ∀k:Nat,q.g[k]? ≠ some j:=fun k hk=>hin' ⟨k,hk⟩
    rw [hout j hjl hno] at hj;refine Qy.le (X:=vs.cx S0 env m) (Y:=vs2.cx S0 env2 m1) T.free T.rts hfr hle (fun _=>hβo j hjl) (T.bx j cs hj) (fun hh1 w => ?_) (fun hh1 w => ?_)
    ·have hjh:JM vs.bx j=true:=(JK hj).trans hh1;rcases hWbX _ w with ⟨k,j',h1,h3,h2⟩|w
     ·have:=T.bxd j j' hjl (hg k j' h1) hjh h3 h2.symm
      subst this;exact hno k h1
     ·exact T.φd j hjl hjh w
    ·have hjh:JM vs.bx j=true:=(JK hj).trans hh1;obtain ⟨k,j',h1,h2⟩:=hXl _ w;obtain ⟨b1,h9,h10⟩:=hh k j' h1;exact (T.bf j' b1 h9).noS h2 (.inr (.inl ⟨j,hjl,hjh,rfl⟩))
  ·have hj2 : j < vs2.bx.length := Jx hj;obtain ⟨cs0, h1, h2⟩ := hnw j hjl hj2;rw [hj] at h2;simp only [Jg] at h2;refine fromY (own := id) h1 (fun _ => by rw [hβn j hjl];congr 1;omega) (.inl ⟨_, h2, fun o1 hh1 w => ?_⟩)
   have hjh:JM vs2.bx j=true:=by rw [(hhnw j hjl hj2).1,(hinY _ cs0 h1).1];exact hh1
   rcases hnβ j hjl hj2 hjh with w2|⟨k',j',w1,w2,w3,w4⟩
   ·have:=T.slt (env2.β j) (.inl w)
    have this':env2.β j<m.nxt:=this
    omega
   ·have hkeep : ∀ {c : List Cl}, Js2 c = true → Xo c = true := by
     intro c hc;cases c with
     | nil=>rfl
     | cons a l=>cases l with
      | nil=>cases a <;> first | rfl | cases hc
      | cons b l=>cases a <;> rfl
    have hall : ∀ {g : List Nat} {r : List (List Cl)}, JgD vs.bx g r = true → ∀ (k j : Nat), g[k]? = some j → (∃ e xs, vs.bx[j]? = some [.r true e xs]) ∨ ∃ c, r[k]? = some c ∧ Xo c = true := by
     intro g;induction g with
     | nil=>intro r _ k j h;simp at h
     | cons a g ih =>
      intro r h k j hk;cases r with
      | nil=>cases h
      | cons c r=>
       simp only [JgD,Jh,Bool.or_eq_true] at h;cases k with
       | zero=>
        simp only [List.getElem?_cons_zero,Jg] at hk;subst hk;rcases h.1 with h5 | h5
        ·split at h5
         ·rename_i o e xs ho;rw [h5] at ho;exact .inl ⟨e,xs,ho⟩
         ·cases h5
        ·exact .inr ⟨c,rfl,hkeep h5⟩
       | succ k=>
        rcases ih h.2 k j (by simpa using hk) with q1|⟨c',q1,q2⟩
        ·exact .inl q1
        ·exact .inr ⟨c',by simpa using q1,q2⟩
    rcases hall o1 k' j' w1 with ⟨e,xs,ho⟩|⟨c',q1,q2⟩
    case inr=>
     obtain ⟨cs5,h5,h6⟩:=hin k' j' w1;rw [h5] at q1;cases q1;rw [JK h6,(Jce _ _).2.1] at w4;rw [q2] at w4;cases w4
    have hB:=T.bx j' _ ho;rw [JK ho] at w2;rw [←w3] at w;exact hB.2 rfl (JcY w2) w
 ·have hj1 : j < vs2.bx.length := hj;have hh1 : JM vs2.bx j = true := hh;have w' := (hφ2 _).1 w
  rcases JB j vs.bx.length with hjl | hjl
  ·have hjh := hho j hjl hh1;rw [show (vs2.cx S0 env2 m1).env.β j = env.β j from hβo j hjl] at w';rcases w' with w' | w'
   ·exact T.φd j hjl hjh w'
   ·by_cases hin' : ∃ k : Nat, q.g[k]? = some j
    ·obtain ⟨k,hk⟩:=hin';rw [(hhin k j hk).1] at hh1;refine hT.φd k (by rw [hYn];have:=Jx hk;omega) hh1 ?_
     show env1.φ (env1.β k);rw [hβ1 k j hk hh1];exact w'
    ·rcases hwb _ (.inr w') with w2 | w2
     ·rcases hWbX _ w2 with ⟨k,j',h1,h3,h2⟩|w2
      ·have:=T.bxd j j' hjl (hg k j' h1) hjh h3 h2.symm
       subst this;exact hin' ⟨k,h1⟩
      ·exact T.φd j hjl hjh w2
     ·have h2:env.β j<m.nxt:=T.slt _ (T.inS j hjl hjh);have:=hXm' _ w2
      omega
  ·rcases w' with w' | w'
   ·rcases hnβ j hjl hj1 hh1 with w2|⟨k',j',w1,w2,w3,_⟩
    ·have h2:env2.β j<m.nxt:=T.slt _ (T.φS _ w');omega
    ·have w4:env.φ (env2.β j):=w';rw [←w3] at w4;exact T.φd j' (hg k' j' w1) w2 w4
   ·rw [(hhnw j hjl hj1).1] at hh1;have w4:env1.φ (env2.β j):=w';rw [hβn j hjl,show j - vs.bx.length+q.g.length=q.g.length+(j - vs.bx.length) by omega] at w4;exact hT.φd _ (by rw [hYn];omega) hh1 w4
end Go.IM.V
namespace Go.IM.V
open Go Go.IM
variable {P:Program} {m m1:M} {S0:Nat→Prop} {env:Env} {a:Act} {vs:VS} {X:Cx}
theorem Rel.setObj (h:Rel P S0 env m a vs) {j:Nat} {cs ns:List Cl} (hj:vs.bx[j]? = some cs) (hcs:Xo cs=true) (hh:Xo ns=true) (hl:JaQ ns=JaQ cs) {k:Blk} (hal:m.alive (env.β j)=some k) (hroot:k.root=env.β j) {o:Obj} (ho:Jn1 o=Jn1 k.obj)
  (hnew : ∀m',Jac (vs.cx S0 env m) { vs.cx S0 env m with m:=m' }→m'.alive (env.β j)=some { k with obj:=o }→Qy P { vs.cx S0 env m with m:=m' } j ns) :
  Rel P S0 env (m.set (env.β j) { k with obj:=o }) a { vs with bx:=QC vs.bx j ns }∧Stp (vs.cx S0 env m) (({ vs with bx:=QC vs.bx j ns }:VS).cx S0 env (m.set (env.β j) { k with obj:=o })):=by
 have hT:=h.T;obtain ⟨hfr,hal2⟩:=JhT o ho hT.free hal hroot;have hjl:j<vs.bx.length:=Jx hj;have hle:Jac (vs.cx S0 env m) { vs.cx S0 env m with m:=m.set (env.β j) { k with obj:=o } }:=
  ⟨hfr.mono_row hT.free (fun i w=>by rw [w];exact hT.inS j hjl ((JK hj).trans hcs)) (fun i w => .inl w),Je _,fun _ _=>rfl,fun q b hb=>⟨b.live,hb,rfl⟩,fun _ _ q=>q,fun _ _ _ q=>q,fun _ q=>q,fun _ q=>q,hfr.nxt,hfr.ty⟩
 exact h.setBox hj hcs (hh.trans hcs.symm) hl hfr (fun i w => .inl w) (hnew _ hle hal2)
theorem Q0 {i:Nat} {k:Blk} {o:Obj} (hal:m.alive i=some k) (hro:k.ro=false) (hsup:k.sup=false) (hroot:k.root=i) (hbar:m.bar≤i):m.putObj i o=some (m.set i { k with obj:=o }):=by
 unfold M.putObj;rw [hal];dsimp only;rw [Jf ⟨hro,hsup,hbar,by rw [hroot];exact hbar⟩]
 simp [M.put,hroot]
theorem Rel.newObj (h : Rel P S0 env m a vs) {cs : List Cl} {o : Obj} (hcs : Xo cs = true)
  (hnew : ∀Y:Cx,Jac (vs.cx S0 env m) Y→Y.m.alive (Y.env.β vs.bx.length)=some ⟨o,m.nxt,false,false,false⟩→Y.env.β vs.bx.length=m.nxt→Qy P Y vs.bx.length cs) :
  m.newO o=some (m.nxt,m.mk1 o)∧Rel P S0 (env.setβ vs.bx.length m.nxt) (m.mk1 o) a (V.newBox vs cs).2∧Stp (vs.cx S0 env m) ((V.newBox vs cs).2.cx S0 (env.setβ vs.bx.length m.nxt) (m.mk1 o)):=by
 have hT:=h.T;have hfr:=Ja6 hT.free o;have hβ : ∀j,j<vs.bx.length→(env.setβ vs.bx.length m.nxt).β j=env.β j:=fun j hj=>Jas _ _ (by omega)
 have hnb:(V.newBox vs cs).2.bx.length=vs.bx.length+1:=by show (vs.bx ++ [cs]).length=_;simp
 have hho : ∀j,j<vs.bx.length→JM (V.newBox vs cs).2.bx j=JM vs.bx j:=fun j hj=>by show JM (vs.bx ++ [cs]) j=_;rw [Xi,Jd (by omega)]
 have hlo : ∀j,j<vs.bx.length→lenOf (V.newBox vs cs).2.bx j=lenOf vs.bx j:=fun j hj=>by show lenOf (vs.bx ++ [cs]) j=_;rw [XM,Jd (by omega)]
 have hle:Jac (vs.cx S0 env m) ((V.newBox vs cs).2.cx S0 (env.setβ vs.bx.length m.nxt) (m.mk1 o)):=by
  refine ⟨hfr.mono_row hT.free (fun _ w=>w.elim) (fun q w => ?_),by show vs.bx.length≤(V.newBox vs cs).2.bx.length;omega,hβ,fun j b hb=>⟨b.live,hb,rfl⟩,
   fun j hj q=>(hho j hj).symm.trans q,fun j L hj q=>(hlo j hj).symm.trans q,fun _ q=>q,fun _ q=>q,hfr.nxt,hfr.ty⟩
  rcases w with w|⟨j,h1,h3,h2⟩|w
  ·exact .inl (.inl w)
  ·rw [hnb] at h1;rcases JB j vs.bx.length with hj | hj
   ·exact .inl (.inr (.inl ⟨j,hj,by rw [←hho j hj];exact h3,by rw [←hβ j hj];exact h2⟩))
   ·obtain rfl:j=vs.bx.length:=by omega
    rw [J6] at h2;exact .inr (by show m.nxt≤q;omega)
  ·exact .inl (.inr (.inr w))
 refine ⟨by
  have hq:m.get m.nxt=none:=hT.free m.nxt (Je _);unfold M.newO;rw [hq],h.addBox (cs:=cs) (i:=m.nxt) hfr (fun _=>⟨Je _,Nat.lt_succ_self _⟩) (hnew _ hle ?_ (J6 _ _ _))⟩
 show (m.mk1 o).alive ((env.setβ vs.bx.length m.nxt).β vs.bx.length)=_;rw [J6];exact Xa _
theorem JfC {q : ByteArray} : ∀ {l : List (ByteArray × Nat × Nat)} {es : List MapEntry} (n : Nat), Xj P X l es →
  match Jjd q l n with
  | none=>Instr.findNow .string (.string q) es n=some none
  | some (i,jj) => ∃v,Instr.findNow .string (.string q) es n=some (some (i,v))∧Jap P X (.p jj 0) v∧n≤i:=by
 intro l;induction l with
 | nil=>intro es n h;cases es with
  | nil=>rfl
  | cons=>exact h.elim
 | cons b l ih=>
  intro es n h;cases es with
  | nil=>exact h.elim
  | cons e es=>
   obtain ⟨⟨h1,h2,h3⟩,h4⟩:=h;have hs:Instr.sameNow .string (.string q) e.key=some (q == b.1):=by rw [h1];rfl
   unfold Jjd Instr.findNow;rw [hs];cases hq:(q == b.1) with
   | true=>exact ⟨_,rfl,h3,Je _⟩
   | false=>
    have h5:=ih (n+1) h4;simp only [Jl];split at h5
    ·exact h5
    ·rename_i i jj hf;obtain ⟨v,g1,g2,g3⟩:=h5;exact ⟨v,g1,g2,by omega⟩
theorem Jr1 {q:ByteArray} {jj:Nat} {v:Value} (hv:Jap P X (.p jj 0) v) : ∀{l:List (ByteArray × Nat × Nat)} {es:List MapEntry} (i:Nat),Xj P X l es →
  Xj P X (modK q jj l i) (es.modify i fun e => { e with key := .string q,val:=v }):=by
 intro l;induction l with
 | nil=>intro es i h;cases es with
  | nil=>simp [modK];trivial
  | cons=>exact h.elim
 | cons b l ih=>
  intro es i h;cases es with
  | nil=>exact h.elim
  | cons e es=>
   obtain ⟨⟨h1,h2,h3⟩,h4⟩:=h;cases i with
   | zero=>rw [List.modify_zero_cons];exact ⟨⟨rfl,h2,hv⟩,h4⟩
   | succ i=>rw [List.modify_succ_cons];exact ⟨⟨h1,h2,h3⟩,ih i h4⟩
theorem Jr2 : ∀{l:List (ByteArray × Nat × Nat)} {es:List MapEntry} (i:Nat),Xj P X l es→Xj P X (eraK l i) (es.eraseIdx i):=by
 intro l;induction l with
 | nil=>intro es i h;cases es with
  | nil=>simp [eraK];trivial
  | cons=>exact h.elim
 | cons b l ih=>
  intro es i h;cases es with
  | nil=>exact h.elim
  | cons e es=>
   obtain ⟨h1,h4⟩:=h;cases i with
   | zero=>exact h4
   | succ i=>exact ⟨h1,ih i h4⟩
theorem Jr3 {c:ByteArray × Nat × Nat} {e:MapEntry} (hc:e.key = .string c.1∧e.born=c.2.1∧Jap P X (.p c.2.2 0) e.val) : ∀{l:List (ByteArray × Nat × Nat)} {es:List MapEntry},Xj P X l es→Xj P X (l ++ [c]) (es ++ [e]):=by
 intro l;induction l with
 | nil=>intro es h;cases es with
  | nil=>exact ⟨hc,trivial⟩
  | cons=>exact h.elim
 | cons b l ih=>
  intro es h;cases es with
  | nil=>exact h.elim
  | cons x es=>exact ⟨h.1,ih h.2⟩
theorem JbE (p:Nat→Bool) : ∀{l:List (ByteArray × Nat × Nat)} {es:List MapEntry},Xj P X l es→Xj P X (l.filter fun a=>p a.2.1) (es.filter fun e=>p e.born):=by
 intro l;induction l with
 | nil=>intro es h;cases es with
  | nil=>trivial
  | cons=>exact h.elim
 | cons b l ih=>
  intro es h;cases es with
  | nil=>exact h.elim
  | cons e es=>
   obtain ⟨h1,h4⟩:=h;have hb:e.born=b.2.1:=h1.2.1;simp only [List.filter_cons,hb];split
   ·exact ⟨h1,ih h4⟩
   ·exact ih h4
theorem Jr4 (p:Nat→Bool) : ∀{l:List (ByteArray × Nat × Nat)} {es:List MapEntry},Xj P X l es→(es.all fun e=>p e.born)=(l.all fun a=>p a.2.1)∧es.isEmpty=l.isEmpty:=by
 intro l;induction l with
 | nil=>intro es h;cases es with
  | nil=>exact ⟨rfl,rfl⟩
  | cons=>exact h.elim
 | cons b l ih=>
  intro es h;cases es with
  | nil=>exact h.elim
  | cons e es=>
   obtain ⟨h1,h4⟩:=h;have hb:e.born=b.2.1:=h1.2.1;refine ⟨?_,rfl⟩;simp only [List.all_cons,hb,(ih h4).1]
theorem Jcq (h:Rel P S0 env m a vs) {j c:Nat} {l:List (ByteArray × Nat × Nat)} (hj:JoY vs j=some (c,l)) {w:Value} (hw:J8 P (vs.cx S0 env m) (.v (.s (.mv j))) w) :
  vs.bx[j]? = some [.mx c l]∧w = .map (some (env.β j)) ∧ ∃k es,m.alive (env.β j)=some k∧k.obj = .map es c∧k.ro=false∧k.sup=false∧k.root=env.β j∧Xj P (vs.cx S0 env m) l es.toList∧m.mapOf (env.β j)=some (es,c):=by
 have hbx:vs.bx[j]? = some [.mx c l]:=by
  unfold JoY at hj;split at hj
  ·rename_i c' l' hq;cases hj;exact hq
  ·cases hj
 obtain ⟨h1,i,h2,h3,h4⟩:=hw;have hh:JM vs.bx j=true:=by rw [JK hbx];rfl
 have hi:i=env.β j:=h4 hh;obtain ⟨k,es,g1,g2,g3,g4,g5,g6⟩:=h.T.bx j _ hbx;refine ⟨hbx,by rw [h2,hi],k,es,g1,g2,g3,g4,g5,g6, ?_⟩;have g1':m.alive (env.β j)=some k:=g1
 unfold M.mapOf;rw [g1'];dsimp only;rw [g2]
theorem Jag {t e:TypeId} (h:JbM P t=some e):JkH P t=some (.string,e):=by
 unfold JbM at h;split at h
 ·rename_i d e' hm;rw [hm];cases hb:isTxt d with
  | false=>rw [hb] at h;cases h
  | true=>
   rw [hb] at h;cases h;cases d <;> first | rfl | cases hb
 ·cases h
theorem JbY {q:ByteArray} {w:Value} (h:J8 P X (.v (.s (.c (.string q)))) w):w = .string q:=h.1
theorem Jg2 (h : Rel P S0 env m a vs) {t : TypeId} {x k y : Sl} {ok : Bool} {wx wk : Value} {vs1 : VS} (hx : J8 P (vs.cx S0 env m) x wx) (hk : J8 P (vs.cx S0 env m) k wk) (hv : Jg5 P t x k ok vs = some (y, vs1)) :
  vs1=vs ∧ ∃v,Q8 P t wx wk ok m=some v∧J8 P (vs.cx S0 env m) y v:=by
 unfold Jg5 at hv;split at hv
 ·rename_i e j q ht;split at hv
  ·rename_i c l hj;obtain ⟨hbx,rfl,kb,es,g1,g2,g3,g4,g5,g6,g7⟩:=Jcq h hj hx;obtain rfl:=JbY hk
   have hf:=JfC (q:=q) 0 g6;have hpk : ∀r,Instr.findNow .string (.string q) es.toList 0=some r→Q8 P t (.map (some (env.β j))) (.string q) ok m=Jaq P e ok r:=by
    intro r hr;unfold Q8;rw [Jag ht];dsimp only;rw [g7];dsimp only;unfold JdV;rw [show QW .string (.string q)=true from rfl,Jf rfl,hr]
   split at hv
   ·rename_i i jj hfi;rw [hfi] at hf;obtain ⟨v,f1,f2,_⟩:=hf;cases hv;refine ⟨rfl,_,(hpk _ f1).trans rfl, ?_⟩;cases ok with
    | true=>exact ⟨_,rfl,f2,⟨rfl,rfl⟩,trivial⟩
    | false=>exact f2
   ·rename_i hfi;rw [hfi] at hf;split at hv
    ·rename_i v hz;cases hv;exact ⟨rfl,v,(hpk _ hf).trans hz,JdO v⟩
    ·cases hv
  ·cases hv
 ·cases hv
theorem Jc4 (h : Rel P S0 env m a vs) (hbar : ∀ i, Wb (vs.cx S0 env m) i → m.bar ≤ i) {t : TypeId} {x k v y : Sl} {wx wk wv : Value} {vs1 : VS} (hx : J8 P (vs.cx S0 env m) x wx) (hk : J8 P (vs.cx S0 env m) k wk) (hv' : J8 P (vs.cx S0 env m) v wv) (hv : JjP P t x k v vs = some (y, vs1)) :
  ∃m1,Xf P t wx wk wv m=some m1∧Rel P S0 env m1 a vs1∧Stp (vs.cx S0 env m) (vs1.cx S0 env m1)∧y=Qn:=by
 unfold JjP at hv;split at hv
 ·rename_i e j q ht;split at hv
  ·rename_i c l jj hj;obtain ⟨hbx,rfl,kb,es,g1,g2,g3,g4,g5,g6,g7⟩:=Jcq h hj hx;obtain rfl:=JbY hk
   have hf:=JfC (q:=q) 0 g6;have hp:Jap P (vs.cx S0 env m) (.p jj 0) wv:=hv';have hb:m.bar≤env.β j:=hbar _ (.inl ⟨j,Jx hbx,by show JM vs.bx j=true;rw [JK hbx];rfl,rfl⟩)
   cases hv;have hpk : ∀r,Instr.findNow .string (.string q) es.toList 0=some r→Xf P t (.map (some (env.β j))) (.string q) wv m=(match (r:Option (Nat × Value)) with
     | some (j',_)=>m.putObj (env.β j) (.map (es.modify j' fun e => { e with key := .string q,val:=wv }) c)
     | none=>m.putObj (env.β j) (.map (es.push { key := .string q,val:=wv,born:=c }) (c+1))):=by
    intro r hr;unfold Xf;rw [Jag ht];dsimp only;rw [g7];dsimp only;unfold JdV;rw [show QW .string (.string q)=true from rfl,Jf rfl,hr];cases r with
    | none=>rfl
    | some r=>rfl
   cases hfi:Jjd q l 0 with
   | none=>
    rw [hfi] at hf;obtain ⟨k1,k2⟩:=h.setObj (ns := [.mx (c+1) (l ++ [(q,c,jj)])]) hbx rfl rfl rfl g1 g5 (o := .map (es.push { key := .string q,val:=wv,born:=c }) (c+1)) (by rw [g2];rfl) (fun m' hle hal=>by
     refine ⟨_,_,hal,rfl,g3,g4,g5, ?_⟩;rw [Array.toList_push];exact (Jr3 ⟨rfl,rfl,hp⟩ g6).le hle)
    exact ⟨_,(hpk _ hf).trans (Q0 g1 g3 g4 g5 hb),k1,k2,rfl⟩
   | some p=>
    obtain ⟨i,j2⟩:=p;rw [hfi] at hf;obtain ⟨v',f1,f2,_⟩:=hf;obtain ⟨k1,k2⟩:=h.setObj (ns := [.mx c (modK q jj l i)]) hbx rfl rfl rfl g1 g5 (o := .map (es.modify i fun e => { e with key := .string q,val:=wv }) c) (by rw [g2];rfl) (fun m' hle hal=>by
     refine ⟨_,_,hal,rfl,g3,g4,g5, ?_⟩;rw [Array.toList_modify];exact (Jr1 hp i g6).le hle)
    exact ⟨_,(hpk _ f1).trans (Q0 g1 g3 g4 g5 hb),k1,k2,rfl⟩
  ·cases hv
 ·cases hv
theorem Jg8 (h : Rel P S0 env m a vs) (hbar : ∀ i, Wb (vs.cx S0 env m) i → m.bar ≤ i) {t : TypeId} {x k y : Sl} {wx wk : Value} {vs1 : VS} (hx : J8 P (vs.cx S0 env m) x wx) (hk : J8 P (vs.cx S0 env m) k wk) (hv : Jj5 P t x k vs = some (y, vs1)) :
  ∃m1,X8 P t wx wk m=some m1∧Rel P S0 env m1 a vs1∧Stp (vs.cx S0 env m) (vs1.cx S0 env m1)∧y=Qn:=by
 unfold Jj5 at hv;split at hv
 ·rename_i e j q ht;split at hv
  ·rename_i c l hj;obtain ⟨hbx,rfl,kb,es,g1,g2,g3,g4,g5,g6,g7⟩:=Jcq h hj hx;obtain rfl:=JbY hk
   have hf:=JfC (q:=q) 0 g6;have hb:m.bar≤env.β j:=hbar _ (.inl ⟨j,Jx hbx,by show JM vs.bx j=true;rw [JK hbx];rfl,rfl⟩)
   cases hv;have hpk : ∀r,Instr.findNow .string (.string q) es.toList 0=some r→X8 P t (.map (some (env.β j))) (.string q) m=(match (r:Option (Nat × Value)) with
     | some (j',_)=>m.putObj (env.β j) (.map (es.eraseIdxIfInBounds j') c)
     | none=>m.putObj (env.β j) (.map es c)):=by
    intro r hr;unfold X8;rw [Jag ht];dsimp only;rw [g7];dsimp only;unfold JdV;rw [show QW .string (.string q)=true from rfl,Jf rfl,hr];cases r with
    | none=>rfl
    | some r=>rfl
   cases hfi:Jjd q l 0 with
   | none=>
    rw [hfi] at hf;obtain ⟨k1,k2⟩:=h.setObj (ns := [.mx c l]) hbx rfl rfl rfl g1 g5 (o := .map es c) (by rw [g2]) (fun m' hle hal=>⟨_,_,hal,rfl,g3,g4,g5,g6.le hle⟩);exact ⟨_,(hpk _ hf).trans (Q0 g1 g3 g4 g5 hb),k1,k2,rfl⟩
   | some p=>
    obtain ⟨i,j2⟩:=p;rw [hfi] at hf;obtain ⟨v',f1,f2,_⟩:=hf;obtain ⟨k1,k2⟩:=h.setObj (ns := [.mx c (eraK l i)]) hbx rfl rfl rfl g1 g5 (o := .map (es.eraseIdxIfInBounds i) c) (by rw [g2];rfl) (fun m' hle hal=>by
     refine ⟨_,_,hal,rfl,g3,g4,g5, ?_⟩;rw [Array.toList_eraseIdxIfInBounds];exact (Jr2 i g6).le hle)
    exact ⟨_,(hpk _ f1).trans (Q0 g1 g3 g4 g5 hb),k1,k2,rfl⟩
  ·cases hv
 ·cases hv
theorem JoZ {Y:Cx} {n i:Nat} (h1:n<Y.nb) (h2:i<Y.m.nxt) (h3:Y.env.β n=i):J8 P Y (.v (.s (.mv n))) (.map (some i)):=⟨h1,i,rfl,h2,fun _=>h3.symm⟩
theorem JfV (h:Rel P S0 env m a vs) {t:TypeId} {r:Option Sl} {wr:Option Value} {y:Sl} {vs1:VS} (hr:match r,wr with | none,none=>True | some s,some w=>J8 P (vs.cx S0 env m) s w | _,_=>False) (hv:Jg1 P t r vs=some (y,vs1)) :
  ∃v m1 env1,QF P t wr m=some (v,m1)∧Rel P S0 env1 m1 a vs1∧Stp (vs.cx S0 env m) (vs1.cx S0 env1 m1)∧J8 P (vs1.cx S0 env1 m1) y v:=by
 obtain ⟨k0,k1,k2⟩:=h.newObj (cs := [.mx 0 []]) (o := .map #[] 0) rfl (fun Y hle hal hβ=>by
  refine ⟨_,_,hal,rfl,rfl,rfl,hβ.symm,trivial⟩)
 have fin : ∀{i},QF P t wr m=some (i,m.mk1 (.map #[] 0))→i = .map (some m.nxt)→(.v (.s (.mv vs.bx.length)),(newBox vs [.mx 0 []]).2)=(y,vs1) → ∃v m1 env1,QF P t wr m=some (v,m1)∧Rel P S0 env1 m1 a vs1∧Stp (vs.cx S0 env m) (vs1.cx S0 env1 m1)∧J8 P (vs1.cx S0 env1 m1) y v:=by
  intro i hi e1 e2;cases e2;subst e1;refine ⟨_,_,_,hi,k1,k2, ?_⟩;refine JoZ (by show vs.bx.length<(vs.bx ++ [_]).length;simp) (Nat.lt_succ_self _) (J6 _ _ _)
 unfold Jg1 at hv;split at hv
 ·cases hv;cases wr with
  | some w=>exact hr.elim
  | none=>exact fin (by unfold QF;rw [k0]) rfl rfl
 ·rename_i hu;cases hv;cases wr with
  | none=>exact hr.elim
  | some w=>
   have hw:=hr.1;subst hw;exact fin (by unfold QF;rw [hu,k0]) rfl rfl
 ·cases hv
theorem JuD {e:Ty} {q:ByteArray} : ∀{l:List (ByteArray × e.El)} {es:List MapEntry} (n:Nat),JfD P X e l es →
  match QA q l with
  | none=>Instr.findNow .string (.string q) es n=some none
  | some y => ∃i v,Instr.findNow .string (.string q) es n=some (some (i,v))∧QR P X.S X.m e y v.cells.toList∧(e.ag=true → ∃b,v = .agg b)∧(e.ag=false→one v=true):=by
 intro l;induction l with
 | nil=>intro es n h;cases es with
  | nil=>rfl
  | cons=>exact h.elim
 | cons b l ih=>
  intro es n h;cases es with
  | nil=>exact h.elim
  | cons x es=>
   obtain ⟨⟨h1,h2⟩,h4⟩:=h;have hs:Instr.sameNow .string (.string q) x.key=some (q == b.1):=by rw [h1];rfl
   unfold QA Instr.findNow;rw [hs];cases hq:(q == b.1) with
   | true=>exact ⟨_,_,rfl,h2⟩
   | false=>exact ih (n+1) h4
theorem ev_put {e : Ty} {q : ByteArray} {y : e.El} {v : Value} (hv : QR P X.S X.m e y v.cells.toList ∧ (e.ag = true → ∃ b, v = .agg b) ∧ (e.ag = false → one v = true)) (c : Nat) : ∀ {l : List (ByteArray × e.El)} {es : List MapEntry} (n : Nat), JfD P X e l es →
  ∃r,Instr.findNow .string (.string q) es n=some r∧JfD P X e (Jea q y l) (match r with
   | some (i,_)=>es.modify (i - n) fun x => { x with key := .string q,val:=v }
   | none=>es ++ [{ key := .string q,val:=v,born:=c }]) ∧ ∀i w,r=some (i,w)→n≤i:=by
 intro l;induction l with
 | nil=>intro es n h;cases es with
  | nil=>exact ⟨none,rfl,⟨⟨rfl,hv⟩,trivial⟩,fun i w q=>by cases q⟩
  | cons=>exact h.elim
 | cons b l ih =>
  intro es n h;cases es with
  | nil=>exact h.elim
  | cons x es=>
   obtain ⟨⟨h1,h2⟩,h4⟩:=h;have hs:Instr.sameNow .string (.string q) x.key=some (q == b.1):=by rw [h1];rfl
   unfold Jea Instr.findNow;rw [hs];cases hq:(q == b.1) with
   | true=>
    refine ⟨_,rfl, ?_,fun i w q=>by cases q;exact Je _⟩
    dsimp only;rw [Nat.sub_self,List.modify_zero_cons];exact ⟨⟨rfl,hv⟩,h4⟩
   | false=>
    obtain ⟨r,g1,g2,g3⟩:=ih (n+1) h4;refine ⟨r,g1, ?_,fun i w q=>by have:=g3 i w q;omega⟩
    simp only [Jl];cases r with
    | none=>exact ⟨⟨h1,h2⟩,g2⟩
    | some p=>
     obtain ⟨i,w⟩:=p;have:=g3 i w rfl
     dsimp only at g2 ⊢;rw [show i - n=(i - (n+1))+1 by omega,List.modify_succ_cons];exact ⟨⟨h1,h2⟩,g2⟩
theorem ev_del {e : Ty} {q : ByteArray} : ∀ {l : List (ByteArray × e.El)} {es : List MapEntry} (n : Nat), JfD P X e l es →
  ∃r,Instr.findNow .string (.string q) es n=some r∧JfD P X e (JjN q l) (match r with
   | some (i,_)=>es.eraseIdx (i - n)
   | none=>es) ∧ ∀i w,r=some (i,w)→n≤i:=by
 intro l;induction l with
 | nil=>intro es n h;cases es with
  | nil=>exact ⟨none,rfl,trivial,fun i w q=>by cases q⟩
  | cons=>exact h.elim
 | cons b l ih =>
  intro es n h;cases es with
  | nil=>exact h.elim
  | cons x es=>
   obtain ⟨⟨h1,h2⟩,h4⟩:=h;have hs:Instr.sameNow .string (.string q) x.key=some (q == b.1):=by rw [h1];rfl
   unfold JjN Instr.findNow;rw [hs];cases hq:(q == b.1) with
   | true=>
    refine ⟨_,rfl, ?_,fun i w q=>by cases q;exact Je _⟩
    dsimp only;rw [Nat.sub_self];exact h4
   | false=>
    obtain ⟨r,g1,g2,g3⟩:=ih (n+1) h4;refine ⟨r,g1, ?_,fun i w q=>by have:=g3 i w q;omega⟩
    simp only [Jl];cases r with
    | none=>exact ⟨⟨h1,h2⟩,g2⟩
    | some p=>
     obtain ⟨i,w⟩:=p;have:=g3 i w rfl
     dsimp only at g2 ⊢;rw [show i - n=(i - (n+1))+1 by omega];exact ⟨⟨h1,h2⟩,g2⟩
theorem Jhy (h:Rel P S0 env m a vs) {j:Nat} {e:Ty} {xs:List (ByteArray × e.El)} (hj:msAt vs j=some ⟨e,xs⟩) {w:Value} (hw:J8 P (vs.cx S0 env m) (.v (.s (.mv j))) w) :
  vs.bx[j]? = some [.ms e xs]∧w = .map (some (env.β j)) ∧ ∃k es c,m.alive (env.β j)=some k∧k.obj = .map es c∧k.ro=false∧k.sup=false∧k.root=env.β j∧JfD P (vs.cx S0 env m) e xs es.toList∧m.mapOf (env.β j)=some (es,c):=by
 have hbx:vs.bx[j]? = some [.ms e xs]:=by
  unfold msAt at hj;split at hj
  ·rename_i e' xs' hq;cases hj;exact hq
  ·cases hj
 obtain ⟨h1,i,h2,h3,h4⟩:=hw;have hh:JM vs.bx j=true:=by rw [JK hbx];rfl
 have hi:i=env.β j:=h4 hh;obtain ⟨k,es,c,g1,g2,g3,g4,g5,g6⟩:=h.T.bx j _ hbx;refine ⟨hbx,by rw [h2,hi],k,es,c,g1,g2,g3,g4,g5,g6, ?_⟩;have g1':m.alive (env.β j)=some k:=g1
 unfold M.mapOf;rw [g1'];dsimp only;rw [g2]
theorem Jn6 {bx : List (List Cl)} (hT : Jao P X bx) {et : TypeId} {e : Ty} {y : e.El} (h : JtI P et e X.bf = some y) : ∃ z, QI P et = some z ∧ Ja3 P X (JfT e y) z := by
 unfold JtI at h;split at h
 ·rename_i z hz;split at h
  ·rename_i hc;refine ⟨z,hz, ?_⟩;have hall : ∀v∈z.cells.toList,okc v=true:=by
    have:=hc.1
    rw [Array.all_eq_true'] at this;exact fun v hv=>this v (by simpa using hv)
   have hr:=JaM hT h (Jhv hall);refine Jbx hr (fun q => ?_) (fun q => ?_)
   ·have h2:=hc.2.1;rw [q] at h2;unfold Jtg at h2;split at h2
    ·exact ⟨_,rfl⟩
    ·cases h2
   ·have h3:=hc.2.2;rw [q,Bool.false_or,Jh] at h3;unfold okc at h3;rw [Jh] at h3;exact h3.1.1
  ·cases h
 ·cases h
theorem JfX (h : Rel P S0 env m a vs) {t : TypeId} {x k y : Sl} {ok : Bool} {wx wk : Value} {vs1 : VS} (hx : J8 P (vs.cx S0 env m) x wx) (hk : J8 P (vs.cx S0 env m) k wk) (hv : Jg4 P t x k ok vs = some (y, vs1)) :
  vs1=vs ∧ ∃v,Q8 P t wx wk ok m=some v∧J8 P (vs.cx S0 env m) y v:=by
 unfold Jg4 at hv;split at hv
 ·rename_i et j q ht;split at hv
  ·rename_i e xs hj;obtain ⟨hbx,rfl,kb,es,c,g1,g2,g3,g4,g5,g6,g7⟩:=Jhy h hj hx;obtain rfl:=JbY hk
   simp only [Ja,Jm] at hv;obtain ⟨z,hz,rfl,rfl⟩:=hv;obtain ⟨zv,hz1,hz2⟩:=Jn6 (X:=vs.cx S0 env m) h.T hz;have hf:=JuD (q:=q) 0 g6;have hpk : ∀r,Instr.findNow .string (.string q) es.toList 0=some r→Q8 P t (.map (some (env.β j))) (.string q) ok m=Jaq P et ok r:=by
    intro r hr;unfold Q8;rw [Jag ht];dsimp only;rw [g7];dsimp only;unfold JdV;rw [show QW .string (.string q)=true from rfl,Jf rfl,hr]
   cases hm:QA q xs with
   | none=>
    rw [hm] at hf;refine ⟨rfl,(if ok then .tuple #[zv,.bool false] else zv),(hpk _ hf).trans (by unfold Jaq;rw [hz1];rfl), ?_⟩
    cases ok with
    | true=>exact ⟨_,rfl,hz2,⟨rfl,rfl⟩,trivial⟩
    | false=>exact hz2
   | some y=>
    rw [hm] at hf;obtain ⟨i,v,f1,f2,f3,f4⟩:=hf;refine ⟨rfl,_,(hpk _ f1).trans rfl, ?_⟩;have hs:=Jbx (X:=vs.cx S0 env m) f2 f3 f4;cases ok with
    | true=>exact ⟨_,rfl,hs,⟨rfl,rfl⟩,trivial⟩
    | false=>exact hs
  ·cases hv
 ·cases hv
theorem JcC (h : Rel P S0 env m a vs) (hbar : ∀ i, Wb (vs.cx S0 env m) i → m.bar ≤ i) {t : TypeId} {x k v y : Sl} {wx wk wv : Value} {vs1 : VS} (hx : J8 P (vs.cx S0 env m) x wx) (hk : J8 P (vs.cx S0 env m) k wk) (hv' : J8 P (vs.cx S0 env m) v wv) (hv : JgW P t x k v vs = some (y, vs1)) :
  ∃m1,Xf P t wx wk wv m=some m1∧Rel P S0 env m1 a vs1∧Stp (vs.cx S0 env m) (vs1.cx S0 env m1)∧y=Qn:=by
 unfold JgW at hv;split at hv
 ·rename_i et j q s ht;split at hv
  ·rename_i e xs hj;obtain ⟨hbx,rfl,kb,es,c,g1,g2,g3,g4,g5,g6,g7⟩:=Jhy h hj hx;obtain rfl:=JbY hk
   simp only [Ja,Jm] at hv;obtain ⟨y0,hy,rfl,rfl⟩:=hv;have hrep:=Jhp (X:=vs.cx S0 env m) h.T hy hv';have hb:m.bar≤env.β j:=hbar _ (.inl ⟨j,Jx hbx,by show JM vs.bx j=true;rw [JK hbx];rfl,rfl⟩)
   obtain ⟨r,f1,f2,f3⟩:=ev_put (q:=q) (v:=wv) hrep c 0 g6;have hpk : ∀r',Instr.findNow .string (.string q) es.toList 0=some r'→Xf P t (.map (some (env.β j))) (.string q) wv m=(match (r':Option (Nat × Value)) with
     | some (j',_)=>m.putObj (env.β j) (.map (es.modify j' fun e => { e with key := .string q,val:=wv }) c)
     | none=>m.putObj (env.β j) (.map (es.push { key := .string q,val:=wv,born:=c }) (c+1))):=by
    intro r' hr';unfold Xf;rw [Jag ht];dsimp only;rw [g7];dsimp only;unfold JdV;rw [show QW .string (.string q)=true from rfl,Jf rfl,hr'];cases r' with
    | none=>rfl
    | some r=>rfl
   have hroot:kb.root=env.β j:=g5;cases r with
   | none=>
    obtain ⟨k1,k2⟩:=h.setObj (ns := [.ms e (Jea q y0 xs)]) hbx rfl rfl rfl g1 g5 (o := .map (es.push { key := .string q,val:=wv,born:=c }) (c+1)) (by rw [g2];rfl) (fun m' hle hal=>by
     refine ⟨_,_,_,hal,rfl,g3,g4,g5, ?_⟩;rw [Array.toList_push];exact f2.mono hle.mono)
    exact ⟨_,(hpk _ f1).trans (Q0 g1 g3 g4 g5 hb),k1,k2,rfl⟩
   | some p=>
    obtain ⟨i,w⟩:=p;obtain ⟨k1,k2⟩:=h.setObj (ns := [.ms e (Jea q y0 xs)]) hbx rfl rfl rfl g1 g5 (o := .map (es.modify i fun e => { e with key := .string q,val:=wv }) c) (by rw [g2];rfl) (fun m' hle hal=>by
     refine ⟨_,_,_,hal,rfl,g3,g4,g5, ?_⟩;rw [Array.toList_modify];exact f2.mono hle.mono)
    exact ⟨_,(hpk _ f1).trans (Q0 g1 g3 g4 g5 hb),k1,k2,rfl⟩
  ·cases hv
 ·cases hv
theorem JfY (h : Rel P S0 env m a vs) (hbar : ∀ i, Wb (vs.cx S0 env m) i → m.bar ≤ i) {t : TypeId} {x k y : Sl} {wx wk : Value} {vs1 : VS} (hx : J8 P (vs.cx S0 env m) x wx) (hk : J8 P (vs.cx S0 env m) k wk) (hv : Jg9 P t x k vs = some (y, vs1)) :
  ∃m1,X8 P t wx wk m=some m1∧Rel P S0 env m1 a vs1∧Stp (vs.cx S0 env m) (vs1.cx S0 env m1)∧y=Qn:=by
 unfold Jg9 at hv;split at hv
 ·rename_i et j q ht;split at hv
  ·rename_i e xs hj;obtain ⟨hbx,rfl,kb,es,c,g1,g2,g3,g4,g5,g6,g7⟩:=Jhy h hj hx;obtain rfl:=JbY hk
   have hb:m.bar≤env.β j:=hbar _ (.inl ⟨j,Jx hbx,by show JM vs.bx j=true;rw [JK hbx];rfl,rfl⟩)
   cases hv;obtain ⟨r,f1,f2,f3⟩:=ev_del (q:=q) 0 g6;have hpk : ∀r',Instr.findNow .string (.string q) es.toList 0=some r'→X8 P t (.map (some (env.β j))) (.string q) m=(match (r':Option (Nat × Value)) with
     | some (j',_)=>m.putObj (env.β j) (.map (es.eraseIdxIfInBounds j') c)
     | none=>m.putObj (env.β j) (.map es c)):=by
    intro r' hr';unfold X8;rw [Jag ht];dsimp only;rw [g7];dsimp only;unfold JdV;rw [show QW .string (.string q)=true from rfl,Jf rfl,hr'];cases r' with
    | none=>rfl
    | some r=>rfl
   cases r with
   | none=>
    obtain ⟨k1,k2⟩:=h.setObj (ns := [.ms e (JjN q xs)]) hbx rfl rfl rfl g1 g5 (o := .map es c) (by rw [g2]) (fun m' hle hal=>⟨_,_,_,hal,rfl,g3,g4,g5,f2.mono hle.mono⟩);exact ⟨_,(hpk _ f1).trans (Q0 g1 g3 g4 g5 hb),k1,k2,rfl⟩
   | some p=>
    obtain ⟨i,w⟩:=p;obtain ⟨k1,k2⟩:=h.setObj (ns := [.ms e (JjN q xs)]) hbx rfl rfl rfl g1 g5 (o := .map (es.eraseIdxIfInBounds i) c) (by rw [g2];rfl) (fun m' hle hal=>by
     refine ⟨_,_,_,hal,rfl,g3,g4,g5, ?_⟩;rw [Array.toList_eraseIdxIfInBounds];exact f2.mono hle.mono)
    exact ⟨_,(hpk _ f1).trans (Q0 g1 g3 g4 g5 hb),k1,k2,rfl⟩
  ·cases hv
 ·cases hv
theorem JeR (h : Rel P S0 env m a vs) {t : TypeId} {r : Option Sl} {wr : Option Value} {y : Sl} {vs1 : VS} (hr : match r, wr with | none, none => True | some s, some w => J8 P (vs.cx S0 env m) s w | _, _ => False) (hv : JeS P t r vs = some (y, vs1)) :
  ∃v m1 env1,QF P t wr m=some (v,m1)∧Rel P S0 env1 m1 a vs1∧Stp (vs.cx S0 env m) (vs1.cx S0 env1 m1)∧J8 P (vs1.cx S0 env1 m1) y v:=by
 unfold JeS at hv;split at hv
 ·rename_i et ht;split at hv
  ·rename_i e he;obtain ⟨k0,k1,k2⟩:=h.newObj (cs := [.ms e []]) (o := .map #[] 0) rfl (fun Y hle hal hβ=>by
    refine ⟨_,_,_,hal,rfl,rfl,rfl,hβ.symm,trivial⟩)
   have fin : ∀{i},QF P t wr m=some (i,m.mk1 (.map #[] 0))→i = .map (some m.nxt)→(.v (.s (.mv vs.bx.length)),(newBox vs [.ms e []]).2)=(y,vs1) → ∃v m1 env1,QF P t wr m=some (v,m1)∧Rel P S0 env1 m1 a vs1∧Stp (vs.cx S0 env m) (vs1.cx S0 env1 m1)∧J8 P (vs1.cx S0 env1 m1) y v:=by
    intro i hi e1 e2;cases e2;subst e1;refine ⟨_,_,_,hi,k1,k2, ?_⟩;refine JoZ (by show vs.bx.length<(vs.bx ++ [_]).length;simp) (Nat.lt_succ_self _) (J6 _ _ _)
   split at hv
   ·cases hv;cases wr with
    | some w=>exact hr.elim
    | none=>exact fin (by unfold QF;rw [k0]) rfl rfl
   ·rename_i hu;cases hv;cases wr with
    | none=>exact hr.elim
    | some w=>
     have hw:=hr.1;subst hw;exact fin (by unfold QF;rw [hu,k0]) rfl rfl
   ·cases hv
  ·cases hv
 ·cases hv
theorem JgZ (h : Rel P S0 env m a vs) {t : TypeId} {x y : Sl} {wx : Value} {vs1 : VS} (hx : J8 P (vs.cx S0 env m) x wx) (hv : JjV P t x vs = some (y, vs1)) :
  ∃v m1 env1,Jee P t wx m=some (v,m1)∧Rel P S0 env1 m1 a vs1∧Stp (vs.cx S0 env m) (vs1.cx S0 env1 m1)∧J8 P (vs1.cx S0 env1 m1) y v:=by
 unfold JjV at hv;split at hv
 ·rename_i j;split at hv
  ·rename_i c l hj;obtain ⟨hbx,rfl,kb,es,g1,g2,g3,g4,g5,g6,g7⟩:=Jcq h hj hx;cases hu:Jpm (P.underlying t) with
   | false=>rw [hu] at hv;cases hv
   | true=>
    rw [hu] at hv;simp only [Jk,Jg] at hv;have hro:Jby P t (.map (some (env.β j))) m=some (.mapIter (some (env.β j)) c #[] c):=by
     unfold Jby;unfold Jpm at hu;split at hu
     ·rename_i kd ed hd;rw [hd];dsimp only;rw [g7]
     ·cases hu
    have hlt:env.β j<m.nxt:=Jcx h.T.free g1;obtain ⟨k0,k1,k2⟩:=h.newObj (cs := [.mi j c [] c]) (o := .mapIter (some (env.β j)) c #[] c) rfl (fun Y hle hal hβ=>by
     refine ⟨Jt (Jx hbx) hle.nb,_,env.β j,hal,rfl,rfl,rfl,hβ.symm,Jt hlt hle.nxt,fun q=>(hle.β j (Jx hbx)).symm⟩)
    cases hv;refine ⟨_,_,_,by unfold Jee;rw [hro];dsimp only;rw [k0],k1,k2, ?_⟩
    exact ⟨by show vs.bx.length<(vs.bx ++ [_]).length;simp,m.nxt,rfl,Nat.lt_succ_self _,fun _=>(J6 _ _ _).symm⟩
  ·cases hv
 ·cases hv
theorem JpP (es:Array MapEntry) (since:Nat) (seen:List Nat):(Ja1 es since seen.toArray).toList =
  (if ((es.toList.filter fun e => !seen.contains e.born).filter fun e=>decide (e.born<since)).isEmpty then [none] else []) ++
   (((es.toList.filter fun e => !seen.contains e.born).filter fun e=>decide (e.born<since))++((es.toList.filter fun e => !seen.contains e.born).filter fun e=>decide (e.born≥since))).map some:=by
 unfold Ja1;have h1 : ∀x:Array MapEntry,x.isEmpty=x.toList.isEmpty:=fun x=>by cases x with | mk l=>cases l <;> rfl
 rw [h1];simp only [Array.toList_append,Array.toList_map,Array.toList_filter,List.contains_toArray];split <;> rfl
theorem JeI {es:List MapEntry} (h:Xj P X [] es):es = []:=by
 cases es with
 | nil=>rfl
 | cons=>exact h.elim
theorem Jr0 {a:ByteArray × Nat × Nat} {es:List MapEntry} (h:Xj P X [a] es) : ∃e,es = [e]∧e.key = .string a.1∧e.born=a.2.1∧Jap P X (.p a.2.2 0) e.val:=by
 cases es with
 | nil=>exact h.elim
 | cons e es=>exact ⟨e,by rw [JeI h.2],h.1⟩
theorem Jio (h : Rel P S0 env m a vs) (hbar : ∀ i, Wb (vs.cx S0 env m) i → m.bar ≤ i) {i jm since last c : Nat} {seen : List Nat} {l : List (ByteArray × Nat × Nat)} {y : Sl} {vs1 : VS} (hi : vs.bx[i]? = some [.mi jm since seen last]) (hj : JoY vs jm = some (c, l)) (hv : Jof i jm since seen last c l vs = some (y, vs1)) :
  ∃v m1,JhN (.pointer (some ⟨env.β i,0,none⟩)) false m=some (v,m1)∧Rel P S0 env m1 a vs1∧Stp (vs.cx S0 env m) (vs1.cx S0 env m1)∧J8 P (vs1.cx S0 env m1) y v:=by
 obtain ⟨u0,k,ib,u1,u2,u3,u4,u5,u6,u7⟩:=h.T.bx i _ hi;have hbxj:vs.bx[jm]? = some [.mx c l]:=by
  unfold JoY at hj;split at hj
  ·rename_i c' l' hq;cases hj;exact hq
  ·cases hj
 have hh:JM vs.bx jm=true:=by rw [JK hbxj];rfl
 have hib:ib=env.β jm:=u7 hh;subst hib;obtain ⟨_,_,kb,es,g1,g2,g3,g4,g5,g6,g7⟩:=Jcq (w := .map (some (env.β jm))) h hj ⟨u0,_,rfl,u6,fun _=>rfl⟩;have u1':m.alive (env.β i)=some k:=u1
 have hb:m.bar≤env.β i:=hbar _ (.inl ⟨i,Jx hi,by show JM vs.bx i=true;rw [JK hi];rfl,rfl⟩)
 unfold Jof at hv;obtain ⟨e1,e2⟩:=Jr4 (fun b=>decide (b≥last)) g6;have hemp:es.isEmpty=l.isEmpty:=by rw [←e2];cases es with | mk q=>cases q <;> rfl
 have hall:es.all (fun x=>decide (x.born≥last))=l.all (fun a=>decide (a.2.1≥last)):=by rw [←e1,Array.all_toList]
 have hsee:seen.toArray.isEmpty=seen.isEmpty:=by cases seen <;> rfl
 cases hg:(!seen.isEmpty && !l.isEmpty && l.all (fun a=>decide (a.2.1≥last))) with
 | true=>rw [hg] at hv;cases hv
 | false=>
  rw [hg] at hv;simp only [Jl] at hv;have hA:=JbE (fun b=>decide (b<since)) (JbE (fun b => !seen.contains b) g6);have hB:=JbE (fun b=>decide (b≥since)) (JbE (fun b => !seen.contains b) g6);have hc:=JpP es since seen;have hin:JhN (.pointer (some ⟨env.β i,0,none⟩)) false m=(match (Ja1 es since seen.toArray).toList with
   | [some e]=>(m.putObj (env.β i) (.mapIter (some (env.β jm)) since (seen.toArray.push e.born) c)).map fun m1=>(.tuple #[.bool true,e.key,e.val],m1)
   | [none]=>some (.tuple #[.bool false],m)
   | _=>none):=by
   show (match m.alive (env.β i) with | some b=>Xx m (env.β i) false b.obj | none=>none)=_;rw [u1'];dsimp only;rw [u2];unfold Xx;dsimp only;rw [Jd (by decide),g7];dsimp only;rw [Jd (by rw [hsee,hemp,hall];rw [hg];decide)]
   split
   ·rename_i q;rw [q]
   ·rename_i q;rw [q]
   ·rename_i q1 q2;split
    ·rename_i q;exact absurd q (q1 _)
    ·rename_i q;exact absurd q q2
    ·rfl
  split at hv
  ·rename_i o1 o2;have w1:=JeI (by rw [←o1];exact hA)
   have w2:=JeI (by rw [←o2];exact hB)
   rw [w1,w2] at hc;rw [hc] at hin;cases hv;exact ⟨_,m,hin,h,Stp.refl h.T.free,_,rfl,⟨rfl,rfl⟩,trivial⟩
  ·rename_i b o1 o2;obtain ⟨e,w1,w3,w4,w5⟩:=Jr0 (by rw [←o1];exact hA)
   have w2:=JeI (by rw [←o2];exact hB)
   rw [w1,w2] at hc;rw [hc] at hin;cases hv;obtain ⟨k1,k2⟩:=h.setObj (ns := [.mi jm since (seen ++ [b.2.1]) c]) hi rfl rfl rfl u1 u5 (o := .mapIter (some (env.β jm)) since (seen.toArray.push e.born) c) (by rw [u2];rfl) (fun m' hle hal=>by
    refine ⟨Jt u0 hle.nb,_,env.β jm,hal, ?_,u3,u4,u5,Jt u6 hle.nxt,fun _=>rfl⟩;rw [w4];simp)
   refine ⟨.tuple #[.bool true,e.key,e.val],_,hin.trans ?_,k1,k2, ?_⟩
   ·show (m.putObj (env.β i) (.mapIter (some (env.β jm)) since (seen.toArray.push e.born) c)).map (fun m1=>(Value.tuple #[.bool true,e.key,e.val],m1))=_;rw [Q0 u1' u3 u4 u5 hb];rfl
   ·exact ⟨_,rfl,⟨rfl,rfl⟩,⟨w3,rfl⟩,w5.le k2.le,trivial⟩
  ·cases hv
theorem JjZ (h : Rel P S0 env m a vs) (hbar : ∀ i, Wb (vs.cx S0 env m) i → m.bar ≤ i) {x y : Sl} {s : Bool} {wx : Value} {vs1 : VS} (hx : J8 P (vs.cx S0 env m) x wx) (hv : JtL x s vs = some (y, vs1)) :
  ∃v m1,JhN wx s m=some (v,m1)∧Rel P S0 env m1 a vs1∧Stp (vs.cx S0 env m) (vs1.cx S0 env m1)∧J8 P (vs1.cx S0 env m1) y v:=by
 unfold JtL at hv;split at hv
 ·rename_i i;split at hv
  ·rename_i jm since seen last hi;split at hv
   ·rename_i c l hj;obtain ⟨h1,b,rfl,h3,h4⟩:=hx;have hb:b=env.β i:=h4 (by show JM vs.bx i=true;rw [JK hi];rfl)
    subst hb;exact Jio h hbar hi hj hv
   ·cases hv
  ·cases hv
 ·cases hv
theorem JnA (p:Nat→Bool) : ∀{l:List (ByteArray × Nat × Nat)} {es:List MapEntry},Xj P X l es → ∀{b:ByteArray × Nat × Nat},l.find? (fun a=>p a.2.1)=some b → ∃e,es.find? (fun x=>p x.born)=some e∧e.key = .string b.1∧Jap P X (.p b.2.2 0) e.val:=by
 intro l;induction l with
 | nil=>intro es h b hb;cases hb
 | cons a l ih=>
  intro es h b hb;cases es with
  | nil=>exact h.elim
  | cons e es=>
   obtain ⟨⟨h1,h2,h3⟩,h4⟩:=h;rw [List.find?_cons] at hb ⊢;rw [h2];split at hb
   ·cases hb;exact ⟨e,rfl,h1,h3⟩
   ·exact ih h4 hb
theorem Jiu (h : Rel P S0 env m a vs) {x y : Sl} {wx : Value} {vs1 : VS} (hx : J8 P (vs.cx S0 env m) x wx) (hv : Jom x vs = some (y, vs1)) :
  vs1=vs ∧ ∃v,Jef wx m=some v∧J8 P (vs.cx S0 env m) y v:=by
 unfold Jom at hv;split at hv
 ·rename_i i;split at hv
  ·rename_i jm since seen last hi;split at hv
   ·rename_i c l st hj hst;obtain ⟨h1,b,rfl,h3,h4⟩:=hx;have hb:b=env.β i:=h4 (by show JM vs.bx i=true;rw [JK hi];rfl)
    subst hb;cases hcl:Nat.beq c last with
    | false=>rw [hcl] at hv;cases hv
    | true=>
     rw [hcl] at hv;simp only [Jk,Ja,Jm] at hv;obtain ⟨q,hq,rfl,rfl⟩:=hv;have hc:c=last:=Jr hcl;subst hc;obtain ⟨u0,k,ib,u1,u2,u3,u4,u5,u6,u7⟩:=h.T.bx i _ hi;have hbxj:vs.bx[jm]? = some [.mx c l]:=by
      unfold JoY at hj;split at hj
      ·rename_i c' l' hq;cases hj;exact hq
      ·cases hj
     have hib:ib=env.β jm:=u7 (by show JM vs.bx jm=true;rw [JK hbxj];rfl)
     subst hib;obtain ⟨_,_,kb,es,g1,g2,g3,g4,g5,g6,g7⟩:=Jcq (w := .map (some (env.β jm))) h hj ⟨u0,_,rfl,u6,fun _=>rfl⟩;have u1':m.alive (env.β i)=some k:=u1
     obtain ⟨e,e1,e2,e3⟩:=JnA (fun n=>n == st) g6 hq;refine ⟨rfl,.tuple #[e.key,e.val], ?_,⟨_,rfl,⟨e2,rfl⟩,e3,trivial⟩⟩;have hbk:seen.toArray.back? = some st:=by rw [List.back?_toArray];exact hst
     unfold Jef;simp only [u1',u2,hbk,g7,if_true,e1,JU]
   ·cases hv
  ·cases hv
 ·cases hv
theorem JuB {q:ByteArray} : ∀{l:List (ByteArray × Value)} {es:List MapEntry} (n:Nat),Jk0 l es →
  match QA q l with
  | none=>Instr.findNow .string (.string q) es n=some none
  | some v => ∃i,Instr.findNow .string (.string q) es n=some (some (i,v)):=by
 intro l;induction l with
 | nil=>intro es n h;cases es with
  | nil=>rfl
  | cons=>exact h.elim
 | cons b l ih=>
  intro es n h;cases es with
  | nil=>exact h.elim
  | cons x es=>
   obtain ⟨⟨h1,h2⟩,h4⟩:=h;have hs:Instr.sameNow .string (.string q) x.key=some (q == b.1):=by rw [h1];rfl
   unfold QA Instr.findNow;rw [hs];cases hq:(q == b.1) with
   | true=>exact ⟨_,by dsimp only;rw [h2]⟩
   | false=>exact ih (n+1) h4
theorem ex_put {q : ByteArray} {v : Value} (c : Nat) : ∀ {l : List (ByteArray × Value)} {es : List MapEntry} (n : Nat), Jk0 l es →
  ∃r,Instr.findNow .string (.string q) es n=some r∧Jk0 (Jea q v l) (match r with
   | some (i,_)=>es.modify (i - n) fun x => { x with key := .string q,val:=v }
   | none=>es ++ [{ key := .string q,val:=v,born:=c }]) ∧ ∀i w,r=some (i,w)→n≤i:=by
 intro l;induction l with
 | nil=>intro es n h;cases es with
  | nil=>exact ⟨none,rfl,⟨⟨rfl,rfl⟩,trivial⟩,fun i w q=>by cases q⟩
  | cons=>exact h.elim
 | cons b l ih =>
  intro es n h;cases es with
  | nil=>exact h.elim
  | cons x es=>
   obtain ⟨⟨h1,h2⟩,h4⟩:=h;have hs:Instr.sameNow .string (.string q) x.key=some (q == b.1):=by rw [h1];rfl
   unfold Jea Instr.findNow;rw [hs];cases hq:(q == b.1) with
   | true=>
    refine ⟨_,rfl, ?_,fun i w q=>by cases q;exact Je _⟩
    dsimp only;rw [Nat.sub_self,List.modify_zero_cons];exact ⟨⟨rfl,rfl⟩,h4⟩
   | false=>
    obtain ⟨r,g1,g2,g3⟩:=ih (n+1) h4;refine ⟨r,g1, ?_,fun i w q=>by have:=g3 i w q;omega⟩
    simp only [Jl];cases r with
    | none=>exact ⟨⟨h1,h2⟩,g2⟩
    | some p=>
     obtain ⟨i,w⟩:=p;have:=g3 i w rfl
     dsimp only at g2 ⊢;rw [show i - n=(i - (n+1))+1 by omega,List.modify_succ_cons];exact ⟨⟨h1,h2⟩,g2⟩
theorem Jaz {a b:ByteArray}:(a == b)=true↔a=b:=MapKept.bytes_beq a b
theorem Jgw {ρ:Type} {b:Bool} {x:Option ρ} {r:ρ} (h:(bif b then x else none)=some r):b=true∧x=some r:=by
 cases b with
 | true=>exact ⟨rfl,h⟩
 | false=>cases h
theorem Jgm {α : Type} {q q' : ByteArray} {v : α} : ∀ {l : List (ByteArray × α)}, QA q (Jea q' v l) = if q = q' then some v else QA q l := by
 intro l;induction l with
 | nil=>
  show (bif q == q' then some v else none)=_;cases hq:(q == q') with
  | true=>rw [Jf (Jaz.1 hq)];rfl
  | false=>rw [Jd (fun e=>by rw [Jaz.2 e] at hq;cases hq)];rfl
 | cons b l ih =>
  unfold Jea;cases hb:(q' == b.1) with
  | true=>
   show (bif q == q' then some v else QA q l)=_;have e1:=Jaz.1 hb;cases hq:(q == q') with
   | true=>rw [Jf (Jaz.1 hq)];rfl
   | false=>
    rw [Jd (fun e=>by rw [Jaz.2 e] at hq;cases hq)]
    show _=(bif q == b.1 then some b.2 else QA q l);rw [←e1,hq];rfl
  | false=>
   show (bif q == b.1 then some b.2 else QA q (Jea q' v l))=_;rw [ih];show _=if q=q' then some v else (bif q == b.1 then some b.2 else QA q l);cases hq:(q == b.1) with
   | true=>
    have hne : ¬q=q':=fun e=>by
     rw [←e,hq] at hb;cases hb
    rw [Jd hne,Jd hne]
   | false=>rfl
theorem JlM {α : Type} {q : ByteArray} {v : α} : ∀ {l : List (ByteArray × α)} {a : ByteArray × α}, a ∈ Jea q v l → a.1 = q ∨ ∃ b ∈ l, b.1 = a.1 := by
 intro l;induction l with
 | nil=>
  intro a h;rcases JJ.1 h with rfl | h
  ·exact .inl rfl
  ·cases h
 | cons b l ih=>
  intro a h;unfold Jea at h;cases hb:(q == b.1) with
  | true=>
   rw [hb] at h;rcases JJ.1 h with rfl | h
   ·exact .inl rfl
   ·exact .inr ⟨a,J5 _ h,rfl⟩
  | false=>
   rw [hb] at h;rcases JJ.1 h with rfl | h
   ·exact .inr ⟨a,List.mem_cons_self,rfl⟩
   ·rcases ih h with h|⟨c,h1,h2⟩
    ·exact .inl h
    ·exact .inr ⟨c,J5 _ h1,h2⟩
theorem Jgl {α:Type} {q:ByteArray} : ∀{l:List (ByteArray × α)},(∀a∈l,a.1≠q)→QA q l=none:=by
 intro l;induction l with
 | nil=>intro _;rfl
 | cons b l ih=>
  intro h;show (bif q == b.1 then some b.2 else QA q l)=none;cases hq:(q == b.1) with
  | true=>exact absurd (Jaz.1 hq).symm (h b List.mem_cons_self)
  | false=>exact ih fun a ha=>h a (J5 _ ha)
theorem JdK : ∀{cs:List Cl} {ws:List Value},cs.any Qh=false→(JeD P X cs ws↔Qa P X cs ws):=by
 intro cs;induction cs with
 | nil=>intro ws _;cases ws with
  | nil=>exact Iff.intro (fun _=>trivial) (fun _=>rfl)
  | cons=>exact Iff.intro (fun h=>by cases h) (fun h=>False.elim h)
 | cons c cs ih=>
  intro ws h;rw [List.any_cons,JP] at h
  constructor
  ·rintro ⟨w1,w2,rfl,h2,h3⟩
   obtain ⟨w,rfl,h4⟩:=(JaK h.1).1 h2;exact ⟨h4,(ih h.2).1 h3⟩
  ·intro hr;cases ws with
   | nil=>exact hr.elim
   | cons w ws=>exact ⟨[w],ws,rfl,(JaK h.1).2 ⟨w,rfl,hr.1⟩,(ih h.2).2 hr.2⟩
theorem JoH : ∀{cs:List Cl} {ws:List Value} {c:Cl} {w:Value} (i:Nat),Qa P X cs ws→Jap P X c w→Qa P X (cs.set i c) (ws.set i w):=by
 intro cs;induction cs with
 | nil=>intro ws c w i h _;cases ws with
  | nil=>exact h
  | cons=>exact h.elim
 | cons d cs ih=>
  intro ws c w i h hr;cases ws with
  | nil=>exact h.elim
  | cons u ws=>
   cases i with
   | zero=>exact ⟨hr,h.2⟩
   | succ i=>exact ⟨h.1,ih i h.2 hr⟩
theorem JnI {q : ByteArray} {c : Cl} : ∀ {ks : List ByteArray} {cs : List Cl}, Jse q ks cs = some c → ∃ i : Nat, ks[i]? = some q ∧ cs[i]? = some c := by
 intro ks;induction ks with
 | nil=>intro cs h;cases h
 | cons k ks ih=>
  intro cs h;cases cs with
  | nil=>cases h
  | cons d cs=>
   simp only [Jse] at h;cases hq:(q == k) with
   | true=>rw [hq] at h;cases h;exact ⟨0,by rw [Jaz.1 hq];rfl,rfl⟩
   | false=>
    rw [hq] at h;obtain ⟨i,h1,h2⟩:=ih h;exact ⟨i+1,h1,h2⟩
theorem Joy {q : ByteArray} {c : Cl} : ∀ {ks : List ByteArray} {cs cs1 : List Cl}, setK q c ks cs = some cs1 → ∃ i : Nat, ks[i]? = some q ∧ (∀ i', ks[i']? = some q → i' = i) ∧ i < cs.length ∧ cs1 = cs.set i c := by
 intro ks;induction ks with
 | nil=>intro cs cs1 h;cases h
 | cons k ks ih =>
  intro cs cs1 h;cases cs with
  | nil=>cases h
  | cons d cs =>
   simp only [setK] at h;cases hq:(q == k) with
   | true=>
    rw [hq] at h;simp only [Jk] at h;cases ha:ks.any (q == ·) with
    | true=>rw [ha] at h;cases h
    | false=>
     rw [ha] at h;cases h;refine ⟨0,by rw [Jaz.1 hq];rfl,fun i' hi => ?_,Nat.succ_pos _,rfl⟩
     cases i' with
     | zero=>rfl
     | succ i'=>
      have:ks.any (q == ·)=true:=List.any_eq_true.2 ⟨q,JW hi,Jaz.2 rfl⟩
      rw [ha] at this;cases this
   | false=>
    rw [hq] at h;simp only [Jl,Ja] at h;obtain ⟨r,h1,rfl⟩:=h;obtain ⟨i,g1,g2,g3,rfl⟩:=ih h1;refine ⟨i+1,g1,fun i' hi => ?_,Nat.succ_lt_succ g3,rfl⟩;cases i' with
    | zero=>cases hi;rw [Jaz.2 rfl] at hq;cases hq
    | succ i'=>rw [g2 i' hi]
theorem JoR {bx : List (List Cl)} (hT : Jao P X bx) {e : Ty} {q : ByteArray} : ∀ {ks : List ByteArray} {cs : List Cl} {ws : List Value} {xs : List e.El}, Jrb X.bf e q ks cs = some xs → Qa P X cs ws → (∃ (i : Nat) (w : Value), ks[i]? = some q ∧ ws[i]? = some w ∧ Jbu P X.S X.m e.n (QR P X.S X.m e) xs w) ∨ (q ∉ ks ∧ xs = []) := by
 intro ks;induction ks with
 | nil=>intro cs ws xs h _;cases cs with
  | nil=>cases h;exact .inr ⟨List.not_mem_nil,rfl⟩
  | cons=>cases h
 | cons k ks ih =>
  intro cs ws xs h hr;cases cs with
  | nil=>cases h
  | cons c cs =>
   cases ws with
   | nil=>exact hr.elim
   | cons w ws =>
    simp only [Jrb] at h;split at h
    ·rename_i ys r h1 h2;cases h;cases hq:(q == k) with
     | true=>exact .inl ⟨0,w,by rw [Jaz.1 hq];rfl,rfl,JeH hT h1 hr.1⟩
     | false=>
      rcases ih h2 hr.2 with ⟨i,u,g1,g2,g3⟩|⟨g1,g2⟩
      ·exact .inl ⟨i+1,u,g1,g2,g3⟩
      ·refine .inr ⟨fun hm => ?_,g2⟩;rcases JJ.1 hm with e1 | hm
       ·rw [Jaz.2 e1] at hq;cases hq
       ·exact g1 hm
    ·cases h
theorem JlL (h:Rel P S0 env m a vs) {j:Nat} {ks:List ByteArray} {cs:List Cl} (hj:mtAt vs j=some (ks,cs)) {w:Value} (hw:J8 P (vs.cx S0 env m) (.v (.s (.mv j))) w) :
  vs.bx[j]? = some (.mt ks::cs)∧cs.any Qh=false∧w = .map (some (env.β j)) ∧ ∃k es c ws,m.alive (env.β j)=some k∧k.obj = .map es c∧k.ro=false∧k.sup=false∧k.root=env.β j∧Qa P (vs.cx S0 env m) cs ws∧Jro ks ws es.toList∧m.mapOf (env.β j)=some (es,c):=by
 obtain ⟨hbx,hns⟩:vs.bx[j]? = some (.mt ks::cs)∧cs.any Qh=false:=by
  unfold mtAt at hj;split at hj
  ·rename_i ks' cs' hq;cases hs:cs'.any Qh with
   | true=>rw [hs] at hj;cases hj
   | false=>rw [hs] at hj;cases hj;exact ⟨hq,hs⟩
  ·cases hj
 obtain ⟨h1,i,h2,h3,h4⟩:=hw;have hsg:(Cl.mt ks::cs).any Qh=true:=rfl;have hh:JM vs.bx j=true:=by rw [JK hbx];exact (Q2 hsg).1
 have hi:i=env.β j:=h4 hh;obtain ⟨k,ws,g1,g3,g4,g5,g6,es,c,g2,g7⟩:=(h.T.bx j _ hbx).sg hsg;obtain ⟨w1,w2,e1,e2,g8⟩:=g6;have e2':w1 = []:=e2
 rw [e2',List.nil_append] at e1;refine ⟨hbx,hns,by rw [h2,hi],k,es,c,ws,g1,g2,g3,g4,g5,by rw [e1];exact (JdK hns).1 g8,g7, ?_⟩
 have g1':m.alive (env.β j)=some k:=g1
 unfold M.mapOf;rw [g1'];dsimp only;rw [g2]
theorem JiK {S':Nat→Prop} {n:Nat} {α:Type} {R:α→List Value→Prop} {xs:List α} {w:Value} (h:Jbu P S' m n R xs w):Jnw w = !xs.isEmpty:=by
 rcases h with ⟨rfl,rfl⟩|⟨i,o,sp,cap,rfl,_⟩
 ·rfl
 ·cases xs <;> rfl
theorem JfW (h : Rel P S0 env m a vs) {t : TypeId} {x k y : Sl} {ok hot : Bool} {wx wk : Value} {vs1 : VS} (hx : J8 P (vs.cx S0 env m) x wx) (hk : J8 P (vs.cx S0 env m) k wk) (hv : Jg3 P t x k ok hot vs = some (y, vs1)) :
  vs1=vs ∧ ∃v,Q8 P t wx wk ok m=some v∧J8 P (vs.cx S0 env m) y v:=by
 unfold Jg3 at hv;split at hv
 ·rename_i et j q ht;split at hv
  ·rename_i ks cs hj;obtain ⟨hbx, hns, rfl, kb, es, c, ws, g1, g2, g3, g4, g5, g6, g7, g8⟩ := JlL h hj hx;obtain rfl := JbY hk
   obtain ⟨xs,l1,l2,l3,l4⟩:=g7;have hf:=JuB (q:=q) 0 l1;have hlk : ∀r,Instr.findNow .string (.string q) es.toList 0=some r→Q8 P t (.map (some (env.β j))) (.string q) ok m=Jaq P et ok r:=by
    intro r hr;unfold Q8;rw [Jag ht];dsimp only;rw [g8];dsimp only;unfold JdV;rw [show QW .string (.string q)=true from rfl,Jf rfl,hr]
   obtain ⟨hz,hv⟩:=Jgw hv;have hz1:QI P et=some (.slice none 0 0):=by
    unfold nilZ at hz;split at hz
    ·rename_i z hzz;rw [hzz,Q7 hz]
    ·cases hz
   have found : ∀{i:Nat} {w:Value},ks[i]? = some q→ws[i]? = some w→Q8 P t (.map (some (env.β j))) (.string q) ok m=some (if ok then .tuple #[w,.bool (Jnw w)] else w):=by
    intro i w h1 h2;obtain ⟨e1,e2⟩:=l4 i q w h1 h2;cases hfu:Jnw w with
    | true=>
     rw [hfu,Jf rfl] at e1;rw [e1] at hf;obtain ⟨i',hf⟩:=hf;exact (hlk _ hf).trans rfl
    | false=>
     rw [hfu,Jd (by simp)] at e1;rw [e1] at hf;rw [hlk _ hf,e2 hfu];unfold Jaq;rw [hz1];rfl
   cases hot with
   | true=>
    cases ok with
    | true=>cases hv
    | false=>
     simp only [Jk,Jl,Ja,Jm] at hv;obtain ⟨cl,hc,rfl,rfl⟩:=hv;obtain ⟨i,h1,h2⟩:=JnI hc;have hil:i<ws.length:=by rw [←l3];exact Jx h1
     have h3:ws[i]? = some ws[i]:=Jj hil;obtain ⟨u,h4,h5⟩:=Xr g6 h2;rw [h3] at h4;cases h4;exact ⟨rfl,ws[i],found h1 h3,h5⟩
   | false=>
    simp only [Jl] at hv;split at hv
    ·rename_i e he;simp only [Ja,Jm] at hv;obtain ⟨ys,hp,rfl,rfl⟩:=hv;rcases JoR (X:=vs.cx S0 env m) h.T hp g6 with ⟨i,w,h1,h2,h3⟩|⟨h1,rfl⟩
     ·refine ⟨rfl,_,found h1 h2, ?_⟩;have hfu:=JiK h3;cases ok with
      | true=>exact ⟨_,rfl,h3,⟨by rw [hfu],rfl⟩,trivial⟩
      | false=>exact h3
     ·have hn:QA q xs=none:=Jgl fun b hb e=>h1 (by rw [←e];exact l2 b hb)
      rw [hn] at hf;refine ⟨rfl,(if ok then .tuple #[.slice none 0 0,.bool false] else .slice none 0 0),(hlk _ hf).trans (by unfold Jaq;rw [hz1];rfl), ?_⟩
      cases ok with
      | true=>exact ⟨_,rfl,.inl ⟨rfl,rfl⟩,⟨rfl,rfl⟩,trivial⟩
      | false=>exact .inl ⟨rfl,rfl⟩
    ·cases hv
  ·cases hv
 ·cases hv
theorem JcB (h : Rel P S0 env m a vs) (hbar : ∀ i, Wb (vs.cx S0 env m) i → m.bar ≤ i) {t : TypeId} {x k v y : Sl} {wx wk wv : Value} {vs1 : VS} (hx : J8 P (vs.cx S0 env m) x wx) (hk : J8 P (vs.cx S0 env m) k wk) (hv' : J8 P (vs.cx S0 env m) v wv) (hv : JgV P t x k v vs = some (y, vs1)) (hg : ∀ g, Jpt vs x v = some g → g = true) :
  ∃m1,Xf P t wx wk wv m=some m1∧Rel P S0 env m1 a vs1∧Stp (vs.cx S0 env m) (vs1.cx S0 env m1)∧y=Qn:=by
 unfold JgV at hv;split at hv
 ·rename_i et j q jb ht;split at hv
  ·rename_i ks cs bb hj hbb;obtain ⟨hbx, hns, rfl, kb, es, c, ws, g1, g2, g3, g4, g5, g6, g7, g8⟩ := JlL h hj hx;obtain rfl := JbY hk
   simp only [Ja,Jm] at hv;obtain ⟨cs1,hs,rfl,rfl⟩:=hv;obtain ⟨i,s1,s2,s3,rfl⟩:=Joy hs;have hfull:Jnw wv=true:=by
    have h1:=hg (!bb.xs.isEmpty) (by unfold Jpt;dsimp only;rw [hj,hbb])
    obtain ⟨b2,h2,h3⟩:=hv';have h2':vs.bf[jb]? = some b2:=h2
    rw [hbb] at h2';cases h2';rw [JiK (Jdw (h.T.bf jb bb h2) h3),h1]
   have hns1:(cs.set i (.o jb)).any Qh=false:=by
    rw [Bool.eq_false_iff];intro hany;rw [List.any_eq_true] at hany;obtain ⟨d,hd,hd2⟩:=hany;rcases List.mem_or_eq_of_mem_set hd with hd | rfl
    ·have:cs.any Qh=true:=List.any_eq_true.2 ⟨d,hd,hd2⟩
     rw [hns] at this;cases this
    ·cases hd2
   have hb:m.bar≤env.β j:=hbar _ (.inl ⟨j,Jx hbx,by show JM vs.bx j=true;rw [JK hbx];exact (Q2 (cs := .mt ks::cs) rfl).1,rfl⟩)
   obtain ⟨xs,l1,l2,l3,l4⟩:=g7;obtain ⟨r,f1,f2,f3⟩:=ex_put (q:=q) (v:=wv) c 0 l1;have hpk : ∀r',Instr.findNow .string (.string q) es.toList 0=some r'→Xf P t (.map (some (env.β j))) (.string q) wv m=(match (r':Option (Nat × Value)) with
     | some (j',_)=>m.putObj (env.β j) (.map (es.modify j' fun e => { e with key := .string q,val:=wv }) c)
     | none=>m.putObj (env.β j) (.map (es.push { key := .string q,val:=wv,born:=c }) (c+1))):=by
    intro r' hr';unfold Xf;rw [Jag ht];dsimp only;rw [g8];dsimp only;unfold JdV;rw [show QW .string (.string q)=true from rfl,Jf rfl,hr'];cases r' with
    | none=>rfl
    | some r=>rfl
   have hlink : ∀es':List MapEntry,Jk0 (Jea q wv xs) es'→Jro ks (ws.set i wv) es':=by
    intro es' he;refine ⟨_,he,fun b hb => ?_,by rw [JZ];exact l3,fun i' q' w h1 h2 => ?_⟩
    ·rcases JlM hb with e1|⟨b',e1,e2⟩
     ·rw [e1];exact JW s1
     ·rw [←e2];exact l2 b' e1
    ·rw [Jgm];rw [List.getElem?_set] at h2;by_cases e1:i=i'
     ·subst e1;rw [Jf rfl,Jf (by rw [←l3];exact Jx s1)] at h2
      cases h2;rw [s1] at h1;cases h1;rw [Jf rfl,Jf hfull];exact ⟨rfl,fun q=>by rw [hfull] at q;cases q⟩
     ·rw [Jd e1] at h2;rw [Jd (fun e2=>e1 (s2 i' (by rw [←e2];exact h1)).symm)]
      exact l4 i' q' w h1 h2
   have hcells : ∀{Y:Cx},Jac (vs.cx S0 env m) Y→JeD P Y (.mt ks::cs.set i (.o jb)) (ws.set i wv):=fun hle=>
    ⟨[],_,rfl,rfl,(JdK hns1).2 ((JoH i g6 (c := .o jb) hv').le hle)⟩
   have fin : ∀{o:Obj},Jn1 o=Jn1 kb.obj→(∃es' c',o = .map es' c'∧Jk0 (Jea q wv xs) es'.toList) →
     Rel P S0 env (m.set (env.β j) { kb with obj:=o }) a { vs with bx:=QC vs.bx j (.mt ks::cs.set i (.o jb)) }∧Stp (vs.cx S0 env m) (({ vs with bx:=QC vs.bx j (.mt ks::cs.set i (.o jb)) }:VS).cx S0 env (m.set (env.β j) { kb with obj:=o })):=by
    intro o ho ⟨es',c',e1,e2⟩;have k1:=Q2 (cs := .mt ks::cs) rfl;have k2:=Q2 (cs := .mt ks::cs.set i (.o jb)) rfl;exact h.setObj (ns := .mt ks::cs.set i (.o jb)) hbx k1.1 k2.1 (k2.2.trans k1.2.symm) g1 g5 ho (fun m' hle hal=>Qy.ofSg rfl ⟨_,_,hal,g3,g4,g5,hcells hle,es',c',e1,hlink _ e2⟩)
   cases r with
   | none=>
    obtain ⟨k1,k2⟩:=fin (o := .map (es.push { key := .string q,val:=wv,born:=c }) (c+1)) (by rw [g2];rfl) ⟨_,_,rfl,by rw [Array.toList_push];exact f2⟩
    exact ⟨_,(hpk _ f1).trans (Q0 g1 g3 g4 g5 hb),k1,k2,rfl⟩
   | some p=>
    obtain ⟨i',w⟩:=p;obtain ⟨k1,k2⟩:=fin (o := .map (es.modify i' fun e => { e with key := .string q,val:=wv }) c) (by rw [g2];rfl) ⟨_,_,rfl,by rw [Array.toList_modify];exact f2⟩
    exact ⟨_,(hpk _ f1).trans (Q0 g1 g3 g4 g5 hb),k1,k2,rfl⟩
  ·cases hv
 ·cases hv
theorem JkG {e:Ty} (he:0<e.n) : ∀{n:Nat} {env:Env} {vs:VS},Rel P S0 env m a vs → ∃env1,Rel P S0 env1 m a (JcT e n vs).2∧Stp (vs.cx S0 env m) ((JcT e n vs).2.cx S0 env1 m)∧(JcT e n vs).2.bx=vs.bx∧(JcT e n vs).1.any Qh=false∧Qa P ((JcT e n vs).2.cx S0 env1 m) (JcT e n vs).1 (List.replicate n (.slice none 0 0)):=by
 intro n;induction n with
 | zero=>intro env vs h;exact ⟨env,h,Stp.refl h.T.free,rfl,rfl,trivial⟩
 | succ n ih=>
  intro env vs h;obtain ⟨k1,k2,k3⟩:=h.newNil (ty:=e) he;obtain ⟨env1,g1,g2,g3,g4,g5⟩:=ih k1;refine ⟨env1,g1,k2.trans h.T.free g2,g3, ?_, ?_,g5⟩
  ·show (Cl.o vs.bf.length::(JcT e n (newBuf vs e []).2).1).any Qh=false;rw [List.any_cons,g4];rfl
  ·exact Jap.le g2.le (c := .o vs.bf.length) k3
theorem JeP (h : Rel P S0 env m a vs) {t : TypeId} {ks : List ByteArray} {r : Option Sl} {wr : Option Value} {y : Sl} {vs1 : VS} (hr : match r, wr with | none, none => True | some s, some w => J8 P (vs.cx S0 env m) s w | _, _ => False) (hv : JeQ P t ks r vs = some (y, vs1)) :
  ∃v m1 env1,QF P t wr m=some (v,m1)∧Rel P S0 env1 m1 a vs1∧Stp (vs.cx S0 env m) (vs1.cx S0 env1 m1)∧J8 P (vs1.cx S0 env1 m1) y v:=by
 unfold JeQ at hv;split at hv
 ·rename_i et ht;split at hv
  ·rename_i e he;obtain ⟨hn,hv⟩:=Jgw hv;cases hv;cases wr with
   | some w=>exact hr.elim
   | none=>
    obtain ⟨env0,r1,r2,r3,r4,r5⟩:=JkG (n:=ks.length) (JC hn) h;have hsg:(Cl.mt ks::(JcT e ks.length vs).1).any Qh=true:=rfl;have hlink:Jro ks (List.replicate ks.length (.slice none 0 0)) []:=by
     refine ⟨[],trivial,(fun b hb=>absurd hb List.not_mem_nil),List.length_replicate.symm,fun i q w h1 h2 => ?_⟩;rw [List.getElem?_replicate] at h2;split at h2
     ·cases h2;exact ⟨rfl,fun _=>rfl⟩
     ·cases h2
    obtain ⟨k0,k1,k2⟩:=r1.newObj (cs := .mt ks::(JcT e ks.length vs).1) (o := .map #[] 0) (Q2 hsg).1 (fun Y hle hal hβ=>Qy.ofSg hsg ⟨_,List.replicate ks.length (.slice none 0 0),hal,rfl,rfl,hβ.symm,
     ⟨[],_,rfl,rfl,(JdK r4).2 (r5.le hle)⟩, #[],0,rfl,hlink⟩)
    refine ⟨_,_,_,by unfold QF;rw [k0],k1,r2.trans h.T.free k2, ?_⟩
    have e1:vs.bx.length=(JcT e ks.length vs).2.bx.length:=by rw [r3]
    show J8 P _ (.v (.s (.mv vs.bx.length))) _;rw [e1];refine JoZ (by show _<((JcT e ks.length vs).2.bx ++ [_]).length;simp) (Nat.lt_succ_self _) (J6 _ _ _)
  ·cases hv
 ·cases hv
theorem Jno {o:Op} (h:Jfn o=true):Jeq o=none:=by
 unfold Jfn at h;split at h <;> first | rfl | cases h
theorem JmD {o : Oper} {hot : Bool} {ks : List ByteArray} (hm : Jfn o.op = true) (h : Rel P S0 env m a vs) (hbar' : Jdi o.op = false → ∀ i, Wb (vs.cx S0 env m) i → m.bar ≤ i) {x : Sl} {vs1 : VS} (hv : vmap P hot ks vs o = some (x, vs1)) (hg : ∀ g, Jpu vs o.op = some g → g = true) : OpS P S0 env m a vs o x vs1 := by
 have hE:=fun y=>QE (P:=P) h y
 unfold vmap at hv;split at hv
 ·rename_i t y k ok ho;obtain ⟨rfl,v,h1,h2⟩:vs1=vs ∧ ∃v,Q8 P t (a.eval y) (a.eval k) ok m=some v∧J8 P (vs.cx S0 env m) x v:=by
   cases hc:Juo vs (vs.ev y) with
   | true=>rw [hc] at hv;exact JfW h (hE y) (hE k) hv
   | false=>
    rw [hc] at hv;cases hb:JrL vs (vs.ev y) with
    | true=>rw [hb] at hv;exact JfX h (hE y) (hE k) hv
    | false=>rw [hb] at hv;exact Jg2 h (hE y) (hE k) hv
  exact OpS.same h (by unfold iop;rw [ho];dsimp only;rw [h1];rfl) h2
 ·rename_i t y k v ho;obtain ⟨m1,h1,h2,h3,rfl⟩ : ∃m1,Xf P t (a.eval y) (a.eval k) (a.eval v) m=some m1∧Rel P S0 env m1 a vs1∧Stp (vs.cx S0 env m) (vs1.cx S0 env m1)∧x=Qn:=by
   have hbar:=hbar' (by rw [ho];rfl)
   cases hc:Juo vs (vs.ev y) with
   | true=>rw [hc] at hv;exact JcB h hbar (hE y) (hE k) (hE v) hv (fun g q=>hg g (by rw [ho];exact q))
   | false=>
    rw [hc] at hv;cases hb:JrL vs (vs.ev y) with
    | true=>rw [hb] at hv;exact JcC h hbar (hE y) (hE k) (hE v) hv
    | false=>rw [hb] at hv;exact Jc4 h hbar (hE y) (hE k) (hE v) hv
  exact ⟨undef,m1,env,.inr ⟨by unfold iop;rw [ho];dsimp only;rw [h1];rfl,rfl⟩,h2,h3,⟨#[],rfl,trivial⟩⟩
 ·rename_i t y k v ho;obtain ⟨m1,h1,h2,h3,rfl⟩ : ∃m1,Xf P t (a.eval y) (a.eval k) (a.eval v) m=some m1∧Rel P S0 env m1 a vs1∧Stp (vs.cx S0 env m) (vs1.cx S0 env m1)∧x=Qn:=by
   have hbar:=hbar' (by rw [ho];rfl)
   cases hc:Juo vs (vs.ev y) with
   | true=>rw [hc] at hv;exact JcB h hbar (hE y) (hE k) (hE v) hv (fun g q=>hg g (by rw [ho];exact q))
   | false=>
    rw [hc] at hv;cases hb:JrL vs (vs.ev y) with
    | true=>rw [hb] at hv;exact JcC h hbar (hE y) (hE k) (hE v) hv
    | false=>rw [hb] at hv;exact Jc4 h hbar (hE y) (hE k) (hE v) hv
  exact ⟨undef,m1,env,.inr ⟨by unfold iop;rw [ho];dsimp only;rw [h1];rfl,rfl⟩,h2,h3,⟨#[],rfl,trivial⟩⟩
 ·rename_i t r ho;obtain ⟨v,m1,env1,h1,h2,h3,h4⟩ : ∃v m1 env1,QF P t (r.map a.eval) m=some (v,m1)∧Rel P S0 env1 m1 a vs1∧Stp (vs.cx S0 env m) (vs1.cx S0 env1 m1)∧J8 P (vs1.cx S0 env1 m1) x v:=by
   cases hks:ks.isEmpty with
   | false=>rw [hks] at hv;exact JeP (wr:=r.map a.eval) h (by cases r with | none=>trivial | some r=>exact hE r) hv
   | true=>
   rw [hks] at hv;cases hot with
   | true=>exact JeR (wr:=r.map a.eval) h (by cases r with | none=>trivial | some r=>exact hE r) hv
   | false=>exact JfV (wr:=r.map a.eval) h (by cases r with | none=>trivial | some r=>exact hE r) hv
  exact ⟨v,m1,env1,.inl (by unfold iop;rw [ho];dsimp only;rw [h1];rfl),h2,h3,h4⟩
 ·rename_i t y ho;obtain ⟨v,m1,env1,h1,h2,h3,h4⟩:=JgZ h (hE y) hv;exact ⟨v,m1,env1,.inl (by unfold iop;rw [ho];dsimp only;rw [h1];rfl),h2,h3,h4⟩
 ·rename_i it s ho;obtain ⟨v,m1,h1,h2,h3,h4⟩:=JjZ h (hbar' (by rw [ho];rfl)) (hE it) hv
  exact ⟨v,m1,env,.inl (by unfold iop;rw [ho];dsimp only;rw [h1];rfl),h2,h3,h4⟩
 ·rename_i it ho;obtain ⟨rfl,v,h1,h2⟩:=Jiu h (hE it) hv;exact OpS.same h (by unfold iop;rw [ho];dsimp only;rw [h1];rfl) h2
 ·rename_i c ho;have hc : c.callee = .builtin .delete := by
   rw [ho] at hm;unfold Jfn at hm;dsimp only at hm;split at hm
   ·assumption
   ·cases hm
  split at hv
  ·rename_i y k t hy hk ht;split at hv
   ·rename_i hsz;obtain ⟨m1,h1,h2,h3,rfl⟩ : ∃m1,X8 P t (a.eval y) (a.eval k) m=some m1∧Rel P S0 env m1 a vs1∧Stp (vs.cx S0 env m) (vs1.cx S0 env m1)∧x=Qn:=by
     have hbar:=hbar' (by rw [ho];rfl)
     cases hb:JrL vs (vs.ev y) with
     | true=>rw [hb] at hv;exact JfY h hbar (hE y) (hE k) hv
     | false=>rw [hb] at hv;exact Jg8 h hbar (hE y) (hE k) hv
    refine ⟨.tuple #[],m1,env,.inl ?_,h2,h3,⟨#[],rfl,trivial⟩⟩;unfold iop;rw [ho];dsimp only;unfold JaT;rw [hc];dsimp only;rw [hy,hk,ht];simp only [JU];rw [Jf hsz,h1];rfl
   ·cases hv
  ·cases hv
 ·cases hv
end Go.IM.V
namespace Go.IM.V
open Go Go.IM
variable {P:Program} {m m1:M} {S0:Nat→Prop} {env env1:Env} {a:Act} {vs:VS} {X Y:Cx} {ρ:Type} {C:Tab}
theorem Jps (args:Array Value):Jbm args M0=none:=by
 unfold Jbm;split
 ·rename_i i _;have:M.mapOf M0 i=none:=by
   have e:M.get M0 i=none:=Tr.get_leaf _ _;unfold M.mapOf M.alive;rw [e]
  rw [this]
 ·rfl
theorem Stp.bars {X Y:Cx} (h:Stp X Y) (hb:X.m.bar≤X.m.nxt) (k:Jf9 X):Jf9 Y:=by
 intro i w;rw [h.fr.bar];rcases h.wb i w with w | w
 ·exact k i w
 ·exact Jy hb w
theorem Je5 : ∀{l:List S1} {ws:List Value},QZ P X l ws→ws.length=l.length:=by
 intro l;induction l with
 | nil=>intro ws h;cases ws with
  | nil=>rfl
  | cons=>exact h.elim
 | cons c l ih=>intro ws h;cases ws with
  | nil=>exact h.elim
  | cons w ws=>simp [ih h.2]
theorem JiJ {l:List S1} {ws:List Value} (h:QZ P X l ws) {k:Nat} {s:S1} {w:Value} (hk:ws[k]? = some w) (hs:Ja3 P X s w):QZ P X (QC l k s) ws:=by
 induction k generalizing l ws with
 | zero=>cases l with
  | nil=>exact h
  | cons c l=>cases ws with
   | nil=>exact h.elim
   | cons u ws=>cases hk;exact ⟨hs,h.2⟩
 | succ k ih=>cases l with
  | nil=>exact h
  | cons c l=>cases ws with
   | nil=>exact h.elim
   | cons u ws=>exact ⟨h.1,ih h.2 hk⟩
theorem Jkx : ∀ {pl : List (Nat × Pt)} {bf : List Ty} {env : Env} {vs vs1 : VS} {l l1 : List S1} {ws : List Value}, Rel P S0 env m a vs → QZ P (vs.cx S0 env m) l ws → Jfa pl bf l vs = (l1, vs1) →
  ∃env1,Rel P S0 env1 m a vs1∧Stp (vs.cx S0 env m) (vs1.cx S0 env1 m)∧QZ P (vs1.cx S0 env1 m) l1 ws:=by
 intro pl;induction pl with
 | nil=>intro bf env vs vs1 l l1 ws h hl hp;cases hp;exact ⟨env,h,Stp.refl h.T.free,hl⟩
 | cons p pl ih =>
  intro bf env vs vs1 l l1 ws h hl hp;obtain ⟨k,p⟩:=p;cases p with
  | o t=>
   simp only [Jfa] at hp;split at hp
   ·rename_i v e hk he;cases hc:(XU v && Nat.blt 0 e.n) with
    | false=>rw [hc] at hp;exact ih h hl hp
    | true=>
     rw [hc] at hp;simp only [Jk] at hp;simp only [Jh] at hc;obtain ⟨hn,hlt⟩:=hc;obtain ⟨k1,k2,k3⟩:=h.newNil (ty:=e) (JC hlt);obtain ⟨u,hu1,hu2⟩:=Je6 hl hk;obtain ⟨rfl,_⟩:=hu2;have hl2:=JiJ (hl.le k2.le) hu1 (s := .s (.o vs.bf.length)) (by rw [Q7 hn];exact k3)
     obtain ⟨env1,g1,g2,g3⟩:=ih k1 hl2 hp;exact ⟨env1,g1,k2.trans h.T.free g2,g3⟩
   ·exact ih h hl hp
  | m e t=>
   simp only [Jfa] at hp;split at hp
   ·rename_i v hk;cases hc:(XU v && Nat.blt 0 e.n) with
    | false=>rw [hc] at hp;exact ih h hl hp
    | true=>
     rw [hc] at hp;simp only [Jk] at hp;simp only [Jh] at hc;obtain ⟨hn,hlt⟩:=hc;obtain ⟨k1,k2,k3⟩:=h.newRunE (ty:=e) (v := .slice none 0 0) (JC hlt) (.inl rfl);obtain ⟨u,hu1,hu2⟩:=Je6 hl hk;obtain ⟨rfl,_⟩:=hu2;have hl2:=JiJ (hl.le k2.le) hu1 (s := .s (.m e vs.bx.length)) (by rw [Q7 hn];exact k3)
     obtain ⟨env1,g1,g2,g3⟩:=ih k1 hl2 hp;exact ⟨env1,g1,k2.trans h.T.free g2,g3⟩
   ·exact ih h hl hp
  | _=>exact ih h hl hp
theorem JfH {bx : List (List Cl)} {p : Pt} {s : S1} {j : Nat} {q : (e : Ty) × List e.El} (h : Jl3 bx p s = some (j, q)) : bx[j]? = some [.r true q.1 q.2] := by
 have key:(match mOfS s with
   | some j=>match bx[j]? with
    | some [.r true e xs]=>some (j,(⟨e,xs⟩:(e:Ty) × List e.El))
    | _=>none
   | none=>none)=some (j,q)→bx[j]? = some [.r true q.1 q.2]:=by
  intro h;split at h
  ·split at h
   ·rename_i e xs hj;cases h;exact hj
   ·cases h
  ·cases h
 unfold Jl3 at h;split at h
 ·exact key h
 ·exact key h
 ·cases h
theorem coolSs {j q:Nat} {X Y:Cx} (hs : ∀(s:S1) (w:Value),Ja3 P X s w→Ja3 P Y (Jf4 j q s) w) : ∀{l:List S1} {ws:List Value},QZ P X l ws→QZ P Y (l.map (Jf4 j q)) ws:=by
 intro l;induction l with
 | nil=>intro ws hr;cases ws with
  | nil=>trivial
  | cons=>exact hr.elim
 | cons c l ih=>intro ws hr;cases ws with
  | nil=>exact hr.elim
  | cons w ws=>exact ⟨hs c w hr.1,ih hr.2⟩
theorem Jk4 : ∀{pl:List (Nat × Pt)} {env:Env} {vs vs1:VS} {l l1:List S1} {ws:List Value},Rel P S0 env m a vs→QZ P (vs.cx S0 env m) l ws→JnG pl l vs=(l1,vs1) →
  ∃env1,Rel P S0 env1 m a vs1∧Stp (vs.cx S0 env m) (vs1.cx S0 env1 m)∧QZ P (vs1.cx S0 env1 m) l1 ws:=by
 intro pl;induction pl with
 | nil=>intro env vs vs1 l l1 ws h hl hp;cases hp;exact ⟨env,h,Stp.refl h.T.free,hl⟩
 | cons p pl ih=>
  intro env vs vs1 l l1 ws h hl hp;obtain ⟨k,p⟩:=p;simp only [JnG] at hp;split at hp
  ·split at hp
   ·rename_i j e xs hc;obtain ⟨env1,k1,k2,k3⟩:=h.cool (JfH hc);obtain ⟨env2,g1,g2,g3⟩:=ih k1 (coolSs k3 hl) hp;exact ⟨env2,g1,k2.trans h.T.free g2,g3⟩
   ·exact ih h hl hp
  ·exact ih h hl hp
theorem Jcp {pl:List (Nat × Pt)} {bf:List Ty} {env:Env} {vs vs1:VS} {l l1:List S1} {ws:List Value} (h:Rel P S0 env m a vs) (hl:QZ P (vs.cx S0 env m) l ws) (hp:prep pl bf l vs=(l1,vs1)) :
  ∃env1,Rel P S0 env1 m a vs1∧Stp (vs.cx S0 env m) (vs1.cx S0 env1 m)∧QZ P (vs1.cx S0 env1 m) l1 ws:=by
 unfold prep at hp;split at hp
 rename_i l2 vs2 hc;obtain ⟨env1,k1,k2,k3⟩:=Jk4 h hl hc;obtain ⟨env2,g1,g2,g3⟩:=Jkx k1 k3 hp;exact ⟨env2,g1,k2.trans h.T.free g2,g3⟩
theorem Jcy {l : List S1} {ws : List Value} (h : QZ P X l ws) (i : Nat) : J8 P X (JqN l i) (ws.toArray.getD i undef) := by
 have key : ∀{l:List S1} {ws:List Value} (i:Nat),QZ P X l ws→J8 P X (JqN l i) (ws[i]?.getD undef):=by
  intro l;induction l with
  | nil=>intro ws i h;cases i <;> trivial
  | cons c l ih=>intro ws i h;cases ws with
   | nil=>exact h.elim
   | cons u ws=>cases i with
    | zero=>exact h.1
    | succ i=>exact ih i h.2
 have:=key i h
 rw [JH];simpa using this
theorem Jgc {vs:VS} {q:GH} {K:Sl→VS→Option ρ} {Kp:Value→VS→Option ρ} {r:ρ} : ∀{o:OT} {y:o.E},JqV vs q K Kp o y=some r →
  ((o.out y).1 = .ret∧K (JiI (after vs q (o.out y).2.1 (o.out y).2.2).1) (after vs q (o.out y).2.1 (o.out y).2.2).2=some r)∨(∃w,(o.out y).1 = .pnc w∧Kp w (after vs q (o.out y).2.1 (o.out y).2.2).2=some r):=by
 intro o;induction o with
 | ret t=>intro y h;exact .inl ⟨rfl,h⟩
 | exit id t=>intro y h;cases h
 | pnc tid k t=>intro y h;exact .inr ⟨_,rfl,h⟩
 | two a b iha ihb=>intro y h;cases y with
  | inl y=>exact iha h
  | inr y=>exact ihb h
theorem Jb7 {x : Value} {p : Prop} {t : Tm} {y : t.E} {q : GH} (hgl : q.g.length = t.bx.length) (hbf : ∀ (k : Nat) (b : Bf), (t.inst 0 y).bf[k]? = some b → ∃ j, q.h[k]? = some j ∧ vs.bf[j]? = some b) (hbl : (t.inst 0 y).bf.length = q.h.length) :
  (t.cx y (vs.S S0 env) (env.sub q p) m).nb=q.g.length∧(∀i,Wl (t.cx y (vs.S S0 env) (env.sub q p) m) i → ∃(k j:Nat),q.h[k]? = some j∧env.τ j=some i)∧(∀(k j:Nat),q.h[k]? = some j → ∃b:Bf,vs.bf[j]? = some b∧b.live=true) ∧
   (∀i,Wb (t.cx y (vs.S S0 env) (env.sub q p) m) i→(∃(k j:Nat),q.g[k]? = some j∧(t.cx y (vs.S S0 env) (env.sub q p) m).has k=true∧env.β j=i)∨(p∧env.φ i)):=by
 have hnb:(t.cx y (vs.S S0 env) (env.sub q p) m).nb=q.g.length:=by rw [hgl];show (bxI id id t.bx y.2.1).length=_;rw [Xl]
 refine ⟨hnb,fun i w => ?_,fun k j hk => ?_,fun i w => ?_⟩
 ·obtain ⟨k,b,h1,h2,h3⟩:=w;obtain ⟨j,h4,h5⟩:=hbf k b h1;refine ⟨k,j,h4, ?_⟩;have h3':(match q.h[k]? with | some j=>env.τ j | none=>none)=some i:=h3
  rw [h4] at h3';exact h3'
 ·have hkl:k<(t.inst 0 y).bf.length:=by rw [hbl];exact Jx hk
  obtain ⟨j',h4,h5⟩:=hbf k (t.inst 0 y).bf[k] (by simp [hkl]);rw [hk] at h4;cases h4;refine ⟨_,h5, ?_⟩;have live : ∀{l:List Ty} {x:BfE l} {k:Nat} {b:Bf},(bfI l x)[k]? = some b→b.live=true:=by
   intro l;induction l with
   | nil=>intro x k b h;cases h
   | cons t l ih=>intro x k b h;cases k with
    | zero=>cases h;rfl
    | succ k=>exact ih (x:=x.2) h
  exact live (l:=t.bf) (x:=y.2.2) (k:=k) (by show (t.inst 0 y).bf[k]? = _;simp [hkl])
 ·rcases w with ⟨k,h1,h3,h2⟩|w
  ·rw [hnb] at h1;refine .inl ⟨k,q.g[k],by simp [h1],h3, ?_⟩;have h2':(match q.g[k]? with | some j=>env.β j | none=>0)=i:=h2
   simp only [h1,Jj] at h2';exact h2'
  ·exact .inr w
def JdT (X:Cx):Cx:=⟨fun _=>False,X.m,{ X.env with φ:=fun _=>False },0,X.bf,fun _=>false,fun _=>none,fun _=>False⟩
theorem Jui {bx:List (List Cl)} (hT:Jao P X bx):Jao P (JdT X) []:=by
 have hmono:Jex X.S X.m (fun _=>False) X.m:=fun i r hr _=>⟨hr,fun w=>w⟩
 refine ⟨hT.free,hT.bar,rfl,funext fun j=>(by unfold JM;simp [JdT]),funext fun j=>(by unfold lenOf;simp [JdT]),fun j hj=>absurd hj (J3 _),fun i w=>w.elim,fun j b hb => ?_,hT.bfd,fun j cs hcs=>(by cases hcs),fun j j' hj=>absurd hj (J3 _),fun i w=>w.elim,fun j hj=>absurd hj (J3 _),hT.rts,hT.unq⟩
 exact XV.le (Wb:=fun _=>False) (Wl:=fun _=>False) (X:=X) (Y:=JdT X) (Fr2.refl hT.free) hmono (fun _ w=>w.elim) rfl (hT.bf j b hb) (fun _ _ _ w=>w)
theorem JiV (hT:Jao P (vs.cx S0 env m) vs.bx) {c:Cl} {w:Value} (h:Jap P (vs.cx S0 env m) c w):Jap P (JdT (vs.cx S0 env m)) (Jrp vs c) w:=by
 have hmono:Jex (vs.S S0 env) m (fun _=>False) m:=fun i r hr _=>⟨hr,fun w=>w⟩
 have hpk : ∀{e:Ty} {c:Cl} {xs:List e.El},Jfc vs e c=some xs→Jap P (vs.cx S0 env m) c w→Jbu P (fun _=>False) m e.n (QR P (fun _=>False) m e) xs w:=fun {e c xs} hp hr=>
  Jbu.mono (P:=P) (n:=e.n) (S:=fun _=>False) (m:=m) (fun i r hr _=>⟨hr,fun w=>w⟩) (fun _ _ q=>QR.mono hmono q) (Jda hT hp hr)
 cases c with
 | c v=>exact h
 | l e xs=>exact Jbu.mono (P:=P) (n:=e.n) (R:=QR P (vs.S S0 env) m e) hmono (fun _ _ q=>QR.mono hmono q) h
 | o j=>
  obtain ⟨b,h1,h2⟩:=h;exact ⟨b,h1,Jma (X:=vs.cx S0 env m) (Z:=JdT (vs.cx S0 env m)) (l:=b.live) hmono h2⟩
 | m e j=>
  show Jap P _ (match Jfc vs e (.m e j) with | some xs=>Cl.l e xs | none => .x) w;split
  ·rename_i xs hp;exact hpk hp h
  ·trivial
 | w e j o n cp=>
  show Jap P _ (match Jfc vs e (.w e j o n cp) with | some xs=>Cl.l e xs | none => .x) w;split
  ·rename_i xs hp;exact hpk hp h
  ·trivial
 | _=>trivial
theorem Jni (hT:Jao P (vs.cx S0 env m) vs.bx) : ∀{cs:List Cl} {ws:List Value},Qa P (vs.cx S0 env m) cs ws→Qa P (JdT (vs.cx S0 env m)) (cs.map (Jrp vs)) ws:=by
 intro cs;induction cs with
 | nil=>intro ws h;cases ws <;> exact h
 | cons c cs ih=>intro ws h;cases ws with
  | nil=>exact h
  | cons w ws=>exact ⟨JiV hT h.1,ih h.2⟩
theorem Jnh (hT:Jao P (vs.cx S0 env m) vs.bx) : ∀{l:List S1} {ws:List Value},QZ P (vs.cx S0 env m) l ws→QZ P (JdT (vs.cx S0 env m)) (l.map (lendS vs)) ws:=by
 intro l;induction l with
 | nil=>intro ws h;cases ws <;> exact h
 | cons c l ih=>intro ws h;cases ws with
  | nil=>exact h
  | cons w ws=>
   refine ⟨?_,ih h.2⟩;have h1:=h.1;cases c with
   | x=>trivial
   | s c=>exact JiV (c:=c) hT h1
   | a cs=>obtain ⟨b,e1,e2⟩:=h1;exact ⟨b,e1,Jni hT e2⟩
theorem JrU {X Y:Cx} {bx:List (List Cl)} (hT:Jao P X bx) (hn:X.m.nxt≤Y.m.nxt) {s:Sl} {w:Value} (h:J8 P X s w):J8 P Y (fogV s) w:=by
 cases s with
 | v s=>exact JkU (s:=s) hT hn h
 | t l=>
  obtain ⟨b,rfl,h2⟩:=h;refine ⟨b,rfl, ?_⟩;generalize b.toList=ws at h2;clear b;induction l generalizing ws with
  | nil=>cases ws <;> exact h2
  | cons c l ih=>cases ws with
   | nil=>exact h2
   | cons w ws=>exact ⟨JkU hT hn h2.1,ih ws h2.2⟩
theorem Jng [Orc P] {k : Nat} {con : Con} (hok : Con.OK P k con) (h : Rel P S0 env m a vs) {args : List S1} {ws : List Value} (hw : QZ P (vs.cx S0 env m) args ws) {x : con.ins.E} {q : GH} (hm : Juj con args vs = some (x, q)) {y : con.out.E} (hy : con.F x = some y) :
  ∃c m1,Cal P k ws.toArray m c m1∧Rel P S0 env m1 a vs∧Stp (vs.cx S0 env m) (vs.cx S0 env m1) ∧
   ∀(K:Sl→VS→Option ρ) {r:ρ},vlend vs K con.out y=some r → ∃v x,c = .ret v∧J8 P (vs.cx S0 env m1) x v∧K x vs=some r:=by
 obtain ⟨ins,out,F⟩:=con;dsimp only at *;unfold Juj at hm;cases hll:(JhB ⟨ins,out,F⟩ && Nat.beq ins.sl.length args.length) with
 | false=>rw [hll] at hm;cases hm
 | true=>
  rw [hll] at hm;simp only [Jk] at hm;obtain ⟨hl,hlen⟩:=(Jh _ _).mp hll;have hlen:=Jr hlen;unfold JhB at hl;simp only [Jh,List.isEmpty_iff] at hl;obtain ⟨⟨hib,hif⟩,hret⟩:=hl;have hT:=Jui h.T;have hacc:=Jnh h.T hw;obtain ⟨g1,g2,g3,g4,g5,g6,g7,g8,g9,g10⟩:=Jbk (X:=JdT (vs.cx S0 env m)) (vs := { vs with bx := [] }) hT rfl rfl (av:=fun i=>ws.toArray.getD i undef) (fun p _=>Jcy hacc p.1) hm (p:=True) (fun _=>trivial) (S0:=fun _=>False) (fun i w=>w) 0
  have hbars:Jf9 (ins.cx x (fun _=>False) ((JdT (vs.cx S0 env m)).env.sub q True) m):=by
   intro i w;rcases w with ⟨j,hj,_⟩|w
   ·have:(ins.inst 0 x).bx.length=0:=by rw [g4,hib];rfl
    exact absurd (show j<(ins.inst 0 x).bx.length from hj) (by omega)
   ·exact w.2.elim
  obtain ⟨c,m1,env2,hcal,hend,hres⟩:=hok x y hy (fun _=>False) ((JdT (vs.cx S0 env m)).env.sub q True) m ws.toArray g1 hbars g2 (by have:=Je5 hw;show ws.length=ins.sl.length;omega)
  have hWb : ∀i,Wb (ins.cx x (fun _=>False) ((JdT (vs.cx S0 env m)).env.sub q True) m) i→False:=by
   intro i w;rcases w with ⟨j,hj,_⟩|w
   ·have:(ins.inst 0 x).bx.length=0:=by rw [g4,hib];rfl
    exact absurd (show j<(ins.inst 0 x).bx.length from hj) (by omega)
   ·exact w.2.elim
  have hWl : ∀i,Wl (ins.cx x (fun _=>False) ((JdT (vs.cx S0 env m)).env.sub q True) m) i→False:=by
   rintro i ⟨j,b,hb,_⟩
   have h1:(ins.inst 0 x).bf[j]? = some b:=hb;have h2:(ins.inst 0 x).bf.length=0:=by
    show (bfI ins.bf x.2.2).length=0;have : ∀{l:List Ty} {z:BfE l},l = []→bfI l z = []:=by intro l z hl;subst hl;rfl
    rw [this hif];rfl
   have:=Jx h1
   omega
  have hfr:Fr2 (fun _=>False) (fun _=>False) m m1:=hend.fr.mono (fun i w=>hWb i w) (fun i w=>(hWl i w).elim);have hle:Jac (vs.cx S0 env m) (vs.cx S0 env m1):=
   ⟨hfr.mono_row h.T.free (fun _ w=>w.elim) (fun i w => .inl w),Je _,fun _ _=>rfl,fun j b hb=>⟨b.live,hb,rfl⟩,fun _ _ q=>q,fun _ _ _ q=>q,fun _ q=>q,fun _ q=>q,hfr.nxt,hfr.ty⟩
  have hs:Stp (vs.cx S0 env m) (vs.cx S0 env m1):=⟨hfr.mono (fun _ w=>w.elim) (fun _ w=>w.elim),hle,fun i w => .inl w,fun i w => .inl w⟩;have hT1:Jao P (vs.cx S0 env m1) vs.bx:=by
   refine ⟨hfr.free,by show m1.bar≤m1.nxt;rw [hfr.bar];exact Jy h.T.bar hfr.nxt,rfl,rfl,rfl,h.T.inS,fun i w=>Jt (h.T.slt i w) hfr.nxt,fun j b hb=>XV.le hfr hle.mono (fun _ w=>w.elim) rfl (h.T.bf j b hb) (fun _ _ _ w=>w),h.T.bfd,fun j cs hcs=>Qy.le h.T.free h.T.rts hfr hle (fun _=>rfl) (h.T.bx j cs hcs) (fun _ w=>w) (fun _ w=>w),h.T.bxd,h.T.φS,h.T.φd,hfr.rts h.T.rts,hfr.unq h.T.rts h.T.unq⟩
  refine ⟨c,m1,hcal,h.step hs hT1 rfl rfl rfl,hs,fun K r hv => ?_⟩;cases out with
  | ret t=>
   obtain ⟨v,rfl,hv2⟩:=hres;exact ⟨v,_,rfl,JrU (Y:=vs.cx S0 env m1) hend.T (Je _) hv2,hv⟩
  | _=>cases hret
theorem Jiw [Orc P] {k : Nat} {cs : List Con} (hC : ∀ c ∈ cs, Con.OK P k c) (h : Rel P S0 env m a vs) {low : Bool} (hbar : low = false → Jf9 (vs.cx S0 env m)) {args : List S1} {ws : List Value} (hw : QZ P (vs.cx S0 env m) args ws) {K : Sl → VS → Option ρ} {Kp : Value → VS → Option ρ} {r : ρ} (hv : JeU low args vs K Kp cs = some r) :
  ∃c m1 env1 vs1,Cal P k ws.toArray m c m1∧Rel P S0 env1 m1 a vs1∧Stp (vs.cx S0 env m) (vs1.cx S0 env1 m1)∧((∃v x,c = .ret v∧J8 P (vs1.cx S0 env1 m1) x v∧K x vs1=some r) ∨ ∃w,c = .pnc w∧Kp w vs1=some r):=by
 induction cs with
 | nil=>cases hv
 | cons con cs ihc =>
  have hok:=hC con (List.mem_cons_self ..);simp only [JeU] at hv;generalize hp:prep con.ins.sl con.ins.bf args vs=pp at hv;obtain ⟨l,vs1⟩:=pp;dsimp only at hv;obtain ⟨env',h1,hs1,hl⟩:=Jcp h hw hp;split at hv
  ·rename_i x q hm;obtain ⟨g1, g2, g3, g4, g5, g6, g7, g8, g9, g10⟩ := Jbk (X := vs1.cx S0 env' m) h1.T rfl rfl (av := fun i => ws.toArray.getD i undef) (fun p _ => Jcy hl p.1) hm (p := q.g ≠ []) (fun w => w) (S0 := vs1.S S0 env') (fun i w => w) 0;obtain ⟨f1, f2, f3, f4⟩ := Jb7 (p := q.g ≠ []) (S0 := S0) (env := env') (m := m) (vs := vs1) (x := undef) g3 g7 g5;cases hemp : Nat.beq con.ins.sl.length args.length with
   | false=>rw [hemp] at hv;cases hv
   | true=>
   rw [hemp] at hv;simp only [Bool.not_true,Jl] at hv;have hnil:ws.toArray.size=con.ins.sl.length:=by
    have h1:=Je5 hw;have h2:=Jr hemp;show ws.length=_;omega
   cases hlow:(low && !q.g.isEmpty) with
   | true=>rw [hlow] at hv;cases hv
   | false=>
    rw [hlow] at hv;simp only [Jl,Jp] at hv;obtain ⟨y,hy,hv⟩:=hv;have hbars:Jf9 (con.ins.cx x (vs1.S S0 env') (env'.sub q (q.g ≠ [])) m):=by
     intro i w;cases low with
     | false=>
      rcases f4 i w with ⟨k',j,h3,hh3,h4⟩|⟨_,h3⟩
      ·exact (hs1.bars h.T.bar (hbar rfl)) i (.inl ⟨j,(g8 k' j h3).1,show JM vs1.bx j=true by rw [←(g8 k' j h3).2.1];exact hh3,h4⟩)
      ·exact (hs1.bars h.T.bar (hbar rfl)) i (.inr h3)
     | true=>
      simp only [Bool.true_and,Bool.not_eq_false',List.isEmpty_iff] at hlow;rcases f4 i w with ⟨k',j,h3,_⟩|⟨h3,_⟩
      ·rw [hlow] at h3;simp at h3
      ·exact absurd hlow h3
    obtain ⟨c,m1,env2,hcal,hend,hret⟩:=hok x y hy (vs1.S S0 env') (env'.sub q (q.g ≠ [])) m ws.toArray g1 hbars g2 hnil;obtain ⟨r1,r2,r3⟩:=Jud (env1:=env2) h1.T (fun k j hk=>(g8 k j hk).1) f3 g9 (Xc:=con.ins.cx x (vs1.S S0 env') (env'.sub q (q.g ≠ [])) m) rfl f1 rfl (fun k j hk=>(g8 k j hk).2.1) (fun k j hk=>(g8 k j hk).2.2) f2 hend;have hR:=h1.step r2 r1 rfl rfl rfl;refine ⟨c,m1,_,_,hcal,hR,hs1.trans h.T.free r2, ?_⟩
    rcases Jgc hv with ⟨e1,e2⟩|⟨w,e1,e2⟩
    ·rw [e1] at hret;obtain ⟨v,rfl,hret⟩:=hret;exact .inl ⟨v,_,rfl,JiH r3 hret,e2⟩
    ·rw [e1] at hret;exact .inr ⟨w,hret,e2⟩
  ·exact ihc (fun c hc=>hC c (J5 _ hc)) hv
theorem Jha [Orc P] {k : Nat} {cs : List Con} (hC : ∀ c ∈ cs, Con.OKR P k c) (h : Rel P S0 env m a vs) {args : List S1} {ws : List Value} (hw : QZ P (vs.cx S0 env m) args ws) {K : Sl → VS → Option ρ} {Kp : Value → VS → Option ρ} {r : ρ} (hv : JeU false args vs K Kp cs = some r) :
  ∃c m1 env1 vs1,Cal P k ws.toArray m c m1∧Rel P S0 env1 m1 a vs1∧Stp (vs.cx S0 env m) (vs1.cx S0 env1 m1)∧((∃v x,c = .ret v∧J8 P (vs1.cx S0 env1 m1) x v∧K x vs1=some r) ∨ ∃w,c = .pnc w∧Kp w vs1=some r):=by
 induction cs with
 | nil=>cases hv
 | cons con cs ihc=>
  have hok:=hC con (List.mem_cons_self ..);simp only [JeU] at hv;generalize hp:prep con.ins.sl con.ins.bf args vs=pp at hv;obtain ⟨l,vs1⟩:=pp;dsimp only at hv;obtain ⟨env',h1,hs1,hl⟩:=Jcp h hw hp;split at hv
  ·rename_i x q hm;obtain ⟨g1,g2,g3,g4,g5,g6,g7,g8,g9,g10⟩:=Jbk (X:=vs1.cx S0 env' m) h1.T rfl rfl (av:=fun i=>ws.toArray.getD i undef) (fun p _=>Jcy hl p.1) hm (p:=q.g ≠ []) (fun w=>w) (S0:=vs1.S S0 env') (fun i w=>w) 0;obtain ⟨f1,f2,f3,f4⟩:=Jb7 (p:=q.g ≠ []) (S0:=S0) (env:=env') (m:=m) (vs:=vs1) (x:=undef) g3 g7 g5;cases hemp:Nat.beq con.ins.sl.length args.length with
   | false=>rw [hemp] at hv;cases hv
   | true=>
   rw [hemp] at hv;simp only [Bool.not_true,Jl] at hv;have hnil:ws.toArray.size=con.ins.sl.length:=by
    have h1:=Je5 hw;have h2:=Jr hemp;show ws.length=_;omega
   ·simp only [Bool.false_and,Jl,Jp] at hv;obtain ⟨y,hy,hv⟩:=hv;obtain ⟨c,m1,env2,hcal,hend,hret⟩:=hok x y hy (vs1.S S0 env') (env'.sub q (q.g ≠ [])) m ws.toArray g1 g2 hnil;obtain ⟨r1,r2,r3⟩:=Jud (env1:=env2) h1.T (fun k j hk=>(g8 k j hk).1) f3 g9 (Xc:=con.ins.cx x (vs1.S S0 env') (env'.sub q (q.g ≠ [])) m) rfl f1 rfl (fun k j hk=>(g8 k j hk).2.1) (fun k j hk=>(g8 k j hk).2.2) f2 hend
    have hR:=h1.step r2 r1 rfl rfl rfl;refine ⟨c,m1,_,_,hcal,hR,hs1.trans h.T.free r2, ?_⟩;rcases Jgc hv with ⟨e1,e2⟩|⟨w,e1,e2⟩
    ·rw [e1] at hret;obtain ⟨v,rfl,hret⟩:=hret;exact .inl ⟨v,_,rfl,JiH r3 hret,e2⟩
    ·rw [e1] at hret;exact .inr ⟨w,hret,e2⟩
  ·exact ihc (fun c hc=>hC c (J5 _ hc)) hv
theorem Jir [Orc P] {k:Nat} {cs:List Con} (hC : ∀c∈cs,Con.OK P k c) (h:Rel P S0 env m a vs) {args:List S1} {ws:List Value} (hw:QZ P (vs.cx S0 env m) args ws) {K:Sl→VS→Option ρ} {r:ρ} (hv:Jln args vs K cs=some r) :
  ∃c m1 env1 vs1,Cal P k ws.toArray m c m1∧Rel P S0 env1 m1 a vs1∧Stp (vs.cx S0 env m) (vs1.cx S0 env1 m1) ∧ ∃v x,c = .ret v∧J8 P (vs1.cx S0 env1 m1) x v∧K x vs1=some r:=by
 induction cs with
 | nil=>cases hv
 | cons con cs ihc=>
  have hok:=hC con (List.mem_cons_self ..);simp only [Jln] at hv;split at hv
  ·rename_i x q hm;simp only [Jp] at hv;obtain ⟨y,hy,hv⟩:=hv;obtain ⟨c,m1,g1,g2,g3,g4⟩:=Jng hok h hw hm hy;obtain ⟨v,x',rfl,g5,g6⟩:=g4 K hv;exact ⟨_,m1,env,vs,g1,g2,g3,v,x',rfl,g5,g6⟩
  ·exact ihc (fun c hc=>hC c (J5 _ hc)) hv
theorem JeT [Orc P] (hC:JaU P C) (h:Rel P S0 env m a vs) {low:Bool} (hbar:low=false→Jf9 (vs.cx S0 env m)) {k:Nat} {args:List S1} {ws:List Value} (hw:QZ P (vs.cx S0 env m) args ws) {K:Sl→VS→Option ρ} {Kp:Value→VS→Option ρ} {r:ρ} (hv:JmH C low k args vs K Kp=some r) :
  ∃c m1 env1 vs1,Cal P k ws.toArray m c m1∧Rel P S0 env1 m1 a vs1∧Stp (vs.cx S0 env m) (vs1.cx S0 env1 m1)∧((∃v x,c = .ret v∧J8 P (vs1.cx S0 env1 m1) x v∧K x vs1=some r) ∨ ∃w,c = .pnc w∧Kp w vs1=some r):=
 by
 unfold JmH at hv;cases hk:Nat.blt k 1000000 with
 | false=>rw [hk] at hv;cases hv
 | true=>
  rw [hk] at hv;cases hq:(low && !(Jb9 C (3000000+k)).isEmpty) with
  | true=>
   rw [hq] at hv;exact Jha (hC.getsR hk) h hw hv
  | false=>
   rw [hq] at hv;exact Jiw (hC.gets hk) h hbar hw hv
theorem Jdx (h:Rel P S0 env m a vs) : ∀l:List Operand,QZ P (vs.cx S0 env m) (Jh5 vs l) (l.map a.eval):=by
 intro l;induction l with
 | nil=>trivial
 | cons x l ih=>exact ⟨Joq (QE h x),ih⟩
theorem JkV {x:Sl} {k:Nat} {w:Value} (h:fnOf x=some k) (hr:J8 P X x w):w = .func (.func k) #[] #[]:=by
 unfold fnOf at h;split at h
 ·rename_i k' b c;cases hc:(b.isEmpty && c.isEmpty) with
  | false=>rw [hc] at h;cases h
  | true=>
   rw [hc] at h;cases h;simp only [Jh,Array.isEmpty_iff] at hc;obtain ⟨rfl,rfl⟩:=hc;exact hr.1
 ·cases h
def OpE (P:Program) [Orc P] (S0:Nat→Prop) (env:Env) (m:M) (a:Act) (vs:VS) (o:Oper) (K:Sl→VS→Option ρ) (Kp:Value→VS→Option ρ) (r:ρ):Prop:=
 (∃v m1 env1 x vs1,Jc2 P a o m v m1∧Rel P S0 env1 m1 a vs1∧Stp (vs.cx S0 env m) (vs1.cx S0 env1 m1)∧J8 P (vs1.cx S0 env1 m1) x v∧K x vs1=some r ∧ ∀y,Jeq o.op=some y→QS x=true→QS (vs.ev y)=true) ∨
 (∃d k l,iop P a.eval o m=some (.dfr d m)∧d.target = .fn (.func k) #[]∧QZ P (vs.cx S0 env m) l d.args.toList∧(∃c,o.op = .defer c)∧K Qn { vs with df:=(k,l)::vs.df }=some r) ∨
 (∃w m1 env1 vs1,(iop P a.eval o m=some (.pnc w m1) ∨ ∃f args,iop P a.eval o m=some (.call f args m)∧Cal P f args m (.pnc w) m1)∧Rel P S0 env1 m1 a vs1∧Stp (vs.cx S0 env m) (vs1.cx S0 env1 m1)∧Kp w vs1=some r)
theorem JpA {s:Sl} {w:Value} (h:exS s=some w):QS s=true:=by
 cases s with
 | t l=>rfl
 | v s=>cases s with
  | x=>cases h
  | a cs=>rfl
  | s c=>cases c <;> first | rfl | cases h
theorem JcU {bf:List Bf} {x:Sl} {q:(e:Ty) × List e.El} (h:Jer bf x=some q):QS x=true:=by
 unfold Jer at h;split at h
 ·rfl
 ·rfl
 ·cases h
theorem JqT {vs : VS} {o : Oper} {hot : Bool} {g : Option Bool} {x : Sl} {vs1 : VS} (h : Jll P hot vs o = some (g, x, vs1)) {y : Operand} (hy : Jeq o.op = some y) (hx : QS x = true) : QS (vs.ev y) = true := by
 unfold Jll at h;split at h
 ·rename_i r hr;cases h;cases hs : (JhH o.op || JrM vs o.op) with
  | true=>rw [hs] at hr;cases hr
  | false=>
   rw [hs] at hr;simp only [Jl] at hr;unfold Jmz at hr;split at hr
   ·rename_i hc;simp only [Jh] at hc;have hmem:y∈o.op.operands.toList:=by
     unfold Jeq at hy;split at hy <;> first | (cases hy;done) | skip
     all_goals rename_i hop
     all_goals cases hy
     all_goals simp [hop,Op.operands]
    obtain ⟨w,hw⟩:=Option.isSome_iff_exists.1 (Jdy hc.2 y hmem);exact JpA hw
   ·cases hr
 ·unfold Jeq at hy;split at hy <;> first | (cases hy;done) | skip
  ·rename_i s z f ho;cases hy;rw [ho] at h;dsimp only at h;unfold Jcl at h;split at h
   ·split at h
    ·split at h
     ·split at h
      ·cases h
      ·split at h
       ·rename_i hz;rw [hz];rfl
       ·rename_i hz;rw [hz];rfl
       ·rename_i hz;rw [hz];rfl
       ·cases h
     ·cases h
    ·cases h
   ·cases h
  ·rename_i t z ix ho;cases hy;rw [ho] at h;dsimp only at h;cases hb:Jf2 vs (vs.ev y) with
   | true=>exact Jfm hb
   | false=>
   rw [hb] at h;simp only [Jl] at h;unfold Jck at h;split at h
   ·rename_i hz;rw [hz];rfl
   ·rename_i hz;rw [hz];rfl
   ·rename_i hz;rw [hz];rfl
   ·rename_i hz;rw [hz];rfl
   split at h
   ·rename_i hl _;exact JcU hl
   ·cases h
  ·rename_i z ho;cases hy;rw [ho] at h;cases h;exact hx
  ·rename_i z ho;cases hy;rw [ho] at h;cases h;exact hx
  ·rename_i z ho;cases hy;rw [ho] at h;dsimp only at h;split at h
   ·rename_i hz;rw [hz];rfl
   ·rename_i hz;rw [hz];rfl
   ·rename_i hz;rw [hz];rfl
   ·cases h
  ·rename_i t z lo hi mx ho;cases hy;rw [ho] at h;dsimp only at h;unfold Jin at h;split at h
   ·cases h
   ·split at h
    ·rename_i hz;rw [hz];rfl
    ·rename_i hz;rw [hz];rfl
    ·rename_i hz;rw [hz];rfl
    ·split at h
     ·rename_i hl _ _ _;exact JcU hl
     ·rename_i hl _ _ _;exact JcU hl
     ·cases h
theorem JpY {x y:Option ρ} {r:ρ} (h:both x y=some r):x=some r∧y=some r:=by
 unfold both at h;split at h
 ·rename_i e;exact ⟨h,by rw [←e];exact h⟩
 ·cases h
theorem Jgk {n:Nat} {x y:Option ρ} {r:ρ} (h:Jff n x y=some r):y=some r∧(n=0→x=some r):=by
 unfold Jff at h;cases hd:decide (0<n) with
 | true=>rw [hd] at h;exact ⟨h,fun e=>by rw [e] at hd;cases hd⟩
 | false=>rw [hd] at h;obtain ⟨h1,h2⟩:=JpY h;exact ⟨h2,fun _=>h1⟩
theorem Jd9 {bx : List (List Cl)} {t : TypeId} {x y : Sl} {w u : Value} {n : Nat} (hx : J8 P X x w) (hy : J8 P X y u) (hT : Jao P X bx) (h : JlK P t X.bf x y = some n) : ∃ b, XP P t w u = some b ∧ (b = true → n = 0) := by
 have hnil : ∀{x:Sl} {w:Value},J8 P X x w→nilC x=true→w = .slice none 0 0:=by
  intro x w hx hn;unfold nilC at hn;split at hn
  ·obtain ⟨rfl,_⟩:=hx;exact Q7 hn
  ·cases hn
 have hsl : ∀{x:Sl} {w:Value} {q:(e:Ty) × List e.El},J8 P X x w→Jer X.bf x=some q → ∃b n c,w = .slice b n c∧(b=none→q.2.length=0):=by
  intro x w q hx hq;obtain ⟨e,xs⟩:=q;rcases Jb8 hT hq hx with ⟨rfl,rfl⟩|⟨i,o,sp,c,rfl,_⟩
  ·exact ⟨none,0,0,rfl,fun _=>rfl⟩
  ·exact ⟨_,_,_,rfl,fun h=>by cases h⟩
 unfold JlK at h;split at h
 ·rename_i e hu;cases hnx : nilC x with
  | true=>
   rw [hnx] at h;simp only [Jk] at h;split at h
   ·rename_i e' xs hl;cases h;obtain rfl:=hnil hx hnx
    obtain ⟨b,n,c,rfl,hb⟩:=hsl hy hl;refine ⟨b.isNone,by unfold XP;rw [hu],fun q=>hb (by cases b with | none=>rfl | some _=>cases q)⟩
   ·cases h
  | false=>
   rw [hnx] at h;simp only [Jl] at h;cases hny:nilC y with
   | false=>rw [hny] at h;cases h
   | true=>
    rw [hny] at h;simp only [Jk] at h;split at h
    ·rename_i e' xs hl;cases h;obtain rfl:=hnil hy hny
     obtain ⟨b,n,c,rfl,hb⟩:=hsl hx hl;cases b with
     | none=>exact ⟨true,by unfold XP;rw [hu];rfl,fun _=>hb rfl⟩
     | some q=>exact ⟨false,by unfold XP;rw [hu],fun q=>by cases q⟩
    ·cases h
 ·cases h
theorem JcZ : ∀{pl:List (Nat × Pt)} {env:Env} {vs vs1:VS},Rel P S0 env m a vs→Jeu pl vs=vs1 → ∃env1,Rel P S0 env1 m a vs1∧Stp (vs.cx S0 env m) (vs1.cx S0 env1 m):=by
 intro pl;induction pl with
 | nil=>intro env vs vs1 h hp;cases hp;exact ⟨env,h,Stp.refl h.T.free⟩
 | cons p pl ih=>
  intro env vs vs1 h hp;obtain ⟨k,p⟩:=p;simp only [Jeu] at hp;split at hp
  ·split at hp
   ·rename_i j e xs hc;obtain ⟨env1,k1,k2,_⟩:=h.cool (JfH hc);obtain ⟨env2,g1,g2⟩:=ih k1 hp;exact ⟨env2,g1,k2.trans h.T.free g2⟩
   ·exact ih h hp
  ·exact ih h hp
theorem Jk5 {j q:Nat} (c:Cl):QS (.v (.s (JaS j q c)))=QS (.v (.s c)):=by
 unfold JaS;split
 ·rename_i e j';cases Nat.beq j' j <;> rfl
 ·rfl
theorem Jk3 {j q:Nat} (x:Sl):QS (Jsa j q x)=QS x:=by
 cases x with
 | t l=>rfl
 | v s=>cases s with
  | x=>rfl
  | a cs=>rfl
  | s c=>exact Jk5 c
theorem JfG : ∀ (pl : List (Nat × Pt)) (vs : VS) (y : Operand), QS ((Jeu pl vs).ev y) = QS (vs.ev y) := by
 intro pl;induction pl with
 | nil=>intro vs y;rfl
 | cons p pl ih=>
  intro vs y;obtain ⟨k,p⟩:=p;simp only [Jeu];split
  ·split
   ·rename_i j e xs hc;rw [ih];cases y with
    | tmp t=>exact Jk3 _
    | _=>rfl
   ·exact ih vs y
  ·exact ih vs y
theorem Jga [Orc P] {o:Oper} {low:Bool} (ht1 : ∀t x y,o.op = .store t x y→low=false) (h:Rel P S0 env m a vs) (hbar:low=false→Jf9 (vs.cx S0 env m)) {K:Sl→VS→Option ρ} {Kp:Value→VS→Option ρ} {r:ρ}
  (plain:(match Jll P (JhQ C o) vs o with
   | some (none,x,vs1)=>K x vs1
   | some (some g,x,vs1)=>cond g (K x vs1) none
   | none=>none)=some r→(isWr o.op=true→low=false)→OpE P S0 env m a vs o K Kp r) (hv:vopD P C low vs o K=some r):OpE P S0 env m a vs o K Kp r:=by
 unfold vopD at hv;cases hlc:(low && JlT o.op) with
 | true=>rw [hlc] at hv;cases hv
 | false=>
  rw [hlc] at hv;refine plain hv (fun hw => ?_);cases low with
  | false=>rfl
  | true=>
   simp only [Bool.true_and] at hlc;unfold isWr at hw;split at hw
   ·rename_i t x y ho;exact ht1 t x y ho
   ·rw [hlc] at hw;cases hw
theorem Jc6 [Orc P] (hC : JaU P C) {o : Oper} (h : Rel P S0 env m a vs) {low : Bool} (hbar : low = false → Jf9 (vs.cx S0 env m)) {K : Sl → VS → Option ρ} {Kp : Value → VS → Option ρ} {r : ρ} (hv : vop P C low vs o K Kp = some r) : OpE P S0 env m a vs o K Kp r := by
 have plain : ∀{env:Env} {vs:VS},Rel P S0 env m a vs→(low=false→Jf9 (vs.cx S0 env m))→(match Jll P (JhQ C o) vs o with
   | some (none,x,vs1)=>K x vs1
   | some (some g,x,vs1)=>cond g (K x vs1) none
   | none=>none)=some r→(isWr o.op=true→low=false)→OpE P S0 env m a vs o K Kp r:=by
  intro env vs h hbar hv hst;have fin : ∀{g x vs1},Jll P (JhQ C o) vs o=some (g,x,vs1)→Jbt g→K x vs1=some r→OpE P S0 env m a vs o K Kp r:=by
   intro g x vs1 h1 hg hK;obtain ⟨v,m1,env1,h2,h3,h4,h5⟩:=JmC h (fun hs=>hbar (hst hs)) h1 hg;refine .inl ⟨v,m1,env1,x,vs1, ?_,h3,h4,h5,hK,fun y hy hx=>JqT h1 hy hx⟩;rcases h2 with h2|⟨h2,rfl⟩
   ·exact .inl h2
   ·exact .inr (.inl ⟨h2,rfl⟩)
  split at hv
  ·rename_i x vs1 h1;exact fin h1 (fun b hb=>by cases hb) hv
  ·rename_i g x vs1 h1;cases g with
   | false=>cases hv
   | true=>exact fin h1 (fun b hb=>by cases hb;rfl) hv
  ·cases hv
 unfold vop at hv;split at hv
 ·rename_i c x y ho;have hc:=QE h c;split at hv
  ·rename_i t hct;rw [hct] at hc;have hc':a.eval c = .bool t:=hc.1
   have hi:iop P a.eval o m=some (.val (if t then a.eval x else a.eval y) m):=by unfold iop;rw [ho];dsimp only;rw [hc']
   cases t with
   | true=>exact .inl ⟨_,m,env,vs.ev x,vs,.inl hi,h,Stp.refl h.T.free,QE h x,hv,fun y hy=>by rw [ho] at hy;cases hy⟩
   | false=>exact .inl ⟨_,m,env,vs.ev y,vs,.inl hi,h,Stp.refl h.T.free,QE h y,hv,fun y hy=>by rw [ho] at hy;cases hy⟩
  ·cases hv
 ·rename_i x ho;split at hv
  ·rename_i t v hx;have:=Jl1 hx (QE h x)
   exact .inr (.inr ⟨_,m,env,vs,.inl (by unfold iop;rw [ho];dsimp only;rw [this]),h,Stp.refl h.T.free,hv⟩)
  ·cases hv
 ·rename_i c ho;split at hv
  ·rename_i f hc;split at hv
   ·rename_i k hk;have hf:=JkV hk (QE h f);refine .inr (.inl ⟨{ target := .fn (.func k) #[],args := #[]++c.args.map a.eval },k,_, ?_,rfl, ?_,⟨c,ho⟩,hv⟩)
    ·unfold iop;rw [ho];dsimp only;unfold Jfw;rw [hc];dsimp only;rw [hf]
    ·have:=Jdx h c.args.toList
     simpa using this
   ·cases hv
  ·cases hv
 ·rename_i f args ats ho;split at hv
  ·rename_i k hk;split at hv
   case isFalse hnok =>
    split at hv
    ·rename_i v mm hi;split at hi
     case isFalse=>cases hi
     rename_i hall;have hf:=JkV hk (QE h f);have hcong : ∀m,iop P a.eval o m=iop P (evV vs) o m:=fun m=>Jfq fun y hy=>by
      have hsome:=Jdy hall y (by simpa using hy);obtain ⟨w,hw⟩:=Option.isSome_iff_exists.1 hsome;have:=Jl1 hw (QE h y)
      rw [this];unfold evV;rw [hw];rfl
     rw [←hcong] at hi;have hncl : ∀fn,P.funcs[k]? = some fn → ¬(JhJ fn=true):=by
      intro fn hfn hcl;unfold iop at hi;rw [ho] at hi;dsimp only at hi;unfold JaT at hi;dsimp only at hi;rw [hf] at hi;dsimp only at hi;unfold okFn at hnok;rw [hfn] at hnok hi;dsimp only at hnok hi;rw [Jd hnok,Jf hcl,Jps] at hi;cases hi
     have hfl : ∀m,iop P a.eval o m=QT P a.eval o m∨iop P a.eval o m=none:=by
      intro m;unfold iop;rw [ho];dsimp only;unfold JaT;dsimp only;rw [hf];dsimp only;unfold okFn at hnok;cases hfn:P.funcs[k]? with
      | none=>exact .inr rfl
      | some fn=>
       have hq:=hncl fn hfn;rw [hfn] at hnok;dsimp only at hnok ⊢;rw [Jd hnok,Jd hq];exact .inl rfl
     rcases hfl M0 with q | q
     ·rw [q] at hi;obtain ⟨v', h1, h2⟩ := Xq hi;cases h1;have hne : iop P a.eval o m = some (.val v m) := by
       rcases hfl m with q2 | q2
       ·rw [q2];exact h2 m
       ·exfalso
        have q3:iop P a.eval o M0=none:=by
         unfold iop at q2 ⊢;rw [ho] at q2 ⊢;dsimp only at q2 ⊢;unfold JaT at q2 ⊢;dsimp only at q2 ⊢;rw [hf] at q2 ⊢;dsimp only at q2 ⊢;unfold okFn at hnok;cases hfn:P.funcs[k]? with
         | none=>rfl
         | some fn=>
          have hq:=hncl fn hfn;rw [hfn] at hnok q2;dsimp only at hnok q2 ⊢;rw [Jd hnok,Jd hq] at q2;rw [h2 m] at q2;cases q2
        rw [q,h2 M0] at q3;cases q3
      exact .inl ⟨v,m,env,ofV v,vs,.inl hne,h,Stp.refl h.T.free,JdO v,hv,fun y hy=>by rw [ho] at hy;cases hy⟩
     ·rw [q] at hi;cases hi
    ·cases hv
   ·rename_i hokf;have hf:=JkV hk (QE h f);have hcl : ∃c m1 env1 vs1,Cal P k (args.toList.map a.eval).toArray m c m1∧Rel P S0 env1 m1 a vs1∧Stp (vs.cx S0 env m) (vs1.cx S0 env1 m1)∧((∃v x,c = .ret v∧J8 P (vs1.cx S0 env1 m1) x v∧K x vs1=some r) ∨ ∃w,c = .pnc w∧Kp w vs1=some r):=by
     cases hle:(JsZ C o.dst && Nat.blt k 1000000) with
     | false=>rw [hle] at hv;exact JeT hC h hbar (Jdx h args.toList) hv
     | true=>
      rw [hle] at hv;obtain ⟨c,m1,env1,vs1,h1,h2,h3,h4⟩:=Jir (hC.gets ((Jh _ _).mp hle).2) h (Jdx h args.toList) hv;exact ⟨c,m1,env1,vs1,h1,h2,h3,.inl h4⟩
    obtain ⟨c,m1,env1,vs1,h1,h2,h3,h4⟩:=hcl;have hi:iop P a.eval o m=some (.call k (args.toList.map a.eval).toArray m):=by
     unfold iop;rw [ho];dsimp only;unfold JaT;dsimp only;rw [hf];dsimp only;unfold okFn at hokf;split at hokf
     ·rename_i fn hfn;rw [hfn];dsimp only;rw [Jf hokf];simp [List.map_toArray]
      apply Array.ext';simp
     ·cases hokf
    rcases h4 with ⟨v,x,rfl,h5,h6⟩|⟨w,rfl,h5⟩
    ·exact .inl ⟨v,m1,env1,x,vs1,.inr (.inr ⟨_,_,_,hi,h1⟩),h2,h3,h5,h6,fun y hy=>by rw [ho] at hy;cases hy⟩
    ·exact .inr (.inr ⟨w,m1,env1,vs1,.inr ⟨_,_,hi,h1⟩,h2,h3,h5⟩)
  ·cases hv
 ·rename_i rv name args ats ho;split at hv
  ·rename_i t j off hx;have hrv:=QE h rv;rw [hx] at hrv;obtain ⟨u1,i,u2,u3,u4⟩:=hrv;have fin : ∀{k:FuncId} {s:S1} {w:Value},iop P a.eval o m=some (.call k (#[w]++args.map a.eval) m)→Ja3 P (vs.cx S0 env m) s w→JmH C low k (s::Jh5 vs args.toList) vs K Kp=some r→OpE P S0 env m a vs o K Kp r:=fun {k s w} hi hs hv=>by
    obtain ⟨c,m1,env1,vs1,h1,h2,h3,h4⟩:=JeT hC h hbar (args:=s::Jh5 vs args.toList) (ws:=w::args.toList.map a.eval) ⟨hs,Jdx h args.toList⟩ hv;have hi':iop P a.eval o m=some (.call k (w::args.toList.map a.eval).toArray m):=by
     rw [hi];have:(#[w]++args.map a.eval:Array Value)=(w::args.toList.map a.eval).toArray:=by apply Array.ext';simp
     rw [this]
    rcases h4 with ⟨v,x,rfl,h5,h6⟩|⟨w,rfl,h5⟩
    ·exact .inl ⟨v,m1,env1,x,vs1,.inr (.inr ⟨_,_,_,hi',h1⟩),h2,h3,h5,h6,fun y hy=>by rw [ho] at hy;cases hy⟩
    ·exact .inr (.inr ⟨w,m1,env1,vs1,.inr ⟨_,_,hi',h1⟩,h2,h3,h5⟩)
   split at hv
   ·rename_i k e him;refine fin (s := .s (.p j off)) (w := .pointer (some ⟨i,off,none⟩)) ?_ ⟨u1,i,rfl,u3,u4⟩ hv;unfold iop;rw [ho];dsimp only;unfold JaT;dsimp only;unfold JbC;rw [u2];dsimp only;rw [him]
   ·rename_i k e him;split at hv
    ·rename_i g s vs2 hl;obtain ⟨_,_,v,h1,h2⟩:=JcM h (x := .v (.s (.p j off))) (w := .pointer (some ⟨i,off,none⟩)) ⟨u1,i,rfl,u3,u4⟩ hl;refine fin ?_ h2 hv;unfold iop;rw [ho];dsimp only;unfold JaT;dsimp only;unfold JbC;rw [u2];dsimp only;rw [him];dsimp only;rw [h1];rfl
    ·cases hv
   ·cases hv
  ·cases hv
 ·rename_i t x y u ho;split at hv
  ·rename_i n hn;obtain ⟨h1,h2⟩:=Jgk hv;obtain ⟨b,hb,hb0⟩:=Jd9 (QE h x) (QE h y) h.T hn;have hi:iop P a.eval o m=some (.val (.bool b) m):=by unfold iop;rw [ho];dsimp only;rw [hb]
   refine .inl ⟨_,m,env,.v (.s (.c (.bool b))),vs,.inl hi,h,Stp.refl h.T.free,⟨rfl,rfl⟩, ?_,fun y hy=>by rw [ho] at hy;cases hy⟩
   cases b with
   | true=>exact h2 (hb0 rfl)
   | false=>exact h1
  ·exact plain h hbar hv (fun ho'=>by rw [ho] at ho';cases ho')
 ·rename_i t x y u ho;split at hv
  ·rename_i n hn;obtain ⟨h1,h2⟩:=Jgk hv;obtain ⟨b,hb,hb0⟩:=Jd9 (QE h x) (QE h y) h.T hn;have hi:iop P a.eval o m=some (.val (.bool (!b)) m):=by unfold iop;rw [ho];dsimp only;rw [hb]
   refine .inl ⟨_,m,env,.v (.s (.c (.bool (!b)))),vs,.inl hi,h,Stp.refl h.T.free,⟨rfl,rfl⟩, ?_,fun y hy=>by rw [ho] at hy;cases hy⟩
   cases b with
   | true=>exact h2 (hb0 rfl)
   | false=>exact h1
  ·exact plain h hbar hv (fun ho'=>by rw [ho] at ho';cases ho')
 ·rename_i t x y ho;cases low with
  | true=>cases hv
  | false=>exact plain h hbar hv (fun _=>rfl)
 ·rename_i h1 h2 h3 h4 h5 h6 h7 h8;cases hmo : Jfn o.op with
  | true =>
   rw [hmo] at hv;simp only [Jk] at hv;unfold JtM at hv;cases hll:(low && !Jdi o.op) with
   | true=>rw [hll] at hv;cases hv
   | false =>
    rw [hll] at hv;simp only [Jl] at hv;split at hv
    ·rename_i x vs1 hx;have hg:(∀g,Jpu vs o.op=some g→g=true)∧K x vs1=some r:=by
      split at hv
      ·rename_i hn;exact ⟨(fun g q=>by rw [hn] at q;cases q),hv⟩
      ·rename_i g hn;cases g with
       | true=>exact ⟨(fun g q=>by rw [hn] at q;cases q;rfl),hv⟩
       | false=>cases hv
     obtain ⟨hg,hv⟩:=hg;obtain ⟨v,m1,env1,g1,g2,g3,g4⟩:=JmD hmo h (fun hl=>hbar (by rw [hl] at hll;cases low <;> first | rfl | cases hll)) hx hg
     refine .inl ⟨v,m1,env1,x,vs1, ?_,g2,g3,g4,hv,fun y hy=>by rw [Jno hmo] at hy;cases hy⟩
     rcases g1 with g1|⟨g1,rfl⟩
     ·exact .inl g1
     ·exact .inr (.inl ⟨g1,rfl⟩)
    ·cases hv
  | false=>
  rw [hmo] at hv;simp only [Jl] at hv;cases hstat:Jov C o with
  | true=>
   rw [hstat] at hv;simp only [Jk] at hv;unfold Jn9 at hv;split at hv
   ·rename_i t l c ho;split at hv
    ·rename_i x vs1 hx;obtain ⟨v,m1,env1,g1,g2,g3,g4⟩:=JjS h (QE h l) (QE h c) hx;refine .inl ⟨v,m1,env1,x,vs1,.inl ?_,g2,g3,g4,hv,fun y hy=>by rw [ho] at hy;cases hy⟩
     unfold iop;rw [ho];dsimp only;rw [g1];rfl
    ·cases hv
   ·cases hv
  | false=>
  rw [hstat] at hv;simp only [Jl] at hv;cases hcd:JpG C o with
  | false=>
   rw [hcd] at hv;exact Jga (fun t x y ho=>absurd ho (h8 t x y)) h hbar (plain h hbar) hv
  | true=>
   rw [hcd] at hv;obtain ⟨env1,k1,k2⟩:=JcZ h (rfl:Jeu (opPl o.op.operands.toList) vs=_);have hb2:low=false→Jf9 ((Jeu (opPl o.op.operands.toList) vs).cx S0 env1 m):=fun hl=>k2.bars h.T.bar (hbar hl)
   rcases Jga (fun t x y ho=>absurd ho (h8 t x y)) k1 hb2 (plain k1 hb2) hv with ⟨v,m1,env2,x,vs1,g1,g2,g3,g4,g5,g6⟩|⟨d,k,l,g1,g2,g3,⟨c,g4⟩,g5⟩|⟨w,m1,env2,vs1,g1,g2,g3,g4⟩
   ·exact .inl ⟨v,m1,env2,x,vs1,g1,g2,k2.trans h.T.free g3,g4,g5,fun y hy hx=>by have:=g6 y hy hx;rwa [JfG] at this⟩
   ·exact absurd g4 (h3 c)
   ·exact .inr (.inr ⟨w,m1,env2,vs1,g1,g2,k2.trans h.T.free g3,g4⟩)
theorem Rel.put (h:Rel P S0 env m a vs) {d:Option Tmp} (hf:vs.fits d=true) {x:Sl} {v:Value} (hx:J8 P (vs.cx S0 env m) x v):Rel P S0 env m (a.put d v) (vs.put d x):=by
 cases d with
 | none=>exact h
 | some d=>
  have hd:d<vs.N:=JC hf;refine ⟨h.T,by show vs.N≤(a.tmps.setIfInBounds d v).size;rw [Array.size_setIfInBounds];exact h.size,fun i => ?_,h.df⟩
  show J8 P _ (bif Nat.beq i d then x else vs.sl i) ((a.tmps.setIfInBounds d v).getD i undef);cases hb:Nat.beq i d with
  | true=>
   have:=Jr hb
   subst this;rw [JH, JL,Jf rfl,Jf (Jt hd h.size)];exact hx
  | false=>
   have hne:=Nat.ne_of_beq_eq_false hb;rw [JH, JL,Jd (Ne.symm hne),←Array.getD_eq_getD_getElem?];exact h.sl i
theorem JaB:J8 P X Qn undef:=⟨#[],rfl,trivial⟩
theorem Rel.setB (h:Rel P S0 env m a vs) {d:Nat} {b:Bool} (hd:vs.sl d = .v (.s (.c (.bool b)))):Rel P S0 env m a (vs.setB d b):=by
 refine ⟨h.T,h.size,fun i => ?_,h.df⟩;show J8 P _ (bif Nat.beq i d then _ else vs.sl i) _;cases hb:Nat.beq i d with
 | true=>
  have:=Jr hb
  subst this;have h2:=h.sl i;rw [hd] at h2;exact h2
 | false=>exact h.sl i
def Jd0 (vs vs1:VS):Prop:=vs1.bf=vs.bf∧vs1.bx=vs.bx∧vs1.N=vs.N ∧ ∀t,vs1.sl t=vs.sl t ∨ ∃b,vs1.sl t = .v (.s (.c (.bool b)))
theorem Jd0.refl (vs:VS):Jd0 vs vs:=⟨rfl,rfl,rfl,fun _ => .inl rfl⟩
theorem Jd0.setB (vs:VS) (d:Nat) (b:Bool):Jd0 vs (vs.setB d b):=⟨rfl,rfl,rfl,fun t=>by
 show (bif Nat.beq t d then _ else vs.sl t)=_∨_;cases hb:Nat.beq t d with
 | true=>exact .inr ⟨b,by show (bif Nat.beq t d then _ else vs.sl t)=_;rw [hb];rfl⟩
 | false=>exact .inl rfl⟩
theorem Jd0.cx {vs vs1:VS} (h:Jd0 vs vs1) (S0:Nat→Prop) (env:Env) (m:M):vs1.cx S0 env m=vs.cx S0 env m:=by
 unfold VS.cx VS.S;rw [h.1,h.2.1]
theorem JbT (h : Rel P S0 env m a vs) {ops : Array Oper} {o : Oper} {run skip : VS → Option ρ} {r : ρ} (hv : Jlo vs ops o run skip = some r) :
  ∃vs1,Rel P S0 env m a vs1∧Jd0 vs vs1∧((Region.wanted o (yielded ops a.tmps)=true∧run vs1=some r)∨(Region.wanted o (yielded ops a.tmps)=false∧skip vs1=some r)):=by
 unfold Jlo at hv;unfold Region.wanted;split at hv
 ·rename_i hg;rw [hg];exact ⟨vs,h,Jd0.refl vs,.inl ⟨rfl,hv⟩⟩
 ·rename_i j want hg;rw [hg];dsimp only;split at hv
  ·rename_i d hd;cases hb : Nat.blt d vs.N with
   | false=>rw [hb] at hv;cases hv
   | true=>
    rw [hb] at hv;simp only [Jk] at hv;have hd':d<a.tmps.size:=Jt (JC hb) h.size
    have hsl:=h.sl d;have hget:a.tmps[d]? = some (a.tmps.getD d undef):=by
     rw [JH, Array.getElem?_eq_getElem hd'];rfl
    have hy : ∀v,a.tmps.getD d undef=v→yielded ops a.tmps j=(match v with | .bool b=>some b | _=>none):=by
     intro v hv;unfold yielded;rw [hd];simp only [Jb];rw [hget,hv];cases v <;> rfl
    split at hv
    ·rename_i b hsb;rw [hsb] at hsl;have hv2:=hy _ hsl.1;rw [hv2];cases want with
     | true=>cases b with
      | true=>exact ⟨_,h.setB hsb,Jd0.setB _ _ _,.inl ⟨rfl,hv⟩⟩
      | false=>exact ⟨_,h.setB hsb,Jd0.setB _ _ _,.inr ⟨rfl,hv⟩⟩
     | false=>cases b with
      | true=>exact ⟨_,h.setB hsb,Jd0.setB _ _ _,.inr ⟨rfl,hv⟩⟩
      | false=>exact ⟨_,h.setB hsb,Jd0.setB _ _ _,.inl ⟨rfl,hv⟩⟩
    ·rename_i hsb;rw [hsb] at hsl;obtain ⟨b,hb2,_⟩:=hsl;have hv2:=hy _ hb2;rw [hv2];exact ⟨vs,h,Jd0.refl vs,.inr ⟨rfl,hv⟩⟩
    ·cases hv
  ·cases hv
end Go.IM.V
namespace Go.IM.V
open Go Go.IM
variable {P:Program} {m m1:M} {S0:Nat→Prop} {env env1:Env} {a:Act} {vs:VS} {X Y:Cx} {ρ:Type} {C:Tab}
theorem QU (tm:Array Value) (ds ds':List Deferred):(⟨tm,ds⟩:Act).eval=(⟨tm,ds'⟩:Act).eval:=by funext x;cases x <;> rfl
theorem Qu (tm:Array Value) (ds ds':List Deferred) (d:Option Tmp) (v:Value):(⟨tm,ds⟩:Act).put d v=⟨((⟨tm,ds'⟩:Act).put d v).tmps,ds⟩:=by cases d <;> rfl
theorem Jau (a:Act) (d:Option Tmp) (v:Value):(a.put d v).tmps.size=a.tmps.size:=by
 cases d with
 | none=>rfl
 | some d=>exact Array.size_setIfInBounds
theorem Jc2.defers [Orc P] {tm:Array Value} {ds ds':List Deferred} {o:Oper} {v:Value} (h:Jc2 P ⟨tm,ds⟩ o m v m1):Jc2 P ⟨tm,ds'⟩ o m v m1:=by
 unfold Jc2 at h ⊢;rw [QU tm ds' ds];exact h
theorem Rel.slots {vs1:VS} (h:Rel P S0 env1 m1 a vs1) (h0:Rel P S0 env m a vs) (hs:Stp (vs.cx S0 env m) (vs1.cx S0 env1 m1)):Rel P S0 env1 m1 a { vs1 with sl:=vs.sl }:=
 ⟨h.T,h.size,fun i=>(h0.sl i).le hs.le,h.df⟩
theorem Qw {b:Bool} {x:Option ρ} {r:ρ} (h:cond b x none=some r):b=true∧x=some r:=by
 cases b with
 | true=>exact ⟨rfl,h⟩
 | false=>cases h
theorem Jkk {x:Int} {K:Int→Option ρ} {r:ρ} : ∀{n lo:Nat},Jlw x K lo n=some r→K x=some r:=by
 intro n;induction n with
 | zero=>intro lo h;cases h
 | succ n ih=>
  intro lo h;simp only [Jlw] at h;by_cases hx:x = .ofNat lo
  ·rw [Jc hx] at h;rw [hx];exact h
  ·rw [Js hx] at h;exact ih h
theorem Jki {x:ByteArray} {K:ByteArray→Option ρ} {r:ρ} : ∀{ks:List ByteArray},Jlv x K ks=some r→K x=some r:=by
 intro ks;induction ks with
 | nil=>intro h;cases h
 | cons q ks ih=>
  intro h;simp only [Jlv] at h;cases hq:(x == q) with
  | true=>rw [hq] at h;rw [(MapKept.bytes_beq _ _).1 hq];exact h
  | false=>rw [hq] at h;exact ih h
theorem X4 {s:Option (Nat × Nat × List ByteArray)} {x:Sl} {K:Sl→Option ρ} {r:ρ} (h:Jlx s x K=some r):K x=some r:=by
 unfold Jlx at h;split at h
 ·exact h
 ·split at h
  ·exact Jkk (K:=fun y=>K (.v (.s (.c (.int _ y))))) h
  ·rename_i ks _ x;cases hk:ks.isEmpty with
   | true=>rw [hk] at h;exact h
   | false=>rw [hk] at h;exact Jki (K:=fun y=>K (.v (.s (.c (.string y))))) h
  ·exact h
theorem JmA [Orc P] (hC : JaU P C) {ops : Array Oper} (D : List Deferred) {K : VS → Option ρ} {Kp : Value → VS → Option ρ} {r : ρ} {lo : Bool} : ∀ (l : List Nat) {env : Env} {m : M} {tm : Array Value} {ds : List Deferred} {vs : VS}, Joe P C false (fun _ => lo) ops l vs K Kp = some r → Rel P S0 env m ⟨tm, ds⟩ vs → (lo = false → Jf9 (vs.cx S0 env m)) →
  ∃e tm1 ds1 m1 env1 vs1,Ops P ops l ⟨tm,ds++D⟩ m e ⟨tm1,ds1++D⟩ m1∧Rel P S0 env1 m1 ⟨tm1,ds1⟩ vs1∧Stp (vs.cx S0 env m) (vs1.cx S0 env1 m1)∧tm1.size=tm.size∧((e = .normal∧K vs1=some r) ∨ ∃w,e = .pnc w∧Kp w vs1=some r):=by
 intro l;induction l with
 | nil=>intro env m tm ds vs hv h hb;exact ⟨.normal,tm,ds,m,env,vs,Ops.nil,h,Stp.refl h.T.free,rfl,.inl ⟨rfl,hv⟩⟩
 | cons i rest ih =>
  intro env m tm ds vs hv h hb;simp only [Joe] at hv;split at hv
  ·cases hv
  ·rename_i o ho;obtain ⟨hok, hv⟩ := Qw hv;obtain ⟨vs', h', hsame, hv⟩ := JbT h hv;have hcx' := hsame.cx S0 env m
   rw [←hcx'] at hb ⊢;clear h hsame hcx';have h:=h';rcases hv with ⟨hw,hv⟩|⟨hw,hv⟩
   ·rcases Jc6 hC h (low:=lo) hb hv with ⟨v,m1,env1,x,vs1,h1,h2,h3,h4,h5,_⟩|⟨d,k,l,h1,h2,h3,_,h5⟩|⟨w,m1,env1,vs1,h1,h2,h3,h5⟩
    ·obtain ⟨hfit1,h5⟩:=Qw (X4 h5);have h6:=h2.put hfit1 h4;have h5:Joe P C false (fun _=>lo) ops rest (vs1.put o.dst x) K Kp=some r:=h5;rw [Qu tm ds ds] at h6;have hcx:(vs1.put o.dst x).cx S0 env1 m1=vs1.cx S0 env1 m1:=by cases o.dst <;> rfl
     have hb1:=fun q=>h3.bars h.T.bar (hb q)
     obtain ⟨e,tm2,ds2,m2,env2,vs2,g1,g2,g3,g4,g5⟩:=ih h5 h6 (by rw [hcx];exact hb1)
     rw [hcx] at g3;refine ⟨e,tm2,ds2,m2,env2,vs2, ?_,g2,h3.trans h.T.free g3,by rw [g4];exact Jau _ _ _,g5⟩
     have hp2:(⟨tm,ds++D⟩:Act).put o.dst v=⟨((⟨tm,ds⟩:Act).put o.dst v).tmps,ds++D⟩:=Qu _ _ _ _ _;rw [←hp2] at g1;rcases Jc2.defers (ds':=ds++D) h1 with h7|⟨h7,rfl⟩|⟨f,args,m0,h7,h8⟩
     ·exact Ops.val ho hw hok h7 g1
     ·exact Ops.skip ho hw hok h7 g1
     ·exact Ops.call' ho hw hok h7 h8 g1
    ·obtain ⟨hfit1,h5⟩:=Qw (X4 h5);have h5:Joe P C false (fun _=>lo) ops rest (({ vs' with df:=(k,l)::vs'.df }:VS).put o.dst Qn) K Kp=some r:=h5;have h6:Rel P S0 env m ⟨tm,d::ds⟩ { vs' with df:=(k,l)::vs'.df }:=⟨h.T,h.size,h.sl,h2,h3,h.df⟩;have h7:Rel P S0 env m ⟨((⟨tm,d::ds⟩:Act).put o.dst undef).tmps,d::ds⟩ (({ vs' with df:=(k,l)::vs'.df }:VS).put o.dst Qn):=by
      have:=h6.put (d:=o.dst) (x:=Qn) (v:=undef) hfit1 JaB
      rw [Qu tm (d::ds) (d::ds)] at this;exact this
     have hcx:(({ vs' with df:=(k,l)::vs'.df }:VS).put o.dst Qn).cx S0 env m=vs'.cx S0 env m:=by cases o.dst <;> rfl
     obtain ⟨e,tm2,ds2,m2,env2,vs2,g1,g2,g3,g4,g5⟩:=ih h5 h7 (by rw [hcx];exact hb)
     rw [hcx] at g3;refine ⟨e,tm2,ds2,m2,env2,vs2, ?_,g2,g3,by rw [g4];exact Jau _ _ _,g5⟩
     refine Ops.dfr (m1:=m) (d:=d) ho hw hok (by rw [QU tm (ds++D) ds];exact h1) ?_
     have hp2:(⟨tm,d::(ds++D)⟩:Act).put o.dst undef=⟨((⟨tm,d::ds⟩:Act).put o.dst undef).tmps,(d::ds)++D⟩:=Qu _ _ _ _ _;rw [←hp2] at g1;exact g1
    ·refine ⟨.pnc w,tm,ds,m1,env1,vs1, ?_,h2,h3,rfl,.inr ⟨w,rfl,h5⟩⟩;rcases h1 with h1|⟨f,args,h1,h6⟩
     ·exact Ops.pnc ho hw hok (by rw [QU tm (ds++D) ds];exact h1)
     ·exact Ops.call_pnc ho hw hok (by rw [QU tm (ds++D) ds];exact h1) h6
   ·obtain ⟨hfit,hv⟩:=Qw hv;have h6:=h.put hfit JaB;rw [Qu tm ds ds] at h6;have hcx:(vs'.put o.dst Qn).cx S0 env m=vs'.cx S0 env m:=by cases o.dst <;> rfl
    obtain ⟨e,tm2,ds2,m2,env2,vs2,g1,g2,g3,g4,g5⟩:=ih hv h6 (by rw [hcx];exact hb)
    rw [hcx] at g3;refine ⟨e,tm2,ds2,m2,env2,vs2, ?_,g2,g3,by rw [g4];exact Jau _ _ _,g5⟩
    have hp2:(⟨tm,ds++D⟩:Act).put o.dst undef=⟨((⟨tm,ds⟩:Act).put o.dst undef).tmps,ds++D⟩:=Qu _ _ _ _ _;rw [←hp2] at g1;exact Ops.unwanted ho hw g1
theorem Jac.rebar (X:Cx) (b:Nat):Jac X { X with m:=X.m.rebar b }:=⟨fun i r hr hS=>⟨hr,hS⟩,Je _,fun _ _=>rfl,fun j b hb=>⟨b.live,hb,rfl⟩,fun _ _ h=>h,fun _ _ _ h=>h,fun _ h=>h,fun _ h=>h,Je _,fun _ _ h=>h⟩
theorem Jao.rebar {bx : List (List Cl)} (h : Jao P X bx) {b : Nat} (hb : b ≤ X.m.nxt) : Jao P { X with m := X.m.rebar b } bx := by
 have hle:=Jac.rebar X b;refine ⟨h.free,hb,h.nb,h.has,h.len,h.inS,h.slt,fun j c hj => ?_,h.bfd,fun j cs hj => ?_,h.bxd,h.φS,h.φd,h.rts,⟨h.unq.one,h.unq.le⟩⟩
 ·obtain ⟨h1,h2⟩:=h.bf j c hj;refine ⟨h1, ?_⟩;show (match X.env.τ j with | none=>_ | some i=>_);cases hq:X.env.τ j with
  | none=>rw [hq] at h2;exact h2
  | some i=>
   rw [hq] at h2;obtain ⟨g1,k,c',e,fr,g2,g3,g4,g5,g6,g7,g8⟩:=h2;exact ⟨g1,k,c',e,fr,g2,g3,g4,g5,g6,fun q x hx=>QR.mono hle.mono (g7 q x hx),g8⟩
 ·have hB := h.bx j cs hj;have runle : ∀ {arr : Bool} {e : Ty} {xs : List e.El}, JaA P X j arr e xs → JaA P { X with m := X.m.rebar b } j arr e xs := by
   intro arr e xs hr;refine ⟨hr.1,fun hne => ?_⟩;obtain ⟨k,c,eo,fr,g1,g2,g3,g4,g5,g6,g7,g8,g9⟩:=hr.2 hne;exact ⟨k,c,eo,fr,g1,g2,g3,g4,g5,g6,g7,fun q x hx=>QR.mono hle.mono (g8 q x hx),g9⟩
  cases hrun:J9 cs with
  | false=>
   obtain ⟨k,c',e,fr,g2,g3,g4,g5,g6,g7⟩:=hB.cel hrun;exact Qy.of hrun ⟨k,c',e,fr,g2,g3,g4,g5,g6,g7.le hle⟩
  | true=>
   unfold Qy at hB ⊢;split at hB
   ·trivial
   ·exact runle hB
   ·exact ⟨runle hB.1,hB.2⟩
   ·obtain ⟨k,es,g2,g3,g4,g5,g6,g7⟩:=hB;exact ⟨k,es,g2,g3,g4,g5,g6,g7.le hle⟩
   ·exact hB
   ·obtain ⟨k,es,ck,g2,g3,g4,g5,g6,g7⟩:=hB;exact ⟨k,es,ck,g2,g3,g4,g5,g6,g7.mono hle.mono⟩
   ·cases hs:cs.any Qh with
    | true=>
     rw [hs] at hB;obtain ⟨k,ws,g2,g4,g5,g6,g7,g8⟩:=hB;exact ⟨k,ws,g2,g4,g5,g6,g7.le hle,g8⟩
    | false=>
     rw [hs] at hB;obtain ⟨k,c',e,fr,g2,g3,g4,g5,g6,g7⟩:=hB;exact ⟨k,c',e,fr,g2,g3,g4,g5,g6,g7.le hle⟩
theorem Rel.rebar (h:Rel P S0 env m a vs) {b:Nat} (hb:b≤m.nxt):Rel P S0 env (m.rebar b) a vs:=
 ⟨h.T.rebar hb,h.size,fun i=>(h.sl i).le (Jac.rebar _ b),h.df.le (Jac.rebar _ b)⟩
theorem Stp.rebar {vs1:VS} {b:Nat} (h:Stp (vs.cx S0 env (m.rebar b)) (vs1.cx S0 env1 m1)):Stp (vs.cx S0 env m) (vs1.cx S0 env1 (m1.rebar m.bar)):=
 ⟨⟨rfl,h.fr.nxt,h.fr.free,h.fr.al,h.fr.old,h.fr.new,h.fr.get,h.fr.rts,fun r u=>⟨(h.fr.unq r ⟨u.one,u.le⟩).one,(h.fr.unq r ⟨u.one,u.le⟩).le⟩,h.fr.ty⟩,⟨h.le.mono,h.le.nb,h.le.β,h.le.bf,h.le.has,h.le.len,h.le.s0,h.le.φ,h.le.nxt,h.le.ty⟩,h.wb,h.wl⟩
theorem JsK (h : Rel P S0 env m a vs) {o : Oper} {hot : Bool} {g : Option Bool} {x : Sl} {vs1 : VS} (h1 : Jll P hot vs o = some (g, x, vs1)) {j : Nat} (ht : Jah a.eval o = some j) : ∃ x, Jcb o = some x ∧ QS (vs.ev x) = true := by
 have hnf : ∀{x:Operand} {w:Value},exS (vs.ev x)=some w→a.eval x=w:=fun hx=>Jl1 hx (QE h _)
 have pure : ∀ {g x vs1}, Jmz P vs o = some (g, x, vs1) → False := by
  intro g x vs1 hp;unfold Jmz at hp;split at hp
  ·rename_i hc;simp only [Jh] at hc;have hk : JS P o = .p ∨ Jfo o.op = true := by
    have:=hc.1
    rw [Bool.or_eq_true] at this;rcases this with q | q
    ·exact .inl (Jte q)
    ·exact .inr q
   have hall:=Jdy hc.2;unfold Jah at ht;split at ht
   ·rename_i t y ho;unfold JS at hk;rw [ho] at hk;rcases hk with hk | hk <;> cases hk
   ·rename_i t y lo hi mx ho;unfold JS at hk;rw [ho] at hk;rcases hk with hk | hk <;> cases hk
   ·rename_i s d y ho;unfold JS at hk;rw [ho] at hk;rcases hk with hk | hk
    case inr=>cases hk
    dsimp only at hk;split at hp
    ·rename_i v mm hi;unfold iop at hi;rw [ho] at hi;dsimp only at hi;have hy : a.eval y = evV vs y := by
      obtain ⟨w,hw⟩:=Option.isSome_iff_exists.1 (hall y (by rw [ho];simp [Op.operands]))
      rw [hnf hw];unfold evV;rw [hw];rfl
     rw [hy] at ht;split at ht
     ·rename_i q n c hq;rw [hq] at hi;unfold Q9 at hi;split at hi
      ·rename_i hx;cases hx
      ·split at hi
       ·exfalso;simp [*] at hk
       ·cases hi
      ·exfalso;simp [*] at hk
      ·unfold QT XW at hi;rw [ho] at hi;split at hi
       ·rename_i hq2;simp only [Op.operands,Array.all_eq_true'] at hq2;have:=hq2 y (by simp)
        rw [hq] at this;cases this
       ·cases hi
     ·cases ht
    ·cases hp
   ·rename_i ho;unfold JS at hk;rw [ho] at hk;rcases hk with hk | hk <;> cases hk
   ·cases ht
  ·cases hp
 ·unfold Jll at h1;split at h1
  ·rename_i rr hr;cases hs:(JhH o.op || JrM vs o.op) with
   | true=>rw [hs] at hr;cases hr
   | false=>
    rw [hs] at hr;obtain ⟨g',x',vs'⟩:=rr;exact (pure hr).elim
  ·unfold Jah at ht;split at ht
   ·rename_i t y ho;rw [ho] at h1;refine ⟨y,by unfold Jcb;rw [ho], ?_⟩
    dsimp only at h1;cases hb:Jf2 vs (vs.ev y) with
    | true=>exact Jfm hb
    | false=>
    rw [hb] at h1;simp only [Jl] at h1;unfold Jlm at h1;split at h1
    ·rename_i hy;rw [hy];rfl
    unfold JmE at h1;split at h1
    ·rename_i hy;rw [hy];rfl
    ·rename_i hy;rw [hy];rfl
    ·cases h1
   ·rename_i t y lo hi mx ho;rw [ho] at h1;refine ⟨y, by unfold Jcb;rw [ho], ?_⟩
    dsimp only at h1;have hry:=QE h y;unfold Jin at h1;split at h1
    ·cases h1
    ·split at h1
     ·rename_i v hy;rw [hy] at hry;obtain ⟨h2,_⟩:=hry;cases hn:XU v with
      | false=>rw [hn] at h1;cases h1
      | true=>
       rw [h2,Q7 hn] at ht;cases ht
     ·rename_i hy;rw [hy];rfl
     ·rename_i hy;rw [hy];rfl
     ·have : ∀{q},Jer vs.bf (vs.ev y)=some q→QS (vs.ev y)=true:=by
       intro q hq;unfold Jer at hq;split at hq
       ·rename_i hy;rw [hy];rfl
       ·rename_i hy;rw [hy];rfl
       ·cases hq
      split at h1
      ·rename_i hl _ _ _;exact this hl
      ·rename_i hl _ _ _;exact this hl
      ·cases h1
   ·rename_i s d y ho;rw [ho] at h1;refine ⟨y,by unfold Jcb;rw [ho], ?_⟩
    dsimp only at h1;have hry:=QE h y;unfold JeB at h1;split at h1
    ·rename_i e s' _ _ hy;rw [hy] at hry;have h2:a.eval y = .string s':=hry.1;rw [h2] at ht;cases ht
    ·rename_i e c _ _ hy;rw [hy] at hry ⊢;cases c with
     | l=>rfl
     | o=>rfl
     | p=>rfl
     | e=>rfl
     | m=>rfl
     | w=>rfl
     | c v=>
      split at h1
      ·rename_i xs _ hg;simp only [Jfc,Jti] at hg;obtain ⟨hn,_⟩:=Qw hg;have h2:a.eval y=v:=hry.1;rw [h2,Q7 hn] at ht;cases ht
      ·cases h1
     | _=>split at h1 <;> first | (rename_i hg;cases hg;done) | (rename_i hg _;cases hg;done) | cases h1
    ·rename_i hy;rw [hy];rfl
    ·cases h1
   ·rename_i ho;rw [ho] at h1;cases h1
   ·cases ht
theorem Jkc (h : Rel P S0 env m a vs) {o : Oper} {low : Bool} (hlow : low = true) {K : Sl → VS → Option ρ} {Kp : Value → VS → Option ρ} {r : ρ} (hv : vop P C low vs o K Kp = some r) {j : Nat} (ht : Jah a.eval o = some j) : (∃ x, Jcb o = some x ∧ QS (vs.ev x) = true) ∨ (Jdi o.op = true ∧ j < m.nxt) := by
 unfold vop at hv;split at hv
 ·rename_i ho;unfold Jah at ht;rw [ho] at ht;cases ht
 ·rename_i ho;unfold Jah at ht;rw [ho] at ht;cases ht
 ·rename_i ho;unfold Jah at ht;rw [ho] at ht;cases ht
 ·rename_i ho;unfold Jah at ht;rw [ho] at ht;cases ht
 ·rename_i ho;unfold Jah at ht;rw [ho] at ht;cases ht
 ·rename_i ho;unfold Jah at ht;rw [ho] at ht;cases ht
 ·rename_i ho;unfold Jah at ht;rw [ho] at ht;cases ht
 ·rename_i ho;unfold Jah at ht;rw [ho] at ht;cases ht
 ·have key : ∀ {vs : VS}, vopD P C low vs o K = some r → ∃ g x vs1, Jll P (JhQ C o) vs o = some (g, x, vs1) := by
   intro vs hv;unfold vopD at hv;cases hlc:(low && JlT o.op) with
   | true=>rw [hlc] at hv;cases hv
   | false=>
   rw [hlc] at hv;simp only [Jl] at hv;split at hv
   ·rename_i x vs1 h1;exact ⟨_,_,_,h1⟩
   ·rename_i g x vs1 h1;exact ⟨_,_,_,h1⟩
   ·cases hv
  cases hmo:Jfn o.op with
  | true =>
   rw [hmo] at hv;simp only [Jk] at hv;unfold JtM at hv;cases hlk:Jdi o.op with
   | false=>rw [hlow,hlk] at hv;cases hv
   | true =>
    refine .inr ⟨rfl, ?_⟩;rw [hlow,hlk] at hv;simp only [Bool.not_true,Bool.and_false,Jl] at hv;split at hv
    ·rename_i x vs1 hx;unfold Jdi at hlk;split at hlk
     ·rename_i t y k ok ho;unfold Jah at ht;rw [ho] at ht;dsimp only at ht;unfold vmap at hx;rw [ho] at hx;dsimp only at hx;have hr := QE h y;obtain ⟨jj, hj⟩ : ∃ jj, vs.ev y = .v (.s (.mv jj)) := by
       cases hc:Juo vs (vs.ev y) with
       | true=>unfold Juo at hc;split at hc <;> first | exact ⟨_,by assumption⟩|cases hc
       | false=>
        rw [hc] at hx;cases hb:JrL vs (vs.ev y) with
        | true=>unfold JrL at hb;split at hb <;> first | exact ⟨_,by assumption⟩|cases hb
        | false=>
         rw [hb] at hx;simp only [Jl] at hx;unfold Jg5 at hx;split at hx
         ·rename_i h1 h2 _;exact ⟨_,by assumption⟩
         ·cases hx
      rw [hj] at hr;obtain ⟨_,i,h2,h3,_⟩:=hr;rw [h2] at ht;cases ht;exact h3
     ·cases hlk
    ·cases hv
  | false=>
  rw [hmo] at hv;simp only [Jl] at hv;cases hstat:Jov C o with
  | true=>
   rw [hstat] at hv;simp only [Jk] at hv;unfold Jn9 at hv;split at hv
   ·rename_i ho;unfold Jah at ht;rw [ho] at ht;cases ht
   ·cases hv
  | false=>
  rw [hstat] at hv;simp only [Jl] at hv;cases hcd:JpG C o with
  | false=>
   rw [hcd] at hv;obtain ⟨g,x,vs1,h1⟩:=key hv;exact .inl (JsK h h1 ht)
  | true=>
   rw [hcd] at hv;obtain ⟨g,x,vs1,h1⟩:=key hv;obtain ⟨env1,k1,k2⟩:=JcZ h (rfl:Jeu (opPl o.op.operands.toList) vs=_);obtain ⟨y,g1,g2⟩:=JsK k1 h1 ht;exact .inl ⟨y,g1,by rwa [JfG] at g2⟩
end Go.IM.V