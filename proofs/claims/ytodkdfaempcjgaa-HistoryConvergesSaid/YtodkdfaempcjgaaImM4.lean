/- An ideal machine, and a machine of values: part 4 of 5. Lemmas alone; no conditions. -/
import Derived.Test.YtodkdfaempcjgaaImM3
set_option linter.unusedVariables false
set_option linter.unusedSimpArgs false
set_option linter.constructorNameAsVariable false
namespace Go.IM.V
open Go Go.IM
variable {P:Program} {m m1:M} {S0:Nat→Prop} {env:Env} {a:Act} {vs:VS} {X:Cx}
theorem Els_int {S:Nat→Prop} {k:IntKind} {xs:List Int} {c:Array Value} (h:Els P S m (.i k) xs c):c.toList=xs.map (Value.int k ·):=by
 have hs:c.size=xs.length:=by rw [h.1]; simp [Ty.n]
 apply List.ext_getElem?
 intro q; rw [Array.getElem?_toList,List.getElem?_map]; by_cases hq:q<xs.length
 ·have:=h.2 q xs[q] (by simp [hq])
  simp only [Ty.n,Nat.mul_one] at this; have h2:(c.extract q (q+1)).toList[0]? = some (Value.int k xs[q]):=by
   have h3:(c.extract q (q+1)).toList = [Value.int k xs[q]]:=this; rw [h3]; rfl
  rw [Array.getElem?_toList,Array.getElem?_extract,if_pos (by omega)] at h2; rw [Nat.add_zero] at h2; rw [h2]; simp [hq]
 ·rw [Array.getElem?_eq_none (by omega),List.getElem?_eq_none (by omega)]; rfl
theorem bytesOf_ints : ∀(xs:List Int),bytesOf (xs.map (Value.int .u8 ·))=some (xs.map fun n=>UInt8.ofNat n.toNat):=by
 intro xs; induction xs with
 | nil=>rfl
 | cons x xs ih=>simp only [List.map_cons,bytesOf]; rw [ih]; rfl
theorem unV_rep' {s:Sl} {w:Value} (h:repV P X s w):repS P X (unV s) w:=by
 cases s with
 | v s=>exact h
 | t l=>trivial
theorem istring_rep {S1 S : Nat → Prop} {xs : List Int} {w : Value} (h : repL P S1 m (Ty.i .u8).n (repE P S m (.i .u8)) xs w) : istringOf w m = some (.string (strL xs)) := by
 by_cases hx:xs = []
 ·subst hx; rcases h with ⟨rfl, _⟩ | ⟨i, o, sp, cap, rfl, _⟩
  ·rfl
  ·unfold istringOf; simp only [List.length_nil]; cases hq : m.cells i o 0 with
   | none=>rfl
   | some cs=>
    have:cs = #[]:=by
     unfold M.cells at hq; split at hq
     ·split at hq
      ·cases hq; simp; omega
      ·cases hq
     ·cases hq
    subst this; rfl
 ·rcases h with ⟨_,h⟩|⟨i,o,sp,cap,rfl,hr⟩
  ·exact absurd h hx
  ·obtain ⟨_,_,c,e,h1,h2,h3,h4,h5⟩:=repL_Els (ty := .i .u8) hx (.inr ⟨i,o,sp,cap,rfl,hr⟩); simp only [Ty.n,Nat.mul_one] at h4 h5; unfold istringOf; dsimp only; rw [h4]; dsimp only; rw [Els_int h5,bytesOf_ints]; rfl
theorem vconvert_sound (h : Rel P S0 env m a vs) {o : Oper} {src dst : TypeId} {hot : Bool} {x : Sl} {w : Value} (hx : repV P (vs.cx S0 env m) x w) {g : Option Bool} {y : Sl} {vs1 : VS} (hv : vconvert P src dst hot x vs = some (g, y, vs1)) (hg : ∀ b, g = some b → b = true) :
  ∃v m1 env1,iconvert P a.eval o src dst w m=some (.val v m1)∧Rel P S0 env1 m1 a vs1∧Stp (vs.cx S0 env m) (vs1.cx S0 env1 m1)∧repV P (vs1.cx S0 env1 m1) y v:=by
 unfold vconvert at hv; split at hv
 ·rename_i e s hs hd; split at hv
  ·rename_i hu; split at hv
   ·rename_i hc; simp only [Option.some.injEq,Prod.mk.injEq] at hv; obtain ⟨hgv,hv⟩:=hv; obtain ⟨rfl,_⟩:=hx; have hf':m.get m.nxt=none:=h.T.free m.nxt (Nat.le_refl _)
    have hnew:m.new (s.data.map fun (b:UInt8) => .int .u8 b.toNat) e=some (⟨m.nxt,0,none⟩,m.mk1 (.cells (s.data.map fun (b:UInt8) => .int .u8 b.toNat) e)):=by unfold M.new; rw [hf']
    have hels:Els P (vs.S S0 env) m (.i .u8) (bytesL s) (s.data.map fun (b:UInt8) => .int .u8 b.toNat):=by
     obtain ⟨c,h1,h2⟩:=newsL_rep (P:=P) h (ty := .i .u8) (x := .v (.s (.c (.string s)))) (ys:=bytesL s) (w := .string s) (by simp [newsL,castL]) ⟨rfl,rfl⟩; simp only [news,Ty.n,if_true,Option.some.injEq,Prod.mk.injEq] at h1; rw [h1.2]; exact h2
    have hl:(bytesL s).length=s.size:=by simp [bytesL]
    obtain ⟨_,env1,k1,k2,k3⟩:=h.newB (hot:=hot) (ty := .i .u8) (by decide) (by rw [hc]; rfl) hnew hels (fun q q2=>by
     rw [q] at hgv; have h9:=hg _ hgv.symm; have h10:0<s.size:=by simpa using h9
     rw [q2] at hl; simp at hl
     omega)
    have e1:y=(newB hot vs (.i .u8) (bytesL s)).1:=by rw [hv]
    have e2:vs1=(newB hot vs (.i .u8) (bytesL s)).2:=by rw [hv]
    subst e1; subst e2; rw [hl] at k3; refine ⟨_,_,_, ?_,k1,k2,k3⟩; unfold iconvert; rw [hs,hd]; dsimp only; rw [hu]; dsimp only; rw [if_pos hc]; unfold ibytesOf; rw [hnew]; rfl
   ·cases hv
  ·cases hv
 ·rename_i e c hs hd; split at hv
  ·rename_i xs hu hxs; split at hv
   ·rename_i hc; cases hv; have hr:=peekL_rep h.T hxs hx; refine ⟨.string (strL xs),m,env, ?_,h,Stp.refl h.T.free,⟨rfl,rfl⟩⟩; have hi:=istring_rep hr; have hi':istringOf w m=some (.string (strL xs)):=hi
    unfold iconvert; rw [hs,hd]; cases w <;> first | (simp [istringOf] at hi'; done) | skip
    all_goals dsimp only; rw [hu]; dsimp only; rw [hi']; rfl
   ·cases hv
  ·cases hv
 ·rename_i e0 e j hs hd; split at hv
  ·rename_i n hu hn; split at hv
   ·rename_i hsd; subst hsd; cases hv; have hxx:=hx; obtain ⟨b,hb,hw⟩:=hx; refine ⟨_,m,env, ?_,h,Stp.refl h.T.free,hxx⟩; have hb':vs.bf[j]? = some b:=hb
    unfold liveAt at hn; rw [hb'] at hn; dsimp only at hn; cases hl:(b.live && !b.cap) with
    | false=>rw [hl] at hn; cases hn
    | true=>
     have hcap:b.cap=false:=by
      simp only [Bool.and_eq_true,Bool.not_eq_true'] at hl; exact hl.2
     rw [hl] at hn; cases hn; have h0:=decide_eq (hg _ rfl); have hbf:=(h.T.bf j b hb).2; cases hτ:env.τ j with
     | none=>
      have h7:(vs.cx S0 env m).env.τ j=none:=hτ; rw [h7] at hbf; have:b.xs = []:=hbf hcap
      rw [this] at h0; simp at h0
     | some i=>
      have h7:(vs.cx S0 env m).env.τ j=some i:=hτ; rw [h7] at hbf; obtain ⟨_,k,c,e1,fr,h3,h4,_,h5,_⟩:=hbf; have h3:m.alive i=some k:=h3; have he:e0=e:=by rw [hs] at hd; cases hd; rfl
      subst he; rw [h7] at hw; have hv7:w = .slice (some ⟨i,0,none⟩) b.xs.length b.xs.length:=hw; rw [hv7]; unfold iconvert; rw [hs]; dsimp only; rw [hu,h3,beq_self_eq_true]; dsimp only; rw [h4]; dsimp only; rw [if_neg (by rw [h5]; simp; intro q; rw [q] at h0; exact absurd h0 (by simp))]
   ·cases hv
  ·cases hv
 ·cases hv
theorem vlen_sound (h : Rel P S0 env m a vs) {t : Option TypeId} {x : Sl} {w : Value} (hx : repV P (vs.cx S0 env m) x w) {g : Option Bool} {y : Sl} {vs1 : VS} (hv : vlen P t x vs = some (g, y, vs1)) :
  vs1=vs ∧ ∃e b n c,t.bind P.underlying=some (.slice e)∧w = .slice b n c∧y = .v (.s (.c (.int .i64 (n:Nat)))):=by
 unfold vlen at hv; split at hv
 ·rename_i e hu; split at hv
  ·rename_i v; cases hn:nilSl v with
   | false=>rw [hn] at hv; cases hv
   | true=>
    rw [hn] at hv; cases hv; obtain ⟨rfl,_⟩:=hx; exact ⟨rfl,e,none,0,0,hu,nilSl_eq hn,rfl⟩
  ·simp only [Option.map_eq_some_iff] at hv; obtain ⟨n,hn,hv⟩:=hv; cases hv; obtain ⟨_,_,hw⟩:=hx; obtain ⟨h1,h2⟩:=hw n hn; refine ⟨rfl,e, ?_⟩; by_cases h0:n=0
   ·subst h0; rcases h1 rfl with q|⟨i,o,q⟩
    ·exact ⟨_,_,_,hu,q,rfl⟩
    ·exact ⟨_,_,_,hu,q,rfl⟩
   ·exact ⟨_,_,_,hu,h2 (by omega),rfl⟩
  ·rename_i e' j o n cp; simp only [Option.map_eq_some_iff] at hv; obtain ⟨L,hn,hv⟩:=hv; cases hv; obtain ⟨_,_,hw⟩:=hx; obtain ⟨h1,h2,h3⟩:=hw L hn; refine ⟨rfl,e, ?_⟩; by_cases h0:L=0
   ·have:n=0:=by omega
    subst this; rcases h2 h0 with q|⟨i,o,q⟩
    ·exact ⟨_,_,_,hu,q,rfl⟩
    ·exact ⟨_,_,_,hu,q,rfl⟩
   ·obtain ⟨sp,cap,q,_⟩:=h3 (by omega); exact ⟨_,_,_,hu,q,rfl⟩
  ·rename_i e' j n; cases hh:hasOf vs.bx j with
   | false=>rw [hh] at hv; cases hv
   | true=>
    rw [hh] at hv; cases hv; exact ⟨rfl,e,_,_,_,hu,(hx.2.2 hh).1,rfl⟩
  ·split at hv
   ·rename_i e0 xs hl; cases hv; rcases lstOf_rep h.T (e:=e0) hl hx with ⟨rfl,rfl⟩|⟨i,o,sp,cap,rfl,_⟩
    ·exact ⟨rfl,e,none,0,0,hu,rfl,rfl⟩
    ·exact ⟨rfl,e,_,_,_,hu,rfl,rfl⟩
   ·cases hv
 ·cases hv
theorem isNilP_rep {x:Sl} {b:Bool} {w:Value} (h:isNilP x=some b) (hx:repV P X x w):(b=true∧w = .pointer none)∨(b=false ∧ ∃q,w = .pointer (some q)):=by
 unfold isNilP at h; split at h
 ·cases h; exact .inl ⟨rfl,hx.1⟩
 ·cases h; obtain ⟨_,i,hw,_⟩:=hx; exact .inr ⟨rfl,_,hw⟩
 ·cases h
theorem veqP_sound {t : TypeId} {x y : Sl} {w u : Value} {b : Bool} (hx : repV P X x w) (hy : repV P X y u) (h : veqP P t x y = some b) : ieqNil P t w u = some b := by
 unfold veqP at h; split at h
 ·rename_i q hu; split at h
  ·rename_i b' h1 h2; cases h; rcases isNilP_rep h1 hx with ⟨_,rfl⟩|⟨h3,_⟩
   ·rcases isNilP_rep h2 hy with ⟨rfl,rfl⟩|⟨rfl,q,rfl⟩
    ·unfold ieqNil; rw [hu]; rfl
    ·unfold ieqNil; rw [hu]; rfl
   ·cases h3
  ·rename_i b' h1 h2; cases h; rcases isNilP_rep h2 hy with ⟨_,rfl⟩|⟨h3,_⟩
   ·rcases isNilP_rep h1 hx with ⟨rfl,rfl⟩|⟨rfl,q,rfl⟩
    ·unfold ieqNil; rw [hu]; rfl
    ·unfold ieqNil; rw [hu]
   ·cases h3
  ·cases h
 ·cases h
theorem pure_equal2 {t : TypeId} {k1 k2 : IntKind} {a1 a2 b1 b2 : Int} (h : eq2OK P t k1 k2 = true) :
  pureSem P (Op.equal t (.agg #[.int k1 a1,.int k2 a2]) (.agg #[.int k1 b1,.int k2 b2]))=some ((a1 == b1) && (a2 == b2)):=by
 unfold eq2OK at h; split at h
 ·rename_i f g hu; split at h
  ·rename_i j1 j2 hf hg; simp only [Bool.and_eq_true,bne_iff_ne,ne_eq,Bool.not_eq_true'] at h; obtain ⟨⟨⟨⟨⟨h1,h2⟩,h3⟩,h4⟩,h5⟩,h6⟩:=h; have h3:=Nat.eq_of_beq_eq_true h3; have h4:=Nat.eq_of_beq_eq_true h4; have hE : ∀(d:Nat) (t:TypeId) (k j:IntKind) (a b:Int),P.underlying t=some (.int j)→pureSem P (Op.equalIn (d+1) t (.int k a) (.int k b))=some (a == b):=by
    intro d t k j a b ht; unfold Op.equalIn; simp [pureSem_bind,underlying,program,pureSem,ht,pure]
   have hP : ∀(t:TypeId) (j:IntKind) (cs:Array Value) (o:Nat) (v:Value),P.underlying t=some (.int j)→cs[o]? = some v→pureSem P (part t cs o)=some v:=by
    intro t j cs o v ht hv; unfold part isAgg; simp [pureSem_bind,underlying,program,pureSem,ht,pure,hv]
   unfold Op.equal; show pureSem P (Op.equalIn (9999+1) _ _ _)=_; unfold Op.equalIn; simp only [pureSem_bind,underlying,program,pureSem,hu,pure,Option.bind_some,h5]; rw [show (9999:Nat)=9998+1 from rfl]; simp [pureSem_bind,pureSem,pure,h1,h2,h3,h4,hP _ _ _ _ _ hf,hP _ _ _ _ _ hg,hE _ _ _ _ _ _ hf,hE _ _ _ _ _ _ hg]
   have hE' : ∀(a b:Int),pureSem P (Op.equalIn 9999 g.type (.int k2 a) (.int k2 b))=some (a == b):=fun a b=>hE 9998 _ _ _ _ _ hg
   have hP' : ∀(v w:Value),pureSem P (part g.type #[v,w] 1)=some w:=fun v w=>hP _ _ _ _ _ hg rfl
   by_cases e1:a1=b1
   ·by_cases e2:a2=b2
    ·simp [e1,e2,pureSem_bind,pureSem,hP',hE']
    ·simp [e1,e2,pureSem_bind,pureSem,hP',hE']
   ·simp [e1,pureSem]
  ·cases h
 ·cases h
theorem iop_eq2 {ev:Operand→Value} {o:Oper} {m:M} {t:TypeId} {x y:Operand} {ps} {k1 k2:IntKind} {a1 a2 b1 b2:Int} (h:eq2OK P t k1 k2=true)
  (hx:ev x = .agg #[.int k1 a1,.int k2 a2]) (hy:ev y = .agg #[.int k1 b1,.int k2 b2]) :
  (o.op = .binOp .eql t x y ps→iop P ev o m=some (.val (.bool ((a1 == b1) && (a2 == b2))) m)) ∧
  (o.op = .binOp .neq t x y ps→iop P ev o m=some (.val (.bool (!((a1 == b1) && (a2 == b2)))) m)):=by
 have hg:P.eqGuardType P.depth t=false:=by
  unfold eq2OK at h; split at h
  ·split at h
   ·simp only [Bool.and_eq_true,Bool.not_eq_true'] at h; exact h.2
   ·cases h
  ·cases h
 have hn:ieqNil P t (ev x) (ev y)=none:=by
  rw [hx,hy]; unfold ieqNil; cases P.underlying t with
  | none=>rfl
  | some q=>cases q <;> rfl
 have he:=pure_equal2 h (a1:=a1) (a2:=a2) (b1:=b1) (b2:=b2)
 constructor
 ·intro ho; have hf:opFlat ev o=true:=by unfold opFlat; rw [ho]; simp [Op.operands,hx,hy,flat,one]
  unfold iop; rw [ho]; dsimp only; rw [hn]; dsimp only; unfold iflat; rw [if_pos hf]; have:pureSem P (execOp ev o)=some (.value (.bool ((a1 == b1) && (a2 == b2)))):=by
   unfold execOp; rw [ho]; simp [pureSem_bind,hx,hy,eqGuard,binOp,program,pureSem,pure,hg,he]
  rw [this]; rfl
 ·intro ho; have hf:opFlat ev o=true:=by unfold opFlat; rw [ho]; simp [Op.operands,hx,hy,flat,one]
  unfold iop; rw [ho]; dsimp only; rw [hn]; dsimp only; unfold iflat; rw [if_pos hf]; have:pureSem P (execOp ev o)=some (.value (.bool (!((a1 == b1) && (a2 == b2))))):=by
   unfold execOp; rw [ho]; simp [pureSem_bind,hx,hy,eqGuard,binOp,program,pureSem,pure,hg,he]
  rw [this]; rfl
theorem iop_add {ev:Operand→Value} {o:Oper} {m:M} {t:TypeId} {x y:Operand} {ps} {a b:ByteArray} (ho:o.op = .binOp .add t x y ps) (hx:ev x = .string a) (hy:ev y = .string b) (h:a.size+b.size≤9223372036854775807) :
  iop P ev o m=some (.val (.string (a++b)) m):=by
 unfold iop; rw [ho]; dsimp only; unfold iflat opFlat; rw [ho]; have : ¬(((a.size+b.size:Nat):Int) > IntKind.i64.max):=by show ¬(((a.size+b.size:Nat):Int) > 9223372036854775807); omega
 simp [Op.operands,hx,hy,flat,one,execOp,ho,binOp,Op.stringOp,eqGuard]
 rw [if_neg (by simpa using this)]; rfl
theorem iop_quo {ev:Operand→Value} {o:Oper} {m:M} {t:TypeId} {x y:Operand} {ps} {k:IntKind} {a b:Int} (ho:o.op = .binOp .quo t x y ps) (hx:ev x = .int k a) (hy:ev y = .int k b) (h:b≠0) :
  iop P ev o m=some (.val (.int k (k.wrap (a.tdiv b))) m):=by
 unfold iop; rw [ho]; dsimp only; unfold iflat opFlat; rw [ho]; simp [Op.operands,hx,hy,flat,one,execOp,ho,binOp,Op.intDiv,eqGuard,h]
 rfl
theorem iop_fquo {ev:Operand→Value} {o:Oper} {m:M} {t:TypeId} {x y:Operand} {ps} {k:FloatKind} {a b r:Nat} (ho:o.op = .binOp .quo t x y ps) (hx:ev x = .float k a) (hy:ev y = .float k b) (h:k.format.div a b=some r) :
  iop P ev o m=some (.val (.float k r) m):=by
 unfold iop; rw [ho]; dsimp only; unfold iflat opFlat; rw [ho]; simp [Op.operands,hx,hy,flat,one,execOp,ho,binOp,Op.floatArith,eqGuard,h]
 rfl
theorem iop_fadd {ev:Operand→Value} {o:Oper} {m:M} {t:TypeId} {x y:Operand} {ps} {k:FloatKind} {a b r:Nat} (ho:o.op = .binOp .add t x y ps) (hx:ev x = .float k a) (hy:ev y = .float k b) (h:k.format.add a b=some r) :
  iop P ev o m=some (.val (.float k r) m):=by
 unfold iop; rw [ho]; dsimp only; unfold iflat opFlat; rw [ho]; simp [Op.operands,hx,hy,flat,one,execOp,ho,binOp,Op.floatArith,eqGuard,h]
 rfl
theorem iop_fsub {ev:Operand→Value} {o:Oper} {m:M} {t:TypeId} {x y:Operand} {ps} {k:FloatKind} {a b r:Nat} (ho:o.op = .binOp .sub t x y ps) (hx:ev x = .float k a) (hy:ev y = .float k b) (h:k.format.sub a b=some r) :
  iop P ev o m=some (.val (.float k r) m):=by
 unfold iop; rw [ho]; dsimp only; unfold iflat opFlat; rw [ho]; simp [Op.operands,hx,hy,flat,one,execOp,ho,binOp,Op.floatArith,eqGuard,h]
 rfl
theorem iop_rem {ev:Operand→Value} {o:Oper} {m:M} {t:TypeId} {x y:Operand} {ps} {k:IntKind} {a b:Int} (ho:o.op = .binOp .rem t x y ps) (hx:ev x = .int k a) (hy:ev y = .int k b) (h:b≠0) :
  iop P ev o m=some (.val (.int k (a.tmod b)) m):=by
 unfold iop; rw [ho]; dsimp only; unfold iflat opFlat; rw [ho]; simp [Op.operands,hx,hy,flat,one,execOp,ho,binOp,Op.intDiv,eqGuard,h]
 rfl
theorem repCs2 {X:Cx} {k1 k2:IntKind} {a1 a2:Int} {w:Value} (h:repV P X (.v (.a [.c (.int k1 a1),.c (.int k2 a2)])) w):w = .agg #[.int k1 a1,.int k2 a2]:=by
 obtain ⟨⟨l⟩,rfl,h2⟩:=h
 match l,h2 with
 | [u,v],h2=>
  obtain ⟨⟨rfl,_⟩,⟨rfl,_⟩,_⟩:=h2; rfl
theorem veqS_sound {t:TypeId} {x y:Operand} {ev:Operand→Value} {sx sy:Sl} {b:Bool} (hx:repV P X sx (ev x)) (hy:repV P X sy (ev y)) (h:veqS P t sx sy=some b) {o:Oper} {m:M} {ps} :
  (o.op = .binOp .eql t x y ps→iop P ev o m=some (.val (.bool b) m))∧(o.op = .binOp .neq t x y ps→iop P ev o m=some (.val (.bool (!b)) m)):=by
 unfold veqS at h; split at h
 ·split at h
  ·rename_i hc; obtain ⟨rfl,rfl,hc⟩:=hc; cases h; exact iop_eq2 hc (repCs2 hx) (repCs2 hy)
  ·cases h
 ·cases h
theorem vfill_sound (h : Rel P S0 env m a vs) {place : Nat → Option (Nat × Nat)} : ∀ {l : List (Nat × Operand)} {cs cs' : List Cl} {c : Array Value}, vfill place vs.ev cs l = some cs' → repCs P (vs.cx S0 env m) cs c.toList →
  ∃c',Instr.fill place c (l.map fun (p:Nat × Operand)=>(p.1,a.eval p.2))=some c'∧repCs P (vs.cx S0 env m) cs' c'.toList:=by
 intro l; induction l with
 | nil=>intro cs cs' c hv hr; cases hv; exact ⟨c,rfl,hr⟩
 | cons p l ih=>
  intro cs cs' c hv hr; obtain ⟨i,x⟩:=p; simp only [vfill] at hv; split at hv
  ·rename_i off size ns hp hns; split at hv
   ·rename_i hc; have hx:=unV_rep' (ev_rep h x); obtain ⟨h1,h2⟩:=cellsOf_rep hns hx hc.2.2; have hl:cs.length=c.size:=(repCs_len hr).trans Array.length_toList; have hnl:ns.length=(a.eval x).cells.size:=(repCs_len h1).trans Array.length_toList; obtain ⟨c',h3,h4⟩:=ih (c:=wr c off (a.eval x).cells.toList) hv (lay_rep hr h1 hc.2.1); refine ⟨c', ?_,h4⟩; simp only [List.map_cons]
    unfold Instr.fill; dsimp only; rw [hp]; dsimp only; rw [if_neg (by simp; omega),zip_wr']
    exact h3
   ·cases hv
  ·cases hv
theorem vbuild_sound (h : Rel P S0 env m a vs) {t : TypeId} {parts : Array (Nat × Operand)} {g : Option Bool} {x : Sl} {vs1 : VS} (hv : vbuild P t parts.toList vs = some (g, x, vs1)) :
  vs1=vs ∧ ∃z v,zeroOf P t=some z∧pureSem P (Instr.build t (parts.map fun (p:Nat × Operand)=>(p.1,a.eval p.2)))=some v∧repV P (vs.cx S0 env m) x v:=by
 unfold vbuild at hv; split at hv
 ·rename_i z fields hz hu; split at hv
  ·rename_i places hp; split at hv
   ·rename_i hone; simp only [Option.map_eq_some_iff] at hv; obtain ⟨cs, h1, h2⟩ := hv; cases h2; have hrep : repCs P (vs.cx S0 env m) (z.cells.toList.map .c) z.cells.toList := by
     rw [Array.all_eq_true'] at hone; have : ∀l:List Value,(∀v∈l,okc v=true)→repCs P (vs.cx S0 env m) (l.map .c) l:=by
      intro l; induction l with
      | nil=>intro _; trivial
      | cons v l ih=>intro h; exact ⟨⟨rfl,h v (by simp)⟩,ih fun w hw=>h w (by simp [hw])⟩
     exact this _ fun v hv=>hone v (by simpa using hv)
    obtain ⟨c',h3,h4⟩:=vfill_sound h h1 hrep; refine ⟨rfl,z,.agg c',hz, ?_,c',rfl,h4⟩; have hzp:pureSem P (zeroValue t)=some z:=by
     unfold zeroOf at hz; split at hz
     ·rename_i i hi; split at hz
      ·rename_i z' hz'; split at hz
       ·cases hz; simp [zeroValue,typeInfo,pureSem_bind,program,pureSem,hi,hz',pure]
       ·cases hz
      ·cases hz
     ·cases hz
    unfold Instr.build; simp only [pureSem_bind,hzp,Option.bind_some,hu]; have hp':pureSem P (fields.mapM fun f=>do pure (f.offset,←sizeOf f.type))=some places:=hp
    rw [hp']; simp only [Option.bind_some]; have h5:Instr.fill (places[·]?) z.cells (parts.map fun (p:Nat × Operand)=>(p.1,a.eval p.2)).toList=some c':=by rw [Array.toList_map]; exact h3
    rw [h5]; rfl
   ·cases hv
  ·cases hv
 ·cases hv
theorem vcopyC_sound (h : Rel P S0 env m a vs) (hbar : ∀ i, Wb (vs.cx S0 env m) i → m.bar ≤ i) {t e : TypeId} {ty : Ty} {ti : TypeInfo} {j o n : Nat} {x : Sl} {wx : Value} {b : Option Addr} {cap : Nat} (hu : P.underlying t = some (.slice e)) (hti : P.info? e = some ti) (hsz : ti.size = ty.n) (hn : 0 < ty.n)
  (hx:repV P (vs.cx S0 env m) x wx) {own:Bool} {xs:List ty.El} (hj:vs.bx[j]? = some [.r own ty xs]) (hfit:o+n≤xs.length) (hb:xs ≠ [] → ∃sp,b=some ⟨env.β j,o*ty.n,sp⟩) {ys:List ty.El} (hys:newsL vs ty x=some ys) :
  ∃v m1,icopy P t (.slice b n cap) wx m=some (v,m1)∧Rel P S0 env m1 a { vs with bx:=setL vs.bx j [.r own ty (xs.take o++ys.take (min n ys.length)++xs.drop (o+min n ys.length))] } ∧
   Stp (vs.cx S0 env m) (({ vs with bx:=setL vs.bx j [.r own ty (xs.take o++ys.take (min n ys.length)++xs.drop (o+min n ys.length))] }:VS).cx S0 env m1)∧v = .int .i64 ((min n ys.length:Nat):Int):=by
 obtain ⟨cs,hnews,hels⟩:=newsL_rep h hys hx; have hcl:copyLen wx=some ys.length:=by
  unfold news at hnews; split at hnews
  ·simp only [Option.some.injEq,Prod.mk.injEq] at hnews; rw [←hnews.1]; rfl
  ·split at hnews
   ·simp only [Option.some.injEq,Prod.mk.injEq] at hnews; rw [←hnews.1]; rfl
   ·simp only [Option.map_eq_some_iff,Prod.mk.injEq] at hnews; obtain ⟨_,_,h1,_⟩:=hnews; rw [←h1]; rfl
  ·split at hnews
   ·simp only [Option.some.injEq,Prod.mk.injEq] at hnews; rw [←hnews.1]; rfl
   ·cases hnews
  ·cases hnews
 generalize hk:min n ys.length=k; have hkn:k≤n:=by omega
 have hky:k≤ys.length:=by omega
 have hcc : ∃ ds, copyCells ti.size k m wx = some ds ∧ Els P (vs.S S0 env) m ty (ys.take k) ds := by
  have hsub : ∀ {ds : Array Value}, ds = cs.extract 0 (k * ty.n) → Els P (vs.S S0 env) m ty (ys.take k) ds := by
   intro ds hds; subst hds; refine ⟨?_,fun q y hq => ?_⟩
   ·rw [Array.size_extract,hels.1,List.length_take,Nat.min_eq_left hky]; have:k*ty.n≤ys.length*ty.n:=Nat.mul_le_mul_right _ hky
    omega
   ·rw [List.getElem?_take] at hq; split at hq
    ·rename_i hqk; have:=hels.2 q y hq
     have hmul:q*ty.n+ty.n≤k*ty.n:=by
      have:(q+1)*ty.n≤k*ty.n:=Nat.mul_le_mul_right _ hqk
      rw [Nat.add_mul,Nat.one_mul] at this; exact this
     rw [Array.extract_extract,Nat.zero_add,Nat.zero_add,Nat.min_eq_left hmul]; exact this
    ·cases hq
  by_cases hk0:k*ti.size=0
  ·have hkz : k = 0 := by
    rcases Nat.mul_eq_zero.1 hk0 with q | q
    ·exact q
    ·omega
   subst hkz; refine ⟨#[], ?_, ?_⟩
   ·unfold news at hnews; unfold copyCells; split at hnews
    ·rfl
    ·dsimp only; rw [if_pos hk0]
    ·rename_i s; split at hnews
     ·rename_i h1; dsimp only; rw [if_pos (by rw [hsz]; exact h1)]
      simp
     ·cases hnews
    ·cases hnews
   ·simpa using Els.nil (P:=P) (S:=vs.S S0 env) (m:=m) (ty:=ty)
  ·unfold news at hnews; unfold copyCells; split at hnews
   ·simp only [Option.some.injEq,Prod.mk.injEq] at hnews
    exfalso; apply hk0; rw [show k=0 by omega]; simp
   ·rename_i i o' sp q cp; dsimp only; rw [if_neg hk0]; split at hnews
    ·rename_i hz; simp only [Option.some.injEq,Prod.mk.injEq] at hnews; rcases Nat.mul_eq_zero.1 hz with q1 | q1
     ·exfalso; apply hk0; rw [show k=0 by omega]; simp
     ·omega
    ·simp only [Option.map_eq_some_iff,Prod.mk.injEq] at hnews; obtain ⟨cs2,h1,h2,rfl⟩:=hnews; have hcells:=h1; unfold M.cells at hcells ⊢; split at hcells
     ·rename_i c e' hrow; split at hcells
      ·rename_i hfit2; cases hcells; have hle:k*ti.size≤q*ty.n:=by rw [hsz,h2]; exact Nat.mul_le_mul_right _ hky
       rw [if_pos (by omega)]; refine ⟨_,rfl,hsub ?_⟩; rw [Array.extract_extract,Nat.add_zero,hsz,Nat.min_eq_left (by rw [hsz] at hle; omega)]
      ·cases hcells
     ·cases hcells
   ·rename_i s; split at hnews
    ·rename_i h1; dsimp only; rw [if_pos (by rw [hsz]; exact h1)]
     simp only [Option.some.injEq,Prod.mk.injEq] at hnews; obtain ⟨h2,rfl⟩:=hnews; refine ⟨_,rfl,hsub ?_⟩; rw [h1,Nat.mul_one]; apply Array.ext'
     simp
    ·cases hnews
   ·cases hnews
 obtain ⟨ds,hds,hels2⟩:=hcc; have hones:=hels2.all_one hn; have hlen2:(ys.take k).length=k:=by rw [List.length_take]; omega
 have hic : ∀r,(if k=0 then some (Value.int .i64 0,m) else match b with | some ⟨i,o,_⟩=>(m.store i o ds.toList).map (Value.int .i64 ((k:Nat):Int), ·) | _=>none)=some r→icopy P t (.slice b n cap) wx m=some r:=by
  intro r hr; unfold icopy; rw [hu]; dsimp only; rw [hti,hcl]; dsimp only; rw [show min ys.length n=k by omega,hds]; dsimp only; exact hr
 by_cases hk0:k=0
 ·have hnew : xs.take o ++ ys.take k ++ xs.drop (o + k) = xs := by rw [hk0]; simp
  rw [hnew]; have hsame:({ vs with bx:=setL vs.bx j [.r own ty xs] }:VS)=vs:=by
   have : ∀(l:List (List Cl)) (j:Nat) (c:List Cl),l[j]? = some c→setL l j c=l:=by
    intro l; induction l with
    | nil=>intro j c hc; rfl
    | cons d l ih=>intro j c hc; cases j with
     | zero=>cases hc; rfl
     | succ j=>simp only [setL]; rw [ih j c (by simpa using hc)]
   rw [this _ _ _ hj]
  rw [hsame]; exact ⟨_,m,hic _ (by rw [if_pos hk0]),h,Stp.refl h.T.free,by rw [hk0]; rfl⟩
 ·have hne : xs ≠ [] := fun q => by rw [q] at hfit; simp at hfit; omega
  obtain ⟨sp,rfl⟩:=hb hne; have hhas:=box_has h hj (has1_run hne); obtain ⟨⟨hpos,hR⟩,_⟩:=h.T.bx j _ hj; obtain ⟨kb,c,eo,fr,g1,g2,g3,g4,g5,g6,g7,g8,⟨rb,g9,g10⟩,g11⟩:=hR hne; have hal:m.alive (env.β j)=some kb:=g1; have hdl:ds.toList.length=k*ty.n:=by rw [Array.length_toList,hels2.1,hlen2]
  have hfit2:o*ty.n+ds.toList.length≤c.size:=by
   rw [hdl,g7,←Nat.add_mul]; exact Nat.mul_le_mul_right _ (by omega)
  have hlen:(xs.take o++ys.take k++xs.drop (o+k)).length=xs.length:=by
   simp only [List.length_append,List.length_take,List.length_drop]; omega
  have hnew : Els P (vs.S S0 env) m ty (xs.take o ++ ys.take k ++ xs.drop (o + k)) (wr c (o * ty.n) ds.toList) := by
   refine ⟨by rw [wr_size,hlen]; exact g7,fun q y hq => ?_⟩
   have hto:(xs.take o).length=o:=by rw [List.length_take]; omega
   by_cases q1:q<o
   ·rw [List.getElem?_append_left (by rw [List.length_append,hto]; omega),List.getElem?_append_left (by omega),List.getElem?_take,if_pos q1] at hq
    rw [wr_ext_other hfit2 (.inl (by
     have:(q+1)*ty.n≤o*ty.n:=Nat.mul_le_mul_right _ q1
     rw [Nat.add_mul,Nat.one_mul] at this; exact this))]
    exact g8 q y hq
   ·by_cases q2 : q < o + k
    ·rw [List.getElem?_append_left (by rw [List.length_append,hto,hlen2]; omega),List.getElem?_append_right (by omega),hto] at hq
     have:=hels2.2 (q - o) y hq
     have e1:q*ty.n=o*ty.n+(q - o)*ty.n:=by rw [←Nat.add_mul]; congr 1; omega
     have hmul:(q - o)*ty.n+ty.n≤k*ty.n:=by
      have:(q - o+1)*ty.n≤k*ty.n:=Nat.mul_le_mul_right _ (by omega)
      rw [Nat.add_mul,Nat.one_mul] at this; exact this
     have:((wr c (o*ty.n) ds.toList).extract (q*ty.n) (q*ty.n+ty.n)).toList=(ds.extract ((q - o)*ty.n) ((q - o)*ty.n+ty.n)).toList:=by
      apply List.ext_getElem?
      intro r; rw [Array.getElem?_toList,Array.getElem?_toList,Array.getElem?_extract,Array.getElem?_extract,wr_size,wr_get _ _ _ _ hfit2]; have hds2:ds.size=k*ty.n:=by rw [←Array.length_toList]; exact hdl
      have hA:q*ty.n+ty.n≤c.size:=by omega
      by_cases q3:r<ty.n
      ·rw [if_pos (by omega),if_neg (by omega),if_pos (by rw [hdl]; omega),if_pos (by rw [hds2]; omega),Array.getElem?_toList]
       congr 1; omega
      ·rw [if_neg (by omega),if_neg (by omega)]
     rw [this]
     assumption
    ·rw [List.getElem?_append_right (by rw [List.length_append,hto,hlen2]; omega),List.getElem?_drop,List.length_append,hto,hlen2] at hq
     rw [wr_ext_other hfit2 (.inr (by
      rw [hdl,←Nat.add_mul]; exact Nat.mul_le_mul_right _ (by omega)))]
     refine g8 q y ?_; rw [←hq]; congr 1; omega
  obtain ⟨hR2,hS2⟩:=h.storeRun (o:=some own) hj hne hlen hal g2 hnew; have hbr:m.bar≤kb.root:=by
   rcases g11 _ rb g9 g10 with q|⟨q,_⟩
   ·rw [q]; exact hbar _ (.inl ⟨j,lt_of_get hj,hhas,rfl⟩)
   ·exact hbar _ (.inr q)
  refine ⟨_,_,hic (.int .i64 ((k:Nat):Int),m.put (env.β j) kb (.cells (wr c (o*ty.n) ds.toList) eo fr)) ?_,hR2,hS2,rfl⟩; rw [if_neg hk0]; dsimp only; unfold M.store; rw [hal]; dsimp only; rw [g2]; dsimp only; rw [if_pos ⟨g3,g4,hfit2,by rw [←Array.all_toList] at hones; exact hones,hbar _ (.inl ⟨j,lt_of_get hj,hhas,rfl⟩),hbr⟩]
  rfl
theorem vcopy_sound (h : Rel P S0 env m a vs) (hbar : ∀ i, Wb (vs.cx S0 env m) i → m.bar ≤ i) {t : TypeId} {s x : Sl} {ws wx : Value} (hs : repV P (vs.cx S0 env m) s ws) (hx : repV P (vs.cx S0 env m) x wx) {g : Option Bool} {y : Sl} {vs1 : VS} (hv : vcopy P t s x vs = some (g, y, vs1)) (hg : Holds' g) :
  ∃v m1,icopy P t ws wx m=some (v,m1)∧Rel P S0 env m1 a vs1∧Stp (vs.cx S0 env m) (vs1.cx S0 env m1)∧repV P (vs1.cx S0 env m1) y v:=by
 unfold vcopy at hv; split at hv
 ·rename_i e ty e0 j hel; obtain ⟨hu, hn, hce, ti, hti, hsz, hby⟩ := elTy_some hel; split at hv
  ·rename_i he; subst he; split at hv
   ·rename_i n hlen; unfold vcopyC at hv; split at hv
    ·rename_i own e1 xs hj; split at hv
     ·rename_i xs' ys hc hys; obtain ⟨hc1,hc2⟩:=castL_eq hc; subst hc1; subst hc2; simp only [Option.some.injEq,Prod.mk.injEq] at hv; obtain ⟨rfl,rfl,rfl⟩:=hv; have hnl:n=xs.length:=by
       have:=lenOf_get hj
       rw [hlen] at this; cases this; rfl
      obtain ⟨g1,g2⟩:=run_val (e':=e1) h.T hj hs; have hws : ∃b cap,ws = .slice b n cap∧(xs ≠ [] → ∃sp,b=some ⟨env.β j,0*e1.n,sp⟩):=by
       by_cases hx0:xs = []
       ·have hn0:n=0:=by rw [hnl,hx0]; rfl
        rw [hn0]; rcases g1 hx0 with q|⟨i,o,q⟩
        ·exact ⟨_,_,q,fun w=>absurd hx0 w⟩
        ·exact ⟨_,_,q,fun w=>absurd hx0 w⟩
       ·exact ⟨_,_,by rw [hnl]; exact g2 hx0,fun _=>⟨none,by rw [Nat.zero_mul]; rfl⟩⟩
      obtain ⟨b,cap,rfl,hb⟩:=hws; obtain ⟨v,m1,k1,k2,k3,rfl⟩:=vcopyC_sound (o:=0) (n:=n) (cap:=cap) h hbar hu hti hsz hn hx hj (by omega) hb hys; exact ⟨_,m1,k1,k2,k3,rfl,rfl⟩
     ·cases hv
    ·cases hv
   ·cases hv
  ·cases hv
 ·rename_i e ty e0 j o n cp hel; obtain ⟨hu, hn, hce, ti, hti, hsz, hby⟩ := elTy_some hel; split at hv
  ·rename_i he; subst he; unfold vcopyC at hv; split at hv
   ·rename_i own e1 xs hj; split at hv
    ·rename_i xs' ys hc hys; obtain ⟨hc1,hc2⟩:=castL_eq hc; subst hc1; subst hc2; simp only [Option.some.injEq,Prod.mk.injEq] at hv; obtain ⟨rfl,rfl,rfl⟩:=hv; have hL:(vs.cx S0 env m).len j=some xs.length:=lenOf_get hj; obtain ⟨_,_,hw⟩:=hs; obtain ⟨q1,q2,q3⟩:=hw _ hL; have hws : ∃b cap,ws = .slice b n cap∧(xs ≠ [] → ∃sp,b=some ⟨env.β j,o*e1.n,sp⟩):=by
      by_cases hx0:xs = []
      ·have hl0:xs.length=0:=by rw [hx0]; rfl
       have hn0:n=0:=by omega
       rw [hn0]; rcases q2 hl0 with q|⟨i,o,q⟩
       ·exact ⟨_,_,q,fun w=>absurd hx0 w⟩
       ·exact ⟨_,_,q,fun w=>absurd hx0 w⟩
      ·obtain ⟨sp,cap,q,_⟩:=q3 (List.length_pos_iff.2 hx0); exact ⟨_,_,q,fun _=>⟨sp,rfl⟩⟩
     obtain ⟨b,cap,rfl,hb⟩:=hws; obtain ⟨v,m1,k1,k2,k3,rfl⟩:=vcopyC_sound (cap:=cap) h hbar hu hti hsz hn hx hj q1 hb hys; exact ⟨_,m1,k1,k2,k3,rfl,rfl⟩
    ·cases hv
   ·cases hv
  ·cases hv
 ·cases hv
theorem repCs_setL {X:Cx} {c:Cl} {w:Value} : ∀{cs:List Cl} {l:List Value} {i:Nat},repCs P X cs l→l[i]? = some w→repC P X c w→repCs P X (setL cs i c) l:=by
 intro cs; induction cs with
 | nil=>intro l i h _ _; exact h
 | cons d cs ih=>
  intro l i h hw hc; cases l with
  | nil=>exact h.elim
  | cons u l=>cases i with
   | zero=>cases hw; exact ⟨hc,h.2⟩
   | succ i=>exact ⟨h.1,ih h.2 hw hc⟩
theorem any_setL {d:Cl} (hd:isSg d=false) : ∀{cs:List Cl} {i:Nat},cs.any isSg=false→(setL cs i d).any isSg=false:=by
 intro cs; induction cs with
 | nil=>intro i h; rfl
 | cons c cs ih=>
  intro i h; rw [List.any_cons,Bool.or_eq_false_iff] at h; cases i with
  | zero=>show (d::cs).any isSg=false; rw [List.any_cons,hd,h.2]; rfl
  | succ i=>show (c::setL cs i d).any isSg=false; rw [List.any_cons,h.1,ih h.2]; rfl
theorem setL_norunC {cs : List Cl} {i : Nat} {d : Cl} (hd : isRun [d] = false) (h : isRun cs = false) : isRun (setL cs i d) = false := by
 have hs:isSg d=false:=by have:=noSg hd; rw [List.any_cons,Bool.or_eq_false_iff] at this; exact this.1
 have hc:=any_setL hs (i:=i) (noSg h); cases cs with
 | nil=>rfl
 | cons a cs=>cases cs with
  | nil=>cases i with
   | zero=>exact hd
   | succ i=>exact h
  | cons b cs=>cases i with
   | zero=>exact (isRun2 _ _ _).1.trans hc
   | succ i=>cases i with
    | zero=>exact (isRun2 _ _ _).1.trans hc
    | succ i=>exact (isRun2 _ _ _).1.trans hc
theorem partW_sound (h : Rel P S0 env m a vs) (j off : Nat) : Rel P S0 env m a (partW vs j off) ∧ Stp (vs.cx S0 env m) ((partW vs j off).cx S0 env m) := by
 unfold partW; split
 ·rename_i cs hj; split
  ·rename_i e q hc; split
   ·rename_i L hL; cases hrun:isRun cs with
    | true=>exact ⟨h,Stp.refl h.T.free⟩
    | false=>
     have hns:isRun (setL cs off (.w e q 0 L false))=false:=setL_norunC rfl hrun; refine h.setBox (ns:=setL cs off (.w e q 0 L false)) hj (has1_cel hrun) ((has1_cel hns).trans (has1_cel hrun).symm) ((len1_cel hns).trans (len1_cel hrun).symm) (Wb':=fun _=>False) (Fr2.refl h.T.free) (fun _ w=>w.elim) (BoxOK.of hns ?_); obtain ⟨k,c,eo,fr,q1,q2,q3,q4,q5,q6⟩:=(h.T.bx j cs hj).cel hrun
     refine ⟨k,c,eo,fr,q1,q2,q3,q4,q5, ?_⟩; obtain ⟨w,hw,hwc⟩:=repCs_get q6 hc; refine repCs_setL q6 hw ?_; obtain ⟨u1,u2,u3⟩:=hwc; refine ⟨u1,u2,fun L' hL' => ?_⟩; have hLL:L=L':=by
      have h1:(vs.cx S0 env m).len q=some L:=by rw [h.T.len]; exact hL
      have h2:(vs.cx S0 env m).len q=some L':=hL'; rw [h1] at h2; cases h2; rfl
     subst hLL; obtain ⟨v1,v2⟩:=u3 L hL'; refine ⟨by omega,v1,fun hp=>⟨none,L, ?_,Nat.le_refl _,by omega,fun w=>by cases w⟩⟩; rw [v2 hp,Nat.zero_mul]
   ·exact ⟨h,Stp.refl h.T.free⟩
  ·exact ⟨h,Stp.refl h.T.free⟩
 ·exact ⟨h,Stp.refl h.T.free⟩
theorem vmkIface_sound {t : TypeId} {x y : Sl} {w : Value} {g : Option Bool} {vs1 : VS} (h : Rel P S0 env m a vs) (hx : repV P (vs.cx S0 env m) x w) (hv : vmkIface P t x vs = some (g, y, vs1)) :
  (match P.underlying t with | some (.interface _) | none=>none | some _=>some (Res.val (.iface t w) m))=some (Res.val (.iface t w) m)∧Rel P S0 env m a vs1∧Stp (vs.cx S0 env m) (vs1.cx S0 env m)∧repV P (vs1.cx S0 env m) y (.iface t w):=by
 unfold vmkIface at hv; split at hv
 ·cases hv
 ·cases hv
 ·rename_i d hn hd; refine ⟨?_, ?_⟩
  ·rw [hd]; cases d <;> first | rfl | exact (hn _ rfl).elim | exact absurd rfl (hn _)
  ·split at hv
   ·rename_i j off; cases hv; obtain ⟨k1, k2⟩ := partW_sound h j off; refine ⟨k1, k2, ?_⟩; obtain ⟨u1, i, rfl, u2, u3⟩ := hx; have hb : (partW vs j off).bx.length = vs.bx.length := by
     unfold partW; split
     ·split
      ·split
       ·cases isRun _ with
        | true=>rfl
        | false=>exact setL_length _ _ _
       ·rfl
      ·rfl
     ·rfl
    exact ⟨Nat.lt_of_lt_of_le u1 k2.le.nb,i,rfl,Nat.lt_of_lt_of_le u2 k2.le.nxt,fun q=>u3 (k2.le.has j u1 q)⟩
   ·cases hv; exact ⟨h,Stp.refl h.T.free,trivial⟩
theorem vop1_sound {o : Oper} {hot : Bool} (h : Rel P S0 env m a vs) (hbar : isWr o.op = true → ∀ i, Wb (vs.cx S0 env m) i → m.bar ≤ i) {g : Option Bool} {x : Sl} {vs1 : VS} (hv : vop1 P hot vs o = some (g, x, vs1)) (hg : Holds' g) : OpS P S0 env m a vs o x vs1 := by
 unfold vop1 at hv; split at hv
 ·rename_i r hr; cases hv; cases hs:(isShift o.op || isEqS vs o.op) with
  | true=>rw [hs] at hr; cases hr
  | false=>rw [hs] at hr; exact vpure_sound h hr
 ·have hE:=fun y=>ev_rep (P:=P) h y
  split at hv
  ·rename_i y ho; cases hv; exact OpS.same h (by unfold iop; rw [ho]) (hE y)
  ·rename_i y ho; cases hv; exact OpS.same h (by unfold iop; rw [ho]) (hE y)
  ·rename_i t ho; obtain ⟨z,v,m1,env1,h1,h2,h3,h4,h5⟩ : ∃z v m1 env1,zeroOf P t=some z∧(m.new z.cells t).map (fun (p:Addr × M)=>Res.val (.pointer (some p.1)) p.2)=some (.val v m1)∧Rel P S0 env1 m1 a vs1∧Stp (vs.cx S0 env m) (vs1.cx S0 env1 m1)∧repV P (vs1.cx S0 env1 m1) x v:=by
    cases hb:(hot && isSegT P t) with
    | true=>rw [hb] at hv; exact vallocG_sound h hv
    | false=>rw [hb] at hv; exact valloc_sound h hv
   exact ⟨v,m1,env1,.inl (by unfold iop; rw [ho]; dsimp only; rw [h1]; exact h2),h3,h4,h5⟩
  ·rename_i t y ho; obtain ⟨v,m1,env1,h2,h3,h4,h5⟩ : ∃v m1 env1,(m.new (a.eval y).cells t).map (fun (p:Addr × M)=>Res.val (.pointer (some p.1)) p.2)=some (.val v m1)∧Rel P S0 env1 m1 a vs1∧Stp (vs.cx S0 env m) (vs1.cx S0 env1 m1)∧repV P (vs1.cx S0 env1 m1) x v:=by
    cases hb:(hot && isSegT P t) with
    | true=>rw [hb] at hv; exact vboxGx_sound h (hE y) hv
    | false=>rw [hb] at hv; exact vbox_sound h (hE y) hv
   exact ⟨v,m1,env1,.inl (by unfold iop; rw [ho]; exact h2),h3,h4,h5⟩
  ·rename_i t len parts ho; obtain ⟨v,m1,env1,h2,h3,h4,h5⟩:=vbuildSlice_sound h hv; exact ⟨v,m1,env1,.inl (by unfold iop; rw [ho]; dsimp only; rw [h2]; rfl),h3,h4,h5⟩
  ·rename_i t parts ho; obtain ⟨rfl,z,v,h1,h2,h3⟩:=vbuild_sound h hv; refine OpS.same h ?_ h3; unfold iop; rw [ho]; dsimp only; have h2':pureSem P (Instr.build t (parts.map fun (i,x)=>(i,a.eval x)))=some v:=h2
   rw [h2']; simp only [Option.bind_some]; rw [h1]
  ·rename_i t y ho; obtain ⟨rfl,v,h2,h3⟩:vs1=vs ∧ ∃v,iload P t (a.eval y) m=some v∧repV P (vs.cx S0 env m) x v:=by
    cases hb:isSgP vs (vs.ev y) with
    | true=>rw [hb] at hv; exact vloadG_sound h (hE y) hv hg
    | false=>rw [hb] at hv; exact vloadA_sound h (hE y) hv hg
   exact OpS.same h (by unfold iop; rw [ho]; dsimp only; rw [h2]; rfl) h3
  ·rename_i t y z ho; obtain ⟨rfl,m1,h2,h3,h4⟩:x=undefS ∧ ∃m1,istore P t (a.eval y) (a.eval z) m=some m1∧Rel P S0 env m1 a vs1∧Stp (vs.cx S0 env m) (vs1.cx S0 env m1):=by
    cases hb:isSgP vs (vs.ev y) with
    | true=>rw [hb] at hv; exact vstoreG_sound h (hbar (by rw [ho]; rfl)) (hE y) (hE z) hv hg
    | false=>rw [hb] at hv; exact vstoreA_sound h (hbar (by rw [ho]; rfl)) (hE y) (hE z) hv hg
   exact ⟨undef,m1,env,.inr ⟨by unfold iop; rw [ho]; dsimp only; rw [h2]; rfl,rfl⟩,h3,h4,⟨#[],rfl,trivial⟩⟩
  ·rename_i y ho; split at hv
   ·rename_i j off hy; cases hv; have hr:=hE y; rw [hy] at hr; refine OpS.same (v:=a.eval y) h ?_ hr; obtain ⟨_,kb,hw,_⟩:=hr; unfold iop; rw [ho]; dsimp only; rw [hw]
   ·rename_i e j i off hy; cases hv; have hr:=hE y; rw [hy] at hr; refine OpS.same (v:=a.eval y) h ?_ hr; obtain ⟨_,kb,hw,_⟩:=hr; unfold iop; rw [ho]; dsimp only; rw [hw]
   ·rename_i e x off hy; cases hv; have hr:=hE y; rw [hy] at hr; refine OpS.same (v:=a.eval y) h ?_ hr; obtain ⟨kb,o1,c1,e1,hw,_⟩:=hr; unfold iop; rw [ho]; dsimp only; rw [hw]
   ·cases hv
  ·rename_i op t y z u ho; have hy:=hE y; have hz:=hE z; unfold vbin at hv; split at hv
   ·split at hv
    ·rename_i k n k' b e1 e2; cases hv; rw [e1] at hy; rw [e2] at hz; exact OpS.same h (iop_shl ho hy.1 hz.1 (decide_eq (hg _ rfl))) ⟨rfl,rfl⟩
    ·cases hv
   ·split at hv
    ·rename_i k n k' b e1 e2; cases hv; rw [e1] at hy; rw [e2] at hz; exact OpS.same h (iop_shr ho hy.1 hz.1 (decide_eq (hg _ rfl))) ⟨rfl,rfl⟩
    ·cases hv
   ·simp only [Option.map_eq_some_iff] at hv; obtain ⟨b,h1,h2⟩:=hv; cases h2; unfold veq at h1; split at h1
    ·rename_i b' h1'; cases h1; have h3:=veqP_sound hy hz h1'; exact OpS.same h (by unfold iop; rw [ho]; dsimp only; rw [h3]) ⟨rfl,rfl⟩
    ·exact OpS.same h (by first | exact (veqS_sound hy hz h1).1 ho | exact (veqS_sound hy hz h1).2 ho) ⟨rfl,rfl⟩
   ·simp only [Option.map_eq_some_iff] at hv; obtain ⟨b,h1,h2⟩:=hv; cases h2; unfold veq at h1; split at h1
    ·rename_i b' h1'; cases h1; have h3:=veqP_sound hy hz h1'; exact OpS.same h (by unfold iop; rw [ho]; dsimp only; rw [h3]) ⟨rfl,rfl⟩
    ·exact OpS.same h (by first | exact (veqS_sound hy hz h1).1 ho | exact (veqS_sound hy hz h1).2 ho) ⟨rfl,rfl⟩
   ·split at hv
    ·rename_i n b e1 e2; cases hv; rw [e1] at hy; rw [e2] at hz; exact OpS.same h (iop_add ho hy.1 hz.1 (decide_eq (hg _ rfl))) ⟨rfl,rfl⟩
    ·rename_i k n k' b e1 e2; split at hv
     ·rename_i hk; subst hk; cases hv; rw [e1] at hy; rw [e2] at hz; have hsm:(k.format.add n b).isSome=true:=hg _ rfl; obtain ⟨r,hr⟩:=Option.isSome_iff_exists.1 hsm; have hi:=iop_fadd (P:=P) (m:=m) ho hy.1 hz.1 hr; rw [hr]; exact OpS.same h hi ⟨rfl,rfl⟩
     ·cases hv
    ·cases hv
   ·split at hv
    ·rename_i k n k' b e1 e2; split at hv
     ·rename_i hk; subst hk; cases hv; rw [e1] at hy; rw [e2] at hz; have hsm:(k.format.sub n b).isSome=true:=hg _ rfl; obtain ⟨r,hr⟩:=Option.isSome_iff_exists.1 hsm; have hi:=iop_fsub (P:=P) (m:=m) ho hy.1 hz.1 hr; rw [hr]; exact OpS.same h hi ⟨rfl,rfl⟩
     ·cases hv
    ·cases hv
   ·split at hv
    ·rename_i k n k' b e1 e2; split at hv
     ·rename_i hk; subst hk; cases hv; rw [e1] at hy; rw [e2] at hz; exact OpS.same h (iop_quo ho hy.1 hz.1 (decide_eq (hg _ rfl))) ⟨rfl,rfl⟩
     ·cases hv
    ·rename_i k n k' b e1 e2; split at hv
     ·rename_i hk; subst hk; cases hv; rw [e1] at hy; rw [e2] at hz; have hsm:(k.format.div n b).isSome=true:=hg _ rfl; obtain ⟨r,hr⟩:=Option.isSome_iff_exists.1 hsm; have hi:=iop_fquo (P:=P) (m:=m) ho hy.1 hz.1 hr; rw [hr]; exact OpS.same h hi ⟨rfl,rfl⟩
     ·cases hv
    ·cases hv
   ·split at hv
    ·rename_i k n k' b e1 e2; split at hv
     ·rename_i hk; subst hk; cases hv; rw [e1] at hy; rw [e2] at hz; exact OpS.same h (iop_rem ho hy.1 hz.1 (decide_eq (hg _ rfl))) ⟨rfl,rfl⟩
     ·cases hv
    ·cases hv
   ·cases hv
  ·rename_i src dst y ho; obtain ⟨v,m1,env1,h2,h3,h4,h5⟩:=vconvert_sound (o:=o) h (hE y) hv hg; exact ⟨v,m1,env1,.inl (by unfold iop; rw [ho]; exact h2),h3,h4,h5⟩
  ·rename_i t l c ho; obtain ⟨v,m1,env1,h2,h3,h4,h5⟩:=vmakeSlice_sound h (hE l) (hE c) hv hg; exact ⟨v,m1,env1,.inl (by unfold iop; rw [ho]; dsimp only; rw [h2]; rfl),h3,h4,h5⟩
  ·rename_i t y lo hi mx ho; exact vslice_sound h ho hv hg
  ·rename_i s y f ho; obtain ⟨rfl,v,h2,h3⟩:=vfieldAddr_sound (hE y) hv; exact OpS.same h (by unfold iop; rw [ho]; dsimp only; rw [h2]; rfl) h3
  ·rename_i s y f ho; obtain ⟨rfl,v,h2,h3⟩:=vfield_sound (hE y) hv; exact OpS.same h (by unfold iop; rw [ho]; dsimp only; rw [h2]; rfl) h3
  ·rename_i t y ho; obtain ⟨h1,h2,h3,h4⟩:=vmkIface_sound (t:=t) h (hE y) hv; exact ⟨_,m,env,.inl (by unfold iop; rw [ho]; exact h1),h2,h3,h4⟩
  ·rename_i t y ix ho; obtain ⟨rfl,v,h2,h3⟩:=vindexV_sound h (hE y) (hE ix) hv hg; exact OpS.same h (by unfold iop; rw [ho]; dsimp only; rw [h2]; rfl) h3
  ·rename_i t y ix ho; obtain ⟨rfl,v,h2,h3⟩:vs1=vs ∧ ∃v,iindexAddr P t (a.eval y) (a.eval ix)=some v∧repV P (vs.cx S0 env m) x v:=by
    cases hb:isSgP vs (vs.ev y) with
    | true=>rw [hb] at hv; exact vindexG_sound h (hE y) (hE ix) hv hg
    | false=>rw [hb] at hv; exact vindexAddr_sound h (hE y) (hE ix) hv hg
   exact OpS.same h (by unfold iop; rw [ho]; dsimp only; rw [h2]; rfl) h3
  ·rename_i y ix ho; split at hv
   ·rename_i l hl; split at hv
    ·rename_i s hs; cases hv; have hr:=hE y; rw [hl] at hr; obtain ⟨b,hb,h2⟩:=hr; obtain ⟨u,h3,h4⟩:=repSs_get h2 hs; refine OpS.same (v:=u) h ?_ h4; unfold iop; rw [ho]; dsimp only; rw [hb]; dsimp only; rw [←Array.getElem?_toList,h3]; rfl
    ·cases hv
   ·cases hv
  ·rename_i c ho; split at hv
   ·rename_i hc; split at hv
    ·rename_i y hy; obtain ⟨rfl,e,b,n,cp,h1,h2,rfl⟩:=vlen_sound h (hE y) hv; refine OpS.same (v := .int .i64 (n:Nat)) h ?_ ⟨rfl,rfl⟩; unfold iop; rw [ho]; dsimp only; unfold icall; rw [hc]; dsimp only; rw [hy]; simp only [Option.map_some]; rw [h1,h2]
    ·cases hv
   ·rename_i hc; split at hv
    ·rename_i s y t hs hy ht; split at hv
     ·rename_i hsz; obtain ⟨v,m1,env1,h2,h3,h4,h5⟩:=vappend_sound h (hE s) (hE y) hg hv; refine ⟨v,m1,env1,.inl ?_,h3,h4,h5⟩; unfold iop; rw [ho]; dsimp only; unfold icall; rw [hc]; dsimp only; rw [hs,hy,ht]; simp only [Option.map_some]; rw [if_pos hsz,h2]; rfl
     ·cases hv
    ·cases hv
   ·rename_i hc; split at hv
    ·rename_i s y t hs hy ht; split at hv
     ·rename_i hsz; obtain ⟨v,m1,h2,h3,h4,h5⟩:=vcopy_sound h (hbar (by obtain ⟨ce,cas,cts⟩:=c; dsimp only at hc; subst hc; rw [ho]; rfl)) (hE s) (hE y) hv hg
      refine ⟨v,m1,env,.inl ?_,h3,h4,h5⟩; unfold iop; rw [ho]; dsimp only; unfold icall; rw [hc]; dsimp only; rw [hs,hy,ht]; simp only [Option.map_some]; rw [if_pos hsz,h2]; rfl
     ·cases hv
    ·cases hv
   ·cases hv
  ·cases hv
end Go.IM.V
namespace Go.IM.V
open Go Go.IM
variable {P:Program} {m m1:M} {S0:Nat→Prop} {env:Env} {a:Act} {vs:VS} {X Y:Cx}
def lext (l l':List Nat):Prop := ∀(t j:Nat),l[t]? = some j→l'[t]? = some j
theorem lext.refl (l:List Nat):lext l l:=fun _ _ h=>h
theorem lext.trans {a b c:List Nat} (h:lext a b) (k:lext b c):lext a c:=fun t j x=>k t j (h t j x)
theorem pin_some {l l':List Nat} {t j:Nat} (h:pin l t j=some l'):lext l l'∧l'[t]? = some j:=by
 unfold pin at h; split at h
 ·rename_i j' hj; cases hb:Nat.beq j' j with
  | true=>rw [hb] at h; cases h; exact ⟨lext.refl _,by rw [hj,Nat.eq_of_beq_eq_true hb]⟩
  | false=>rw [hb] at h; cases h
 ·rename_i hj; cases hb:Nat.beq t l.length with
  | true=>
   rw [hb] at h; cases h; have ht:=Nat.eq_of_beq_eq_true hb; refine ⟨fun s i hs => ?_,by rw [ht]; simp⟩
   rw [List.getElem?_append_left (lt_of_get hs)]; exact hs
  | false=>rw [hb] at h; cases h
structure GH.le (q q':GH):Prop where
 g:lext q.g q'.g
 h:lext q.h q'.h
theorem GH.le.refl (q:GH):q.le q:=⟨lext.refl _,lext.refl _⟩
theorem GH.le.trans {a b c:GH} (h:a.le b) (k:b.le c):a.le c:=⟨h.g.trans k.g,h.h.trans k.h⟩
structure Ren2 (X Y:Cx) (q:GH) (rx rb:Nat→Nat):Prop where
 mono:Mono X.S X.m Y.S Y.m
 nxt:X.m.nxt≤Y.m.nxt
 ty : ∀i e,X.m.typ i=some e→Y.m.typ i=some e
 box : ∀t j,q.g[t]? = some j→rx t<Y.nb∧Y.env.β (rx t)=X.env.β j∧(Y.has (rx t)=true→X.has j=true) ∧ ∀L,Y.len (rx t)=some L→X.len j=some L
 buf : ∀(t j:Nat) (b:Bf),q.h[t]? = some j→X.bf[j]? = some b → ∃l,Y.bf[rb t]? = some { b with live:=l }∧Y.env.τ (rb t)=X.env.τ j
def renE (rx:Nat→Nat) (g:List Nat):List (ByteArray × Nat × Nat)→List (ByteArray × Nat × Nat)→Prop
 | [], []=>True
 | a::l,b::r=>(a.1=b.1∧a.2.1=b.2.1 ∧ ∃t,b.2.2=rx t∧g[t]? = some a.2.2)∧renE rx g l r
 | _,_=>False
theorem renE.le {rx:Nat→Nat} {g g':List Nat} (h:lext g g') : ∀{l r:List (ByteArray × Nat × Nat)},renE rx g l r→renE rx g' l r:=by
 intro l; induction l with
 | nil=>intro r hr; cases r <;> exact hr
 | cons a l ih=>intro r hr; cases r with
  | nil=>exact hr.elim
  | cons b r=>
   obtain ⟨⟨h1,h2,t,h3,h4⟩,h5⟩:=hr; exact ⟨⟨h1,h2,t,h3,h _ _ h4⟩,ih h5⟩
theorem pinL_some (rx:Nat→Nat) : ∀{l r:List (ByteArray × Nat × Nat)} {g g':List Nat},pinL g l r=some g'→eqK l r=true→lext g g'∧renE rx g' r (l.map fun q=>(q.1,q.2.1,rx q.2.2)):=by
 intro l; induction l with
 | nil=>intro r g g' h he; cases r with
  | nil=>cases h; exact ⟨lext.refl _,trivial⟩
  | cons=>cases h
 | cons a l ih=>intro r g g' h he; cases r with
  | nil=>cases h
  | cons b r=>
   simp only [pinL,Option.bind_eq_some_iff] at h; obtain ⟨g1,h1,h2⟩:=h; simp only [eqK,Bool.and_eq_true] at he; obtain ⟨⟨e1,e2⟩,e3⟩:=he; obtain ⟨k1,k2⟩:=ih h2 e3; obtain ⟨p1,p2⟩:=pin_some h1; refine ⟨p1.trans k1,⟨?_,(Nat.eq_of_beq_eq_true e2).symm,a.2.2,rfl,k1 _ _ p2⟩,k2⟩; exact ((MapKept.bytes_beq _ _).1 e1).symm
theorem pinL_lext : ∀{l r:List (ByteArray × Nat × Nat)} {g g':List Nat},pinL g l r=some g'→lext g g':=by
 intro l; induction l with
 | nil=>intro r g g' h; cases r with
  | nil=>cases h; exact lext.refl _
  | cons=>cases h
 | cons a l ih=>intro r g g' h; cases r with
  | nil=>cases h
  | cons b r=>
   simp only [pinL,Option.bind_eq_some_iff] at h; obtain ⟨g1,h1,h2⟩:=h; exact (pin_some h1).1.trans (ih h2)
theorem ptM_le {bf : List Bf} {p : Pt} {s : S1} {q q' : GH} {x : PtE p} (h : ptM bf p s q = some (x, q')) : q.le q' := by
 cases p with
 | v t=>
  simp only [ptM,Option.map_eq_some_iff] at h; obtain ⟨y,_,h2⟩:=h; cases h2; exact GH.le.refl _
 | o t=>
  simp only [ptM] at h; split at h
  ·simp only [Option.map_eq_some_iff] at h; obtain ⟨l,h1,h2⟩:=h; cases h2; exact ⟨lext.refl _,(pin_some h1).1⟩
  ·cases h
 | p t off=>
  simp only [ptM] at h; split at h
  ·rename_i j off'; cases hb:Nat.beq off off' with
   | false=>rw [hb] at h; cases h
   | true=>
    rw [hb] at h; simp only [cond_true,Option.map_eq_some_iff] at h; obtain ⟨l,h1,h2⟩:=h; cases h2; exact ⟨(pin_some h1).1,lext.refl _⟩
  ·cases h
 | fn f=>
  simp only [ptM] at h; split at h
  ·rename_i f' a c; cases hc:(Nat.beq f f' && a.isEmpty && c.isEmpty) with
   | false=>rw [hc] at h; cases h
   | true=>rw [hc] at h; cases h; exact GH.le.refl _
  ·cases h
 | m e t=>
  simp only [ptM] at h; split at h
  ·split at h
   ·simp only [Option.map_eq_some_iff] at h; obtain ⟨l,h1,h2⟩:=h; cases h2; exact ⟨(pin_some h1).1,lext.refl _⟩
   ·cases h
  ·cases h
 | r e=>
  simp only [ptM] at h; split at h
  ·simp only [Option.map_eq_some_iff] at h; obtain ⟨l,h1,h2⟩:=h; cases h2; exact GH.le.refl _
  ·cases h
 | ra e=>
  simp only [ptM] at h; split at h
  ·simp only [Option.map_eq_some_iff] at h; obtain ⟨l,h1,h2⟩:=h; cases h2; exact GH.le.refl _
  ·cases h
 | g=>
  simp only [ptM] at h; split at h
  ·cases h; exact GH.le.refl _
  ·cases h
 | ns=>
  simp only [ptM] at h; split at h
  ·rename_i v; cases hb:nilSl v with
   | false=>rw [hb] at h; cases h
   | true=>rw [hb] at h; cases h; exact GH.le.refl _
  ·cases h
 | nl=>
  simp only [ptM] at h; split at h
  ·cases h; exact GH.le.refl _
  ·cases h
 | mv t=>
  simp only [ptM] at h; split at h
  ·simp only [Option.map_eq_some_iff] at h; obtain ⟨l,h1,h2⟩:=h; cases h2; exact ⟨(pin_some h1).1,lext.refl _⟩
  ·cases h
 | mx c l=>
  simp only [ptM] at h; split at h
  ·rename_i c' l'; cases hb:(Nat.beq c c' && eqK l l') with
   | false=>rw [hb] at h; cases h
   | true=>
    rw [hb] at h; simp only [cond_true,Option.map_eq_some_iff] at h; obtain ⟨g,h1,h2⟩:=h; cases h2; exact ⟨pinL_lext h1,lext.refl _⟩
  ·cases h
 | sg n e=>
  simp only [ptM] at h; split at h
  ·split at h
   ·simp only [Option.map_eq_some_iff] at h; obtain ⟨l,h1,h2⟩:=h; cases h2; exact GH.le.refl _
   ·cases h
  ·cases h
 | mt ks=>
  simp only [ptM] at h; split at h
  ·split at h
   ·cases h; exact GH.le.refl _
   ·cases h
  ·cases h
 | ms e=>
  simp only [ptM] at h; split at h
  ·simp only [Option.map_eq_some_iff] at h; obtain ⟨l,h1,h2⟩:=h; cases h2; exact GH.le.refl _
  ·cases h
 | sb e n t=>
  simp only [ptM] at h; split at h
  ·split at h
   ·simp only [Option.map_eq_some_iff] at h; obtain ⟨l,h1,h2⟩:=h; cases h2; exact ⟨(pin_some h1).1,lext.refl _⟩
   ·cases h
  ·cases h
 | ki k n=>
  simp only [ptM] at h; split at h
  ·split at h
   ·cases h; exact GH.le.refl _
   ·cases h
  ·cases h
 | kt n=>
  simp only [ptM] at h; split at h
  ·split at h
   ·cases h; exact GH.le.refl _
   ·cases h
  ·cases h
 | va t=>
  simp only [ptM,Option.map_eq_some_iff] at h; obtain ⟨y,h1,h2⟩:=h; cases h2; exact GH.le.refl _
 | ip u t off=>
  simp only [ptM] at h; split at h
  ·rename_i u' j off'; cases hb:(Nat.beq u u' && Nat.beq off off') with
   | false=>rw [hb] at h; cases h
   | true=>
    rw [hb] at h; simp only [cond_true,Option.map_eq_some_iff] at h; obtain ⟨l,h1,h2⟩:=h; cases h2; exact ⟨(pin_some h1).1,lext.refl _⟩
  ·cases h
 | w e t=>
  simp only [ptM] at h; split at h
  ·rename_i e' j n cp; split at h
   ·rename_i he; simp only [Option.map_eq_some_iff] at h; obtain ⟨l,h1,h2⟩:=h; cases h2; exact ⟨(pin_some h1).1,lext.refl _⟩
   ·cases h
  ·cases h
 | x=>
  simp only [ptM] at h; split at h
  ·rename_i c; cases hb:isRun [c] with
   | true=>rw [hb] at h; cases h
   | false=>rw [hb] at h; cases h; exact GH.le.refl _
  ·cases h; exact GH.le.refl _
theorem old_noAd {v:Value} (h:okc v=true) (n:Nat):OldV n v:=by
 unfold okc at h; rw [Bool.and_eq_true] at h; have h2:=h.2; unfold noAd at h2; split at h2
 ·cases h2
 ·cases h2
 ·rename_i h3 h4; unfold OldV; split
  ·exact absurd rfl (h3 _)
  ·exact absurd rfl (h4 _ _ _)
  ·trivial
theorem old_rep {bx:List (List Cl)} (hT:RelT P X bx) {s:Sl} {v:Value} (h:repV P X s v) (hp:known1 s=true):OldV X.m.nxt v:=by
 have key : ∀{n:Nat} {α:Type} {R:α→List Value→Prop} {xs:List α} {w:Value},repL P X.S X.m n R xs w→OldV X.m.nxt w:=by
  intro n α R xs w hr; rcases hr with ⟨rfl,_⟩|⟨i,o,sp,cap,rfl,h1,h2⟩
  ·trivial
  ·rcases h2 with h2|⟨c,e,h3,_⟩
   ·exact .inl ⟨by omega,h2⟩
   ·exact .inr (row_lt hT.free h3)
 cases s with
 | t l=>obtain ⟨b,rfl,_⟩:=h; trivial
 | v s=>
  cases s with
  | x=>cases hp
  | a cs=>obtain ⟨b,rfl,_⟩:=h; trivial
  | s c=>
   cases c with
   | x=>cases hp
   | c v=>obtain ⟨rfl,h2⟩:=h; exact old_noAd h2 _
   | l e xs=>exact key (R:=repE P X.S X.m e) h
   | z e xs=>exact capE_old h.1 _
   | o j=>obtain ⟨b,h1,h2⟩:=h; exact key (buf_repL (hT.bf j b h1) h2)
   | p j off=>obtain ⟨h1,i,rfl,h2,_⟩:=h; exact h2
   | e t x off=>obtain ⟨i,o,c,e',rfl,h1,_⟩:=h; exact row_lt hT.free h1
   | m e j=>exact h.2.1.2
   | w e j o n cp=>exact h.2.1.2
   | q e j i off=>obtain ⟨h1,k,rfl,h2,_⟩:=h; exact h2
   | ra=>exact h.elim
   | g=>exact h.elim
   | r=>exact h.elim
   | sb e j n=>exact h.2.1.2
   | ip t j off=>obtain ⟨h1,i,rfl,_⟩:=h; trivial
   | mv j=>obtain ⟨h1,i,rfl,_⟩:=h; trivial
   | mx=>exact h.elim
   | mi=>exact h.elim
   | sg=>exact h.elim
   | ms=>exact h.elim
   | mt=>exact h.elim
   | y=>exact h.2
theorem fogC_rep {X Y:Cx} {bx:List (List Cl)} (hT:RelT P X bx) (hn:X.m.nxt≤Y.m.nxt) {c:Cl} {w:Value} (h:repC P X c w):repC P Y (fogC c) w:=by
 have key:known c=true→known1 (.v (.s c))=true→repC P Y .y w:=fun h1 h2=>⟨known_one h1 h,(old_rep (s := .v (.s c)) hT h h2).mono hn⟩
 cases c <;> first | trivial | exact h | exact key rfl rfl
theorem fog_rep {X Y:Cx} {bx:List (List Cl)} (hT:RelT P X bx) (hn:X.m.nxt≤Y.m.nxt) {s:S1} {w:Value} (h:repS P X s w):repS P Y (fog s) w:=by
 cases s with
 | x=>trivial
 | s c=>exact fogC_rep (P:=P) (c:=c) hT hn h
 | a cs=>
  obtain ⟨b,rfl,h2⟩:=h; refine ⟨b,rfl, ?_⟩; generalize b.toList=l at h2; clear b; induction cs generalizing l with
  | nil=>cases l with
   | nil=>trivial
   | cons=>exact h2.elim
  | cons c cs ih=>cases l with
   | nil=>exact h2.elim
   | cons v l=>exact ⟨fogC_rep hT hn h2.1,ih l h2.2⟩
theorem fogC_any {X Y:Cx} (hn:X.m.nxt≤Y.m.nxt) {c:Cl} {w:Value} (h:repC P X (fogC c) w):repC P Y (fogC c) w:=by
 cases c <;> first | trivial | exact h | exact ⟨h.1,h.2.mono hn⟩
theorem fog_any {X Y:Cx} (hn:X.m.nxt≤Y.m.nxt) {s:S1} {w:Value} (h:repS P X (fog s) w):repS P Y (fog s) w:=by
 cases s with
 | x=>trivial
 | s c=>exact fogC_any (P:=P) (c:=c) hn h
 | a cs=>
  obtain ⟨b,rfl,h2⟩:=h; refine ⟨b,rfl, ?_⟩; generalize b.toList=l at h2; clear b; induction cs generalizing l with
  | nil=>cases l with
   | nil=>trivial
   | cons=>exact h2.elim
  | cons c cs ih=>cases l with
   | nil=>exact h2.elim
   | cons v l=>exact ⟨fogC_any hn h2.1,ih l h2.2⟩
theorem fogC_norun (c:Cl):isRun [fogC c]=false∧has1 [fogC c]=true∧len1 [fogC c]=none:=by cases c <;> exact ⟨rfl,rfl,rfl⟩
theorem fog_norun (s:S1):isRun [clOf (fog s)]=false∧has1 [clOf (fog s)]=true∧len1 [clOf (fog s)]=none:=by
 cases s with
 | s c=>exact fogC_norun c
 | _=>exact ⟨rfl,rfl,rfl⟩
theorem ptM_rep {bx : List (List Cl)} (hT : RelT P X bx) {p : Pt} {s : S1} {q q' qf : GH} {x : PtE p} (h : ptM X.bf p s q = some (x, q')) (hq : q'.le qf) {rx rb : Nat → Nat} (hR : Ren2 X Y qf rx rb) {w : Value} (hr : repS P X s w) :
  repS P Y (ptI rx rb p x) w∧(∀c,s = .s c → ∃c',ptI rx rb p x = .s c'):=by
 cases p with
 | v t=>
  simp only [ptM,Option.map_eq_some_iff] at h; obtain ⟨y,h1,h2⟩:=h; cases h2; obtain ⟨h3,h4,h5⟩:=rdS_rep hT h1 hr; refine ⟨s1Of_rep (repE.mono hR.mono h3) h4 h5,fun c hc => ?_⟩; subst hc; show ∃c',s1Of t _ = .s c'; simp only [rdS] at h1; cases t <;> first | exact ⟨_,rfl⟩ | (simp [Ty.ag] at h1; done)
 | o t=>
  simp only [ptM] at h; split at h
  ·rename_i j; simp only [Option.map_eq_some_iff] at h; obtain ⟨l,h1,h2⟩:=h; cases h2; obtain ⟨_,h3⟩:=pin_some h1; obtain ⟨b,h4,h5⟩:=hr; obtain ⟨l',h6,h8⟩:=hR.buf t j b (hq.h t j h3) h4; refine ⟨⟨_,h6, ?_⟩,fun c hc=>⟨_,rfl⟩⟩; rw [h8]; unfold bufW at h5 ⊢; split at h5
   ·exact ⟨h5.1,h5.2.mono hR.mono fun _ _ q=>repE.mono hR.mono q⟩
   ·exact h5
  ·cases h
 | p t off=>
  simp only [ptM] at h; split at h
  ·rename_i j off'; cases hb:Nat.beq off off' with
   | false=>rw [hb] at h; cases h
   | true=>
    rw [hb] at h; simp only [cond_true,Option.map_eq_some_iff] at h; obtain ⟨l,h1,h2⟩:=h; cases h2; obtain ⟨_,h3⟩:=pin_some h1; obtain ⟨h4,h5,h7,_⟩:=hR.box t j (hq.g t j h3); obtain ⟨_,i,h6,h9,h8⟩:=hr; have:=Nat.eq_of_beq_eq_true hb
    subst this; exact ⟨⟨h4,i,h6,Nat.lt_of_lt_of_le h9 hR.nxt,fun w=>by rw [h5]; exact h8 (h7 w)⟩,fun c hc=>⟨_,rfl⟩⟩
  ·cases h
 | fn f=>
  simp only [ptM] at h; split at h
  ·rename_i f' a c; cases hc:(Nat.beq f f' && a.isEmpty && c.isEmpty) with
   | false=>rw [hc] at h; cases h
   | true=>
    rw [hc] at h; cases h; simp only [Bool.and_eq_true,Array.isEmpty_iff] at hc; obtain ⟨⟨h1,rfl⟩,rfl⟩:=hc; have:=Nat.eq_of_beq_eq_true h1
    subst this; exact ⟨hr,fun c hc=>⟨_,rfl⟩⟩
  ·cases h
 | m e t=>
  simp only [ptM] at h; split at h
  ·rename_i e' j; split at h
   ·rename_i he; subst he; simp only [Option.map_eq_some_iff] at h; obtain ⟨l,h1,h2⟩:=h; cases h2; obtain ⟨_,h3⟩:=pin_some h1; obtain ⟨h4,h5,h7,h8⟩:=hR.box t j (hq.g t j h3); obtain ⟨_,h6,h9⟩:=hr; exact ⟨⟨h4,⟨h6.1,h6.2.mono hR.nxt⟩,fun L hL=>by rw [h5]; exact h9 L (h8 L hL)⟩,fun c hc=>⟨_,rfl⟩⟩
   ·cases h
  ·cases h
 | r e=>
  simp only [ptM] at h; split at h
  ·exact hr.elim
  ·cases h
 | ra e=>
  simp only [ptM] at h; split at h
  ·exact hr.elim
  ·cases h
 | g=>
  simp only [ptM] at h; split at h
  ·exact hr.elim
  ·cases h
 | ns=>
  simp only [ptM] at h; split at h
  ·rename_i v; cases hb:nilSl v with
   | false=>rw [hb] at h; cases h
   | true=>
    rw [hb] at h; cases h; rw [nilSl_eq hb] at hr; exact ⟨hr,fun c hc=>⟨_,rfl⟩⟩
  ·cases h
 | nl=>
  simp only [ptM] at h; split at h
  ·cases h; exact ⟨hr,fun c hc=>⟨_,rfl⟩⟩
  ·cases h
 | mv t=>
  simp only [ptM] at h; split at h
  ·rename_i j; simp only [Option.map_eq_some_iff] at h; obtain ⟨l,h1,h2⟩:=h; cases h2; obtain ⟨_,h3⟩:=pin_some h1; obtain ⟨h4,h5,h7,_⟩:=hR.box t j (hq.g t j h3); obtain ⟨_,i,h6,h9,h8⟩:=hr; exact ⟨⟨h4,i,h6,Nat.lt_of_lt_of_le h9 hR.nxt,fun w=>by rw [h5]; exact h8 (h7 w)⟩,fun c hc=>⟨_,rfl⟩⟩
  ·cases h
 | mx c l=>
  simp only [ptM] at h; split at h
  ·exact hr.elim
  ·cases h
 | sg n e=>
  simp only [ptM] at h; split at h
  ·exact hr.elim
  ·cases h
 | ms e=>
  simp only [ptM] at h; split at h
  ·exact hr.elim
  ·cases h
 | mt ks=>
  simp only [ptM] at h; split at h
  ·exact hr.elim
  ·cases h
 | sb e n t =>
  simp only [ptM] at h; split at h
  ·rename_i e' j n'; split at h
   ·rename_i he; obtain ⟨rfl,rfl⟩:=he; simp only [Option.map_eq_some_iff] at h; obtain ⟨l,h1,h2⟩:=h; cases h2; obtain ⟨_,h3⟩:=pin_some h1; obtain ⟨h4,h5,h7,h8⟩:=hR.box t j (hq.g t j h3); obtain ⟨_,h6,h9⟩:=hr; exact ⟨⟨h4,⟨h6.1,h6.2.mono hR.nxt⟩,fun w=>by
     rw [h5]; obtain ⟨u1,eo,u2,u3⟩:=h9 (h7 w); exact ⟨u1,eo,hR.ty _ _ u2,u3⟩⟩,fun c hc=>⟨_,rfl⟩⟩
   ·cases h
  ·cases h
 | ki k n=>
  simp only [ptM] at h; split at h
  ·split at h
   ·rename_i he; obtain ⟨rfl,rfl⟩:=he; cases h; exact ⟨hr,fun c hc=>⟨_,rfl⟩⟩
   ·cases h
  ·cases h
 | kt n=>
  simp only [ptM] at h; split at h
  ·split at h
   ·rename_i he; subst he; cases h; exact ⟨hr,fun c hc=>⟨_,rfl⟩⟩
   ·cases h
  ·cases h
 | va t=>
  simp only [ptM,Option.map_eq_some_iff] at h; obtain ⟨y,h1,h2⟩:=h; cases h2; obtain ⟨h3,h4,h5⟩:=rdS_rep hT h1 hr; refine ⟨fog_rep (X:=X) hT hR.nxt (s1Of_rep h3 h4 h5),fun c hc => ?_⟩; subst hc; show ∃c',fog (s1Of t _) = .s c'; simp only [rdS] at h1; cases t <;> first | exact ⟨_,rfl⟩ | (simp [Ty.ag] at h1; done)
 | ip u t off=>
  simp only [ptM] at h; split at h
  ·rename_i u' j off'; cases hb:(Nat.beq u u' && Nat.beq off off') with
   | false=>rw [hb] at h; cases h
   | true=>
    rw [hb] at h; simp only [cond_true,Option.map_eq_some_iff] at h; obtain ⟨l,h1,h2⟩:=h; cases h2; obtain ⟨_,h3⟩:=pin_some h1; obtain ⟨h4,h5,h7,_⟩:=hR.box t j (hq.g t j h3); obtain ⟨_,i,h6,h9,h8⟩:=hr; rw [Bool.and_eq_true] at hb; have e1:=Nat.eq_of_beq_eq_true hb.1; have e2:=Nat.eq_of_beq_eq_true hb.2; subst e1; subst e2; exact ⟨⟨h4,i,h6,Nat.lt_of_lt_of_le h9 hR.nxt,fun w=>by rw [h5]; exact h8 (h7 w)⟩,fun c hc=>⟨_,rfl⟩⟩
  ·cases h
 | w e t =>
  simp only [ptM] at h; split at h
  ·rename_i e' j n cp; split at h
   ·rename_i he; simp only [Option.map_eq_some_iff] at h; obtain ⟨l,h1,h2⟩:=h; cases h2; subst he; obtain ⟨_,h3⟩:=pin_some h1; obtain ⟨h4,h5,h7,h8⟩:=hR.box t j (hq.g t j h3); obtain ⟨_,h6,h9⟩:=hr; exact ⟨⟨h4,⟨h6.1,h6.2.mono hR.nxt⟩,fun L hL=>by
     rw [h5,Int.toNat_natCast]; obtain ⟨u1,u2,u3⟩:=h9 L (h8 L hL); exact ⟨u1,u2,fun q=>by
      obtain ⟨sp,cap,v1,v2,v3,v4⟩:=u3 q; exact ⟨sp,cap,v1,v2,v3,fun q=>by cases q⟩⟩⟩,fun c hc=>⟨_,rfl⟩⟩
   ·cases h
  ·cases h
 | x=>
  simp only [ptM] at h; split at h
  ·rename_i c; cases hb:isRun [c] with
   | true=>rw [hb] at h; cases h
   | false=>rw [hb] at h; cases h; exact ⟨trivial,fun c hc=>⟨_,rfl⟩⟩
  ·cases h; exact ⟨trivial,fun c hc=>⟨_,rfl⟩⟩
def repSlots (P:Program) (X:Cx) (av:Nat→Value):List (Nat × S1)→Prop
 | []=>True
 | (k,s)::r=>repS P X s (av k)∧repSlots P X av r
theorem slM_le {bf:List Bf} {acc:Nat→Sl} : ∀{l:List (Nat × Pt)} {q q':GH} {x:SlE l},slM bf acc l q=some (x,q')→q.le q':=by
 intro l; induction l with
 | nil=>intro q q' x h; cases h; exact GH.le.refl _
 | cons p l ih=>
  intro q q' x h; obtain ⟨k,p⟩:=p; simp only [slM,Option.bind_eq_some_iff,Option.map_eq_some_iff] at h; obtain ⟨⟨y,q1⟩,h1,⟨z,q2⟩,h2,h3⟩:=h; cases h3; exact (ptM_le h1).trans (ih h2)
theorem unV_rep {s:Sl} {w:Value} (h:repV P X s w):repS P X (unV s) w:=by
 cases s with
 | v s=>exact h
 | t l=>trivial
theorem slM_rep {bx:List (List Cl)} (hT:RelT P X bx) {acc:Nat→Sl} {av:Nat→Value} : ∀{l:List (Nat × Pt)} {q q' qf:GH} {x:SlE l},slM X.bf acc l q=some (x,q')→q'.le qf→(∀p∈l,repV P X (acc p.1) (av p.1)) → ∀{rx rb:Nat→Nat},Ren2 X Y qf rx rb→repSlots P Y av (slI rx rb l x):=by
 intro l; induction l with
 | nil=>intro q q' qf x h hq ha rx rb hR; trivial
 | cons p l ih=>
  intro q q' qf x h hq ha rx rb hR; obtain ⟨k,p⟩:=p; simp only [slM,Option.bind_eq_some_iff,Option.map_eq_some_iff] at h; obtain ⟨⟨y,q1⟩,h1,⟨z,q2⟩,h2,h3⟩:=h; cases h3; exact ⟨(ptM_rep hT h1 ((slM_le h2).trans hq) hR (unV_rep (ha (k,p) (by simp)))).1,ih h2 hq (fun p hp=>ha p (by simp [hp])) hR⟩
theorem ren_ents {q : GH} {rx rb : Nat → Nat} (hR : Ren2 X Y q rx rb) : ∀ {l0 l1 : List (ByteArray × Nat × Nat)} {es : List MapEntry}, renE rx q.g l0 l1 → entsOK P X l0 es → entsOK P Y l1 es := by
 intro l0; induction l0 with
 | nil=>intro l1 es h k; cases l1 with
  | nil=>cases es <;> exact k
  | cons=>exact h.elim
 | cons a l0 ih=>intro l1 es h k; cases l1 with
  | nil=>exact h.elim
  | cons b l1=>cases es with
   | nil=>exact k.elim
   | cons e es=>
    obtain ⟨⟨h1,h2,t,h3,h4⟩,h5⟩:=h; obtain ⟨⟨k1,k2,k3⟩,k4⟩:=k; refine ⟨⟨by rw [←h1]; exact k1,by rw [←h2]; exact k2, ?_⟩,ih h5 k4⟩
    rw [h3]; obtain ⟨g4,g5,g7,_⟩:=hR.box t a.2.2 h4; obtain ⟨_,i,g6,g9,g8⟩:=k3; exact ⟨g4,i,g6,Nat.lt_of_lt_of_le g9 hR.nxt,fun w=>by rw [g5]; exact g8 (g7 w)⟩
theorem ceM_le {bf:List Bf} : ∀{l:List Pt} {cs:List Cl} {q q':GH} {x:CeE l},ceM bf l cs q=some (x,q')→q.le q':=by
 intro l; induction l with
 | nil=>intro cs q q' x h; cases cs with
  | nil=>cases h; exact GH.le.refl _
  | cons=>cases h
 | cons p l ih=>
  intro cs q q' x h; cases cs with
  | nil=>cases h
  | cons c cs=>
   simp only [ceM,Option.bind_eq_some_iff,Option.map_eq_some_iff] at h; obtain ⟨⟨y,q1⟩,h1,⟨z,q2⟩,h2,h3⟩:=h; cases h3; exact (ptM_le h1).trans (ih h2)
theorem ceM_rep {bx : List (List Cl)} (hT : RelT P X bx) : ∀ {l : List Pt} {cs : List Cl} {q q' qf : GH} {x : CeE l}, ceM X.bf l cs q = some (x, q') → q'.le qf → ∀ {rx rb : Nat → Nat}, Ren2 X Y qf rx rb → ∀ {ws : List Value}, repCs P X cs ws → repCs P Y (ceI rx rb l x) ws := by
 intro l; induction l with
 | nil=>intro cs q q' qf x h hq rx rb hR ws hr; cases cs with
  | nil=>cases ws with
   | nil=>trivial
   | cons=>exact hr.elim
  | cons=>cases h
 | cons p l ih=>
  intro cs q q' qf x h hq rx rb hR ws hr; cases cs with
  | nil=>cases h
  | cons c cs=>
   cases ws with
   | nil=>exact hr.elim
   | cons w ws=>
    simp only [ceM,Option.bind_eq_some_iff,Option.map_eq_some_iff] at h; obtain ⟨⟨y,q1⟩,h1,⟨z,q2⟩,h2,h3⟩:=h; cases h3; obtain ⟨h4,h5⟩:=ptM_rep hT h1 ((ceM_le h2).trans hq) hR (s := .s c) hr.1; obtain ⟨c',h6⟩:=h5 c rfl; refine ⟨?_,ih h2 hq hR hr.2⟩; show repC P Y (clOf (ptI rx rb p y)) w; rw [h6] at h4 ⊢; exact h4
theorem isRun1 {c:Cl} (h1 : ∀o e xs,c ≠ .r o e xs) (h2 : ∀e xs,c ≠ .ra e xs) (h3:c ≠ .g) (h4 : ∀k l,c ≠ .mx k l) (h5 : ∀j s n t,c ≠ .mi j s n t) (h6 : ∀e l,c ≠ .ms e l) (h7:isSg c=false):isRun [c]=false∧has1 [c]=true∧len1 [c]=none:=by
 cases c <;> first | exact ⟨rfl,rfl,rfl⟩|exact absurd rfl (h1 _ _ _) | exact absurd rfl (h2 _ _) | exact absurd rfl h3 | exact absurd rfl (h4 _ _) | exact absurd rfl (h5 _ _ _ _) | exact absurd rfl (h6 _ _) | cases h7
theorem s1Of_norun {t:Ty} {x:t.El}:isRun [clOf (s1Of t x)]=false∧has1 [clOf (s1Of t x)]=true∧len1 [clOf (s1Of t x)]=none:=by
 cases t <;> exact ⟨rfl,rfl,rfl⟩
theorem rdS_norun {bf:List Bf} {t:Ty} {c:Cl} {x:t.El} (h:rdS bf t (.s c)=some x):isRun [c]=false∧has1 [c]=true∧len1 [c]=none:=by
 have h7:isSg c=false:=by cases c <;> first | rfl | (cases t <;> cases h)
 refine isRun1 (fun o e xs q => ?_) (fun e xs q => ?_) (fun q => ?_) (fun k l q => ?_) (fun j s n t' q => ?_) (fun e l q => ?_) h7 <;> subst q <;> cases t <;> cases h
theorem ptM_sg {bf:List Bf} {p:Pt} {c:Cl} {q q':GH} {y:PtE p} {rx rb:Nat→Nat} (h:ptM bf p (.s c) q=some (y,q')):isSg (clOf (ptI rx rb p y))=isSg c:=by
 have plain:isRun [clOf (ptI rx rb p y)]=false→isRun [c]=false→isSg (clOf (ptI rx rb p y))=isSg c:=fun h1 h2=>by
  have k1:=noSg h1; have k2:=noSg h2; rw [List.any_cons,Bool.or_eq_false_iff] at k1 k2; rw [k1.1,k2.1]
 cases p with
 | v t=>
  simp only [ptM,Option.map_eq_some_iff] at h; obtain ⟨y',h4,h5⟩:=h; cases h5; exact plain s1Of_norun.1 (rdS_norun h4).1
 | va t=>
  simp only [ptM,Option.map_eq_some_iff] at h; obtain ⟨y',h4,h5⟩:=h; cases h5; exact plain (fog_norun _).1 (rdS_norun h4).1
 | x=>
  simp only [ptM] at h; cases hb:isRun [c] with
  | true=>rw [hb] at h; cases h
  | false=>exact plain rfl hb
 | ns=>
  simp only [ptM] at h; split at h
  ·rename_i hs; cases hs; rfl
  ·cases h
 | _=>
  simp only [ptM] at h; split at h
  ·rename_i hs; cases hs; rfl
  ·cases h
theorem ceM_sg {bf:List Bf} {rx rb:Nat→Nat} : ∀{l:List Pt} {cs:List Cl} {q q':GH} {x:CeE l},ceM bf l cs q=some (x,q')→(ceI rx rb l x).any isSg=cs.any isSg:=by
 intro l; induction l with
 | nil=>intro cs q q' x h; cases cs with
  | nil=>rfl
  | cons=>cases h
 | cons p l ih=>
  intro cs q q' x h; cases cs with
  | nil=>cases h
  | cons c cs=>
   simp only [ceM,Option.bind_eq_some_iff,Option.map_eq_some_iff] at h; obtain ⟨⟨y,q1⟩,h1,⟨z,q2⟩,h2,h3⟩:=h; cases h3; show (clOf (ptI rx rb p y)::ceI rx rb l z).any isSg=_; rw [List.any_cons,List.any_cons,ih h2,ptM_sg h1]
theorem ptM_seg {bf:List Bf} {p:Pt} {n:Nat} {e:Ty} {xs:List e.El} {q q':GH} {y:PtE p} {rx rb:Nat→Nat} (h:ptM bf p (.s (.sg n e xs)) q=some (y,q')):clOf (ptI rx rb p y) = .sg n e xs:=by
 cases p with
 | v t=>
  simp only [ptM,Option.map_eq_some_iff] at h; obtain ⟨y',h4,h5⟩:=h; have:=(rdS_norun h4).1
  cases this
 | va t=>
  simp only [ptM,Option.map_eq_some_iff] at h; obtain ⟨y',h4,h5⟩:=h; have:=(rdS_norun h4).1
  cases this
 | x=>cases h
 | sg n' e'=>
  simp only [ptM] at h; split at h
  ·rename_i hn; simp only [Option.map_eq_some_iff] at h; obtain ⟨ys,h4,h5⟩:=h; cases h5; obtain ⟨rfl,rfl⟩:=castL_eq h4; subst hn; rfl
  ·cases h
 | _=>
  simp only [ptM] at h; cases h
theorem ptM_mt {bf:List Bf} {p:Pt} {ks:List ByteArray} {q q':GH} {y:PtE p} {rx rb:Nat→Nat} (h:ptM bf p (.s (.mt ks)) q=some (y,q')):clOf (ptI rx rb p y) = .mt ks:=by
 cases p with
 | v t=>
  simp only [ptM,Option.map_eq_some_iff] at h; obtain ⟨y',h4,h5⟩:=h; have:=(rdS_norun h4).1
  cases this
 | va t=>
  simp only [ptM,Option.map_eq_some_iff] at h; obtain ⟨y',h4,h5⟩:=h; have:=(rdS_norun h4).1
  cases this
 | x=>cases h
 | mt ks'=>
  simp only [ptM] at h; split at h
  ·rename_i hn; cases h; subst hn; rfl
  ·cases h
 | _=>
  simp only [ptM] at h; cases h
theorem ceM_tag {bf : List Bf} {rx rb : Nat → Nat} {l : List Pt} {cs : List Cl} {q q' : GH} {x : CeE l} (h : ceM bf l cs q = some (x, q')) : tagM (ceI rx rb l x) = tagM cs := by
 cases l with
 | nil=>cases cs with
  | nil=>rfl
  | cons=>cases h
 | cons p l=>
  cases cs with
  | nil=>cases h
  | cons c cs=>
   simp only [ceM,Option.bind_eq_some_iff,Option.map_eq_some_iff] at h; obtain ⟨⟨y,q1⟩,h1,⟨z,q2⟩,h2,h3⟩:=h; cases h3; show tagM (clOf (ptI rx rb p y)::ceI rx rb l z)=_; cases hs:isSg c with
   | true=>
    cases c with
    | sg n e xs=>rw [ptM_seg h1]; rfl
    | mt ks=>rw [ptM_mt h1]; rfl
    | _=>cases hs
   | false=>rw [tagM_none hs,tagM_none (by rw [ptM_sg h1]; exact hs)]
theorem ceM_repG {bx : List (List Cl)} (hT : RelT P X bx) : ∀ {l : List Pt} {cs : List Cl} {q q' qf : GH} {x : CeE l}, ceM X.bf l cs q = some (x, q') → q'.le qf → ∀ {rx rb : Nat → Nat}, Ren2 X Y qf rx rb → ∀ {ws : List Value}, repG P X cs ws → repG P Y (ceI rx rb l x) ws := by
 intro l; induction l with
 | nil=>intro cs q q' qf x h hq rx rb hR ws hr; cases cs with
  | nil=>exact hr
  | cons=>cases h
 | cons p l ih =>
  intro cs q q' qf x h hq rx rb hR ws hr; cases cs with
  | nil=>cases h
  | cons c cs=>
   obtain ⟨w1,w2,g1,g2,g3⟩:=hr; simp only [ceM,Option.bind_eq_some_iff,Option.map_eq_some_iff] at h; obtain ⟨⟨y,q1⟩,h1,⟨z,q2⟩,h2,h3⟩:=h; cases h3; refine ⟨w1,w2,g1, ?_,ih h2 hq hR g3⟩; show repW P Y (clOf (ptI rx rb p y)) w1; cases hs:isSg c with
   | true=>
    cases c with
    | sg n e xs=>
     rw [ptM_seg h1]; exact ⟨g2.1,g2.2.1,fun k x hx=>repE.mono hR.mono (g2.2.2 k x hx)⟩
    | mt ks=>rw [ptM_mt h1]; exact g2
    | _=>cases hs
   | false=>
    obtain ⟨w,k1,k2⟩:=(repW_of hs).1 g2; obtain ⟨h4,h5⟩:=ptM_rep hT h1 ((ceM_le h2).trans hq) hR (s := .s c) k2; obtain ⟨c',h6⟩:=h5 c rfl; refine (repW_of (by rw [ptM_sg h1]; exact hs)).2 ⟨w,k1, ?_⟩
    rw [h6] at h4 ⊢; exact h4
theorem bxM_le : ∀{l:List (List Pt)} {t:Nat} {q q':GH} {x:BxE l},bxM vs l t q=some (x,q')→q.le q':=by
 intro l; induction l with
 | nil=>intro t q q' x h; cases h; exact GH.le.refl _
 | cons p l ih=>
  intro t q q' x h; simp only [bxM] at h; split at h
  ·split at h
   ·simp only [Option.bind_eq_some_iff,Option.map_eq_some_iff] at h; obtain ⟨⟨y,q1⟩,h1,⟨z,q2⟩,h2,h3⟩:=h; cases h3; exact (ceM_le h1).trans (ih h2)
   ·cases h
  ·cases h
theorem ceM_shape {bf : List Bf} {l : List Pt} {cs : List Cl} {q q' : GH} {x : CeE l} (h : ceM bf l cs q = some (x, q')) (rx rb : Nat → Nat) :
  isRun (ceI rx rb l x)=isRun cs∧has1 (ceI rx rb l x)=has1 cs∧len1 (ceI rx rb l x)=len1 cs ∧
   (isRun cs=true→(∃own e xs,cs = [.r own e xs]∧ceI rx rb l x = [.r false e xs])∨(∃e xs,cs = [.ra e xs]∧ceI rx rb l x = [.ra e xs])∨(cs = [.g]∧ceI rx rb l x = [.g])∨(∃c l0 l1,cs = [.mx c l0]∧ceI rx rb l x = [.mx c l1]∧renE rx q'.g l0 l1)∨(∃e xs,cs = [.ms e xs]∧ceI rx rb l x = [.ms e xs])∨cs.any isSg=true):=by
 cases l with
 | nil=>cases cs with
  | nil=>cases h; exact ⟨rfl,rfl,rfl,fun q=>by cases q⟩
  | cons=>cases h
 | cons p l =>
  cases cs with
  | nil=>cases h
  | cons c cs =>
   simp only [ceM,Option.bind_eq_some_iff,Option.map_eq_some_iff] at h; obtain ⟨⟨y,q1⟩,h1,⟨z,q2⟩,h2,h3⟩:=h; cases h3; cases l with
   | nil=>
    cases cs with
    | cons=>cases h2
    | nil=>
     cases h2; show isRun [clOf (ptI rx rb p y)]=_∧has1 [clOf (ptI rx rb p y)]=_∧len1 [clOf (ptI rx rb p y)]=_∧(_→(∃own e xs,_ ∧ [clOf (ptI rx rb p y)]=_)∨(∃e xs,_ ∧ [clOf (ptI rx rb p y)]=_)∨(_ ∧ [clOf (ptI rx rb p y)]=_)∨(∃c l0 l1,_ ∧ [clOf (ptI rx rb p y)]=_∧renE rx q1.g l0 l1)∨(∃e xs,_ ∧ [clOf (ptI rx rb p y)]=_)∨_); have plain:isRun [clOf (ptI rx rb p y)]=false∧has1 [clOf (ptI rx rb p y)]=true∧len1 [clOf (ptI rx rb p y)]=none→isRun [c]=false∧has1 [c]=true∧len1 [c]=none→isRun [clOf (ptI rx rb p y)]=isRun [c]∧has1 [clOf (ptI rx rb p y)]=has1 [c]∧len1 [clOf (ptI rx rb p y)]=len1 [c]∧(isRun [c]=true→(∃own e xs, [c] = [.r own e xs] ∧ [clOf (ptI rx rb p y)] = [.r false e xs])∨(∃e xs, [c] = [.ra e xs] ∧ [clOf (ptI rx rb p y)] = [.ra e xs])∨([c] = [.g] ∧ [clOf (ptI rx rb p y)] = [.g])∨(∃k l0 l1, [c] = [.mx k l0] ∧ [clOf (ptI rx rb p y)] = [.mx k l1]∧renE rx q1.g l0 l1)∨(∃e xs, [c] = [.ms e xs] ∧ [clOf (ptI rx rb p y)] = [.ms e xs]) ∨ [c].any isSg=true):=by
      intro ⟨a1,a2,a3⟩ ⟨b1,b2,b3⟩; exact ⟨a1.trans b1.symm,a2.trans b2.symm,a3.trans b3.symm,fun q=>by rw [b1] at q; cases q⟩
     cases p with
     | v t=>
      simp only [ptM,Option.map_eq_some_iff] at h1; obtain ⟨y',h4,h5⟩:=h1; cases h5; exact plain s1Of_norun (rdS_norun h4)
     | o t=>
      simp only [ptM] at h1; split at h1
      ·rename_i hs; cases hs; exact plain ⟨rfl,rfl,rfl⟩ ⟨rfl,rfl,rfl⟩
      ·cases h1
     | p t off=>
      simp only [ptM] at h1; split at h1
      ·rename_i hs; cases hs; exact plain ⟨rfl,rfl,rfl⟩ ⟨rfl,rfl,rfl⟩
      ·cases h1
     | fn f=>
      simp only [ptM] at h1; split at h1
      ·rename_i hs; cases hs; exact plain ⟨rfl,rfl,rfl⟩ ⟨rfl,rfl,rfl⟩
      ·cases h1
     | m e t=>
      simp only [ptM] at h1; split at h1
      ·rename_i hs; cases hs; exact plain ⟨rfl,rfl,rfl⟩ ⟨rfl,rfl,rfl⟩
      ·cases h1
     | r e=>
      simp only [ptM] at h1; split at h1
      ·rename_i own e' xs hs; cases hs; simp only [Option.map_eq_some_iff] at h1; obtain ⟨ys,h4,h5⟩:=h1; cases h5; obtain ⟨rfl,rfl⟩:=castL_eq h4; exact ⟨rfl,rfl,rfl,fun _ => .inl ⟨_,_,_,rfl,rfl⟩⟩
      ·cases h1
     | ra e=>
      simp only [ptM] at h1; split at h1
      ·rename_i e' xs hs; cases hs; simp only [Option.map_eq_some_iff] at h1; obtain ⟨ys,h4,h5⟩:=h1; cases h5; obtain ⟨rfl,rfl⟩:=castL_eq h4; exact ⟨rfl,rfl,rfl,fun _ => .inr (.inl ⟨_,_,rfl,rfl⟩)⟩
      ·cases h1
     | g=>
      simp only [ptM] at h1; split at h1
      ·rename_i hs; cases hs; exact ⟨rfl,rfl,rfl,fun _ => .inr (.inr (.inl ⟨rfl,rfl⟩))⟩
      ·cases h1
     | mv t=>
      simp only [ptM] at h1; split at h1
      ·rename_i hs; cases hs; exact plain ⟨rfl,rfl,rfl⟩ ⟨rfl,rfl,rfl⟩
      ·cases h1
     | mx k l=>
      simp only [ptM] at h1; split at h1
      ·rename_i k' l' hs; cases hs; cases hb:(Nat.beq k k' && eqK l l') with
       | false=>rw [hb] at h1; cases h1
       | true=>
        rw [hb] at h1; simp only [cond_true,Option.map_eq_some_iff] at h1; obtain ⟨g,h4,h5⟩:=h1; cases h5; rw [Bool.and_eq_true] at hb; have:=Nat.eq_of_beq_eq_true hb.1
        subst this; exact ⟨rfl,rfl,rfl,fun _ => .inr (.inr (.inr (.inl ⟨_,_,_,rfl,rfl,(pinL_some rx h4 hb.2).2⟩)))⟩
      ·cases h1
     | sg n e=>
      simp only [ptM] at h1; split at h1
      ·rename_i n' e' xs hs; cases hs; exact ⟨rfl,rfl,rfl,fun _ => .inr (.inr (.inr (.inr (.inr rfl))))⟩
      ·cases h1
     | mt ks=>
      simp only [ptM] at h1; split at h1
      ·rename_i ks' hs; cases hs; exact ⟨rfl,rfl,rfl,fun _ => .inr (.inr (.inr (.inr (.inr rfl))))⟩
      ·cases h1
     | ms e=>
      simp only [ptM] at h1; split at h1
      ·rename_i e' xs hs; cases hs; simp only [Option.map_eq_some_iff] at h1; obtain ⟨ys,h4,h5⟩:=h1; cases h5; obtain ⟨rfl,rfl⟩:=castM_eq h4; exact ⟨rfl,rfl,rfl,fun _ => .inr (.inr (.inr (.inr (.inl ⟨_,_,rfl,rfl⟩))))⟩
      ·cases h1
     | ns=>
      simp only [ptM] at h1; split at h1
      ·rename_i hs; cases hs; exact plain ⟨rfl,rfl,rfl⟩ ⟨rfl,rfl,rfl⟩
      ·cases h1
     | nl=>
      simp only [ptM] at h1; split at h1
      ·rename_i hs; cases hs; exact plain ⟨rfl,rfl,rfl⟩ ⟨rfl,rfl,rfl⟩
      ·cases h1
     | sb e n t=>
      simp only [ptM] at h1; split at h1
      ·rename_i hs; cases hs; exact plain ⟨rfl,rfl,rfl⟩ ⟨rfl,rfl,rfl⟩
      ·cases h1
     | ki k n=>
      simp only [ptM] at h1; split at h1
      ·rename_i hs; cases hs; exact plain ⟨rfl,rfl,rfl⟩ ⟨rfl,rfl,rfl⟩
      ·cases h1
     | kt n=>
      simp only [ptM] at h1; split at h1
      ·rename_i hs; cases hs; exact plain ⟨rfl,rfl,rfl⟩ ⟨rfl,rfl,rfl⟩
      ·cases h1
     | va t=>
      simp only [ptM,Option.map_eq_some_iff] at h1; obtain ⟨y',h4,h5⟩:=h1; cases h5; exact plain (fog_norun _) (rdS_norun h4)
     | ip u t off=>
      simp only [ptM] at h1; split at h1
      ·rename_i hs; cases hs; exact plain ⟨rfl,rfl,rfl⟩ ⟨rfl,rfl,rfl⟩
      ·cases h1
     | w e t=>
      simp only [ptM] at h1; split at h1
      ·rename_i hs; cases hs; exact plain ⟨rfl,rfl,rfl⟩ ⟨rfl,rfl,rfl⟩
      ·cases h1
     | x=>
      have hb:isRun [c]=false:=by
       simp only [ptM] at h1; cases hb:isRun [c] with
       | true=>rw [hb] at h1; cases h1
       | false=>rfl
      exact plain ⟨rfl,rfl,rfl⟩ ⟨hb,has1_cel hb,len1_cel hb⟩
   | cons p2 l=>
    cases cs with
    | nil=>cases h2
    | cons c2 cs=>
     obtain ⟨a1,a2,a3⟩:=isRun2 c c2 cs; obtain ⟨b1,b2,b3⟩:=isRun2 (clOf (ptI rx rb p y)) (clOf (ptI rx rb p2 z.1)) (ceI rx rb l z.2); have hsg:(ceI rx rb (p::p2::l) (y,z)).any isSg=(c::c2::cs).any isSg:=ceM_sg (show ceM bf (p::p2::l) (c::c2::cs) q=some ((y,z),q2) by
      simp only [ceM,Option.bind_eq_some_iff,Option.map_eq_some_iff] at h2 ⊢; exact ⟨_,h1,_,h2,rfl⟩)
     exact ⟨(b1.trans hsg).trans a1.symm,b2.trans a2.symm,b3.trans a3.symm,fun q=>by rw [a1] at q; exact .inr (.inr (.inr (.inr (.inr q))))⟩
theorem bxM_shape {bx : List (List Cl)} (hbx : vs.bx = bx) (rx rb : Nat → Nat) : ∀ {l : List (List Pt)} {t : Nat} {q q' : GH} {x : BxE l}, bxM vs l t q = some (x, q') →
  (bxI rx rb l x).length=l.length ∧ ∀(i:Nat) cs',(bxI rx rb l x)[i]? = some cs' → ∃j cs,q'.g[t+i]? = some j∧bx[j]? = some cs∧isRun cs'=isRun cs∧has1 cs'=has1 cs∧len1 cs'=len1 cs ∧
   (isRun cs=true→(∃own e xs,cs = [.r own e xs]∧cs' = [.r false e xs])∨(∃e xs,cs = [.ra e xs]∧cs' = [.ra e xs])∨(cs = [.g]∧cs' = [.g])∨(∃c l0 l1,cs = [.mx c l0]∧cs' = [.mx c l1]∧renE rx q'.g l0 l1)∨(∃e xs,cs = [.ms e xs]∧cs' = [.ms e xs])∨(cs.any isSg=true∧cs'.any isSg=true∧tagM cs'=tagM cs)):=by
 intro l; induction l with
 | nil=>intro t q q' x h; exact ⟨rfl,fun i cs' hi=>by cases hi⟩
 | cons p l ih =>
  intro t q q' x h; simp only [bxM] at h; split at h
  ·rename_i j hj; split at h
   ·rename_i cs hcs; simp only [Option.bind_eq_some_iff,Option.map_eq_some_iff] at h; obtain ⟨⟨y,q1⟩,h1,⟨z,q2⟩,h2,h3⟩:=h; cases h3; obtain ⟨h4,h5⟩:=ih h2; refine ⟨by show (_::_).length=_; simp [h4],fun i cs' hi => ?_⟩
    cases i with
    | zero=>
     cases hi; obtain ⟨k1,k2,k3,k4⟩:=ceM_shape h1 rx rb; refine ⟨j,cs,((ceM_le h1).trans (bxM_le h2)).g t j hj,by rw [←hbx]; exact hcs,k1,k2,k3,fun w => ?_⟩
     rcases k4 w with k4 | k4 | k4|⟨c,l0,l1,u1,u2,u3⟩|k4 | k4
     ·exact .inl k4
     ·exact .inr (.inl k4)
     ·exact .inr (.inr (.inl k4))
     ·exact .inr (.inr (.inr (.inl ⟨c,l0,l1,u1,u2,u3.le (bxM_le h2).g⟩)))
     ·exact .inr (.inr (.inr (.inr (.inl k4))))
     ·exact .inr (.inr (.inr (.inr (.inr ⟨k4,(ceM_sg h1).trans k4,ceM_tag h1⟩))))
    | succ i=>
     obtain ⟨j',cs2,h6,h7⟩:=h5 i cs' hi; exact ⟨j',cs2,by rw [show t+(i+1)=t+1+i by omega]; exact h6,h7⟩
   ·cases h
  ·cases h
theorem bxM_rep {bx : List (List Cl)} (hT : RelT P X bx) (hbf : vs.bf = X.bf) (hbx : vs.bx = bx) : ∀ {l : List (List Pt)} {t : Nat} {q q' qf : GH} {x : BxE l}, bxM vs l t q = some (x, q') → q'.le qf → ∀ {rx rb : Nat → Nat}, Ren2 X Y qf rx rb →
  ∀(i:Nat) cs',(bxI rx rb l x)[i]? = some cs' → ∃j cs,qf.g[t+i]? = some j∧bx[j]? = some cs∧(∀{ws:List Value},repCs P X cs ws→repCs P Y cs' ws) ∧ ∀{ws:List Value},repG P X cs ws→repG P Y cs' ws:=by
 intro l; induction l with
 | nil=>intro t q q' qf x h hq rx rb hR i cs' hi; cases hi
 | cons p l ih =>
  intro t q q' qf x h hq rx rb hR i cs' hi; simp only [bxM] at h; split at h
  ·rename_i j hj; split at h
   ·rename_i cs hcs; simp only [Option.bind_eq_some_iff,Option.map_eq_some_iff] at h; obtain ⟨⟨y,q1⟩,h1,⟨z,q2⟩,h2,h3⟩:=h; cases h3; cases i with
    | zero=>
     cases hi; rw [hbf] at h1; exact ⟨j,cs,((ceM_le h1).trans ((bxM_le h2).trans hq)).g t j hj,by rw [←hbx]; exact hcs,fun hr=>ceM_rep hT h1 ((bxM_le h2).trans hq) hR hr,fun hr=>ceM_repG hT h1 ((bxM_le h2).trans hq) hR hr⟩
    | succ i=>
     obtain ⟨j',cs2,h6,h7,h8⟩:=ih h2 hq hR i cs' hi; exact ⟨j',cs2,by rw [show t+(i+1)=t+1+i by omega]; exact h6,h7,h8⟩
   ·cases h
  ·cases h
theorem bfM_sound {bf : List Bf} : ∀ {l : List Ty} {h : List Nat} {x : BfE l}, bfM bf l h = some x → (bfI l x).length = h.length ∧ ∀ (t : Nat) (b' : Bf), (bfI l x)[t]? = some b' → ∃ j, h[t]? = some j ∧ bf[j]? = some b' := by
 intro l; induction l with
 | nil=>intro h x hx; cases h with
  | nil=>exact ⟨rfl,fun t b' hb=>by cases hb⟩
  | cons=>cases hx
 | cons ty l ih =>
  intro h x hx; cases h with
  | nil=>cases hx
  | cons j h =>
   simp only [bfM] at hx; split at hx
   ·rename_i b hb; cases hl:(b.live && !b.cap) with
    | false=>rw [hl] at hx; cases hx
    | true=>
     rw [hl] at hx; simp only [cond_true,Option.bind_eq_some_iff,Option.map_eq_some_iff] at hx; obtain ⟨ys,h1,z,h2,h3⟩:=hx; cases h3; obtain ⟨h4,h5⟩:=ih h2; refine ⟨by show (_::_).length=_; simp [h4],fun t b' hb' => ?_⟩
     cases t with
     | zero=>
      cases hb'; refine ⟨j,rfl, ?_⟩; rw [hb]; obtain ⟨e,hys⟩:=castL_some h1; subst hys; obtain ⟨be,bxs,bl,bc⟩:=b; dsimp only at e hl; subst e; simp only [Bool.and_eq_true,Bool.not_eq_true'] at hl; rw [hl.1,hl.2]
     | succ t=>exact h5 t b' hb'
   ·cases hx
theorem nodupN_sound : ∀{l:List Nat},nodupN l=true → ∀(i j a:Nat),l[i]? = some a→l[j]? = some a→i=j:=by
 intro l; induction l with
 | nil=>intro _ i j a h; simp at h
 | cons b l ih=>
  intro h i j a hi hj; simp only [nodupN,Bool.and_eq_true] at h; obtain ⟨h1,h2⟩:=h; have hno : ∀(k:Nat),l[k]? ≠ some b:=by
   intro k hk; have:l.any (Nat.beq b)=true:=List.any_eq_true.2 ⟨b,List.mem_of_getElem? hk,by simp⟩
   rw [this] at h1; cases h1
  cases i with
  | zero=>cases j with
   | zero=>rfl
   | succ j=>cases hi; exact absurd hj (hno j)
  | succ i=>cases j with
   | zero=>cases hj; exact absurd hi (hno i)
   | succ j=>rw [ih h2 i j a hi hj]
def Env.sub (env:Env) (q:GH) (p:Prop):Env := { τ:=fun t=>match q.h[t]? with | some j=>env.τ j | none=>none,β:=fun t=>match q.g[t]? with | some j=>env.β j | none=>0,φ:=fun i=>p∧env.φ i }
theorem mat_sound {bx : List (List Cl)} (hT : RelT P X bx) (hbf : vs.bf = X.bf) (hbx : vs.bx = bx) {t : Tm} {acc : Nat → Sl} {av : Nat → Value} (hacc : ∀ p ∈ t.sl, repV P X (acc p.1) (av p.1)) {g0 : List Nat} {x : t.E} {q : GH} (hm : t.mat acc vs g0 = some (x, q))
  {p:Prop} (hp:q.g ≠ []→p) {S0:Nat→Prop} (hS : ∀i,S0 i→X.S i) (N:Nat) :
  RelT P ((t.inst N x).cx S0 (X.env.sub q p) X.m) (t.inst N x).bx∧repSlots P ((t.inst N x).cx S0 (X.env.sub q p) X.m) av (slI id id t.sl x.1)∧q.g.length=t.bx.length∧(t.inst N x).bx.length=t.bx.length∧(t.inst N x).bf.length=q.h.length∧lext g0 q.g ∧
  (∀(k:Nat) (b:Bf),(t.inst N x).bf[k]? = some b → ∃j,q.h[k]? = some j∧X.bf[j]? = some b)∧(∀(k j:Nat),q.g[k]? = some j→j<bx.length∧hasOf (t.inst N x).bx k=hasOf bx j∧lenOf (t.inst N x).bx k=lenOf bx j)∧nodupN q.g=true∧nodupN q.h=true:=by
 simp only [Tm.mat,Option.bind_eq_some_iff] at hm; obtain ⟨⟨x1,q1⟩,h1,⟨x2,q2⟩,h2,hm⟩:=hm; cases hc:(Nat.beq q2.g.length t.bx.length && nodupN q2.g && nodupN q2.h) with
 | false=>rw [hc] at hm; cases hm
 | true=>
  rw [hc] at hm; simp only [cond_true,Option.map_eq_some_iff] at hm; obtain ⟨z,h3,h4⟩:=hm; cases h4; simp only [Bool.and_eq_true] at hc; obtain ⟨⟨hc1,hc2⟩,hc3⟩:=hc; have hgl:q.g.length=t.bx.length:=Nat.eq_of_beq_eq_true hc1; rw [hbf] at h1 h3; obtain ⟨hb1,hb2⟩:=bfM_sound h3; obtain ⟨hsl,hshape⟩:=bxM_shape hbx id id h2; have hgj : ∀(k j:Nat),q.g[k]? = some j → ∃cs cs',bx[j]? = some cs∧(bxI id id t.bx x2)[k]? = some cs'∧has1 cs'=has1 cs∧len1 cs'=len1 cs:=by
   intro k j hk; have hkl:k<(bxI id id t.bx x2).length:=by rw [hsl,←hgl]; exact lt_of_get hk
   obtain ⟨j',cs,g4,g5,_,g6,g7,_⟩:=hshape k (bxI id id t.bx x2)[k] (by simp [hkl]); rw [Nat.zero_add,hk] at g4; cases g4; exact ⟨cs,_,g5,by simp [hkl],g6,g7⟩
  have hhas : ∀(k j:Nat),q.g[k]? = some j→hasOf (t.inst N (x1,x2,z)).bx k=hasOf bx j:=by
   intro k j hk; obtain ⟨cs,cs',g1,g2,g3,_⟩:=hgj k j hk; rw [hasOf_get g1,←g3]; exact hasOf_get (bx:=bxI id id t.bx x2) g2
  have hlenk : ∀(k j:Nat),q.g[k]? = some j→lenOf (t.inst N (x1,x2,z)).bx k=lenOf bx j:=by
   intro k j hk; obtain ⟨cs,cs',g1,g2,_,g3⟩:=hgj k j hk; rw [lenOf_get g1,←g3]; exact lenOf_get (bx:=bxI id id t.bx x2) g2
  have hjl : ∀(k j:Nat),q.g[k]? = some j→j<bx.length:=fun k j hk=>by obtain ⟨cs,_,hcs,_⟩:=hgj k j hk; exact lt_of_get hcs
  have hβ : ∀(k j:Nat),q.g[k]? = some j→(X.env.sub q p).β k=X.env.β j:=fun k j hk=>by show (match q.g[k]? with | some j=>_ | none=>_)=_; rw [hk]
  have hτ : ∀(k j:Nat),q.h[k]? = some j→(X.env.sub q p).τ k=X.env.τ j:=fun k j hk=>by show (match q.h[k]? with | some j=>_ | none=>_)=_; rw [hk]
  have hnb:((t.inst N (x1,x2,z)).cx S0 (X.env.sub q p) X.m).nb=q.g.length:=by show (bxI id id t.bx x2).length=_; rw [hsl,hgl]
  have hSle : ∀i,(t.inst N (x1,x2,z)).S S0 (X.env.sub q p) i→X.S i:=by
   intro i w; rcases w with w|⟨k,hk,hh,he⟩|w
   ·exact hS i w
   ·have hk':k<q.g.length:=by rw [←hnb]; exact hk
    have hgk:q.g[k]? = some q.g[k]:=by simp [hk']
    rw [hβ k _ hgk] at he; rw [hhas k _ hgk] at hh; rw [←he]; exact hT.inS _ (by rw [hT.nb]; exact hjl k _ hgk) (by rw [hT.has]; exact hh)
   ·exact hT.φS i w.2
  have hmono:Mono X.S X.m ((t.inst N (x1,x2,z)).S S0 (X.env.sub q p)) X.m:=fun i r hr hn=>⟨hr,fun w=>hn (hSle i w)⟩
  have hR:Ren2 X ((t.inst N (x1,x2,z)).cx S0 (X.env.sub q p) X.m) q id id:=by
   refine ⟨hmono,Nat.le_refl _,fun _ _ q=>q,fun k j hk=>⟨by rw [hnb]; exact lt_of_get hk,hβ k j hk,fun w => ?_,fun L w => ?_⟩,fun k j b hk hb => ?_⟩
   ·rw [hT.has,←hhas k j hk]; exact w
   ·rw [hT.len,←hlenk k j hk]; exact w
   ·have hkl:k<(bfI t.bf z).length:=by rw [hb1]; exact lt_of_get hk
    obtain ⟨j',h5,h6⟩:=hb2 k (bfI t.bf z)[k] (by simp [hkl]); rw [hk] at h5; cases h5; rw [hb] at h6; refine ⟨b.live, ?_,hτ k j hk⟩; show (bfI t.bf z)[k]? = some b; rw [h6]; simp [hkl]
  have hbr2:=bxM_rep (rx:=id) (rb:=id) hT hbf hbx h2 (GH.le.refl _) hR; have hfr:Fr2 (fun _=>False) (fun _=>False) X.m X.m:=Fr2.refl hT.free; have hbd : ∀k k',k<q.g.length→k'<q.g.length→hasOf (t.inst N (x1,x2,z)).bx k=true→hasOf (t.inst N (x1,x2,z)).bx k'=true→(X.env.sub q p).β k=(X.env.sub q p).β k'→k=k':=by
   intro k k' g1' g2' a1 a2 ge; have hk:q.g[k]? = some q.g[k]:=by simp [g1']
   have hk':q.g[k']? = some q.g[k']:=by simp [g2']
   have ge':X.env.β q.g[k]=X.env.β q.g[k']:=(hβ _ _ hk).symm.trans (ge.trans (hβ _ _ hk'))
   have heq:=hT.bxd _ _ (by rw [hT.nb]; exact hjl k _ hk) (by rw [hT.nb]; exact hjl k' _ hk') (by rw [hT.has,←hhas _ _ hk]; exact a1) (by rw [hT.has,←hhas _ _ hk']; exact a2) ge'
   exact nodupN_sound hc2 k k' _ hk (by rw [heq]; exact hk')
  refine ⟨⟨hT.free,hT.bar,rfl,rfl,rfl,fun k hk hh => .inr (.inl ⟨k,hk,hh,rfl⟩),fun i w=>hT.slt i (hSle i w),fun k b hb => ?_,fun k k' b b' i g1 g2 l1 l2 t1 t2 => ?_,fun k cs hcs => ?_,fun k k' g1 g2 a1 a2 ge => ?_,fun i w => .inr (.inr w),fun k hk hh w => ?_,hT.rts,hT.unq⟩,
   slM_rep hT h1 (bxM_le h2) hacc hR,hgl,hsl,hb1,((slM_le h1).trans (bxM_le h2)).g,hb2,fun k j hk=>⟨hjl k j hk,hhas k j hk,hlenk k j hk⟩,hc2,hc3⟩
  ·obtain ⟨j,h5,h6⟩:=hb2 k b hb; exact BufOK.le (Y:=(t.inst N (x1,x2,z)).cx S0 (X.env.sub q p) X.m) hfr hmono (fun _ w=>w.elim) (hτ k j h5) (hT.bf j b h6) (fun _ _ _ w=>w)
  ·obtain ⟨j,h5,h6⟩:=hb2 k b g1; obtain ⟨j',h5',h6'⟩:=hb2 k' b' g2; have t1':X.env.τ j=some i:=(hτ k j h5).symm.trans t1
   have t2':X.env.τ j'=some i:=(hτ k' j' h5').symm.trans t2
   have:=hT.bfd j j' b b' i h6 h6' l1 l2 t1' t2'
   subst this; exact nodupN_sound hc3 k k' j h5 h5'
  ·obtain ⟨j,cs0,h5,h6,k1,k2,k3,k4⟩:=hshape k cs hcs; obtain ⟨j2,cs2,h5',h6',h7,h7g⟩:=hbr2 k cs hcs; rw [Nat.zero_add] at h5 h5'; rw [h5] at h5'; cases h5'; rw [h6] at h6'; cases h6'; have hb:((t.inst N (x1,x2,z)).cx S0 (X.env.sub q p) X.m).env.β k=X.env.β j:=hβ k j h5; have hgne:q.g ≠ []:=fun e=>by rw [e] at h5; simp at h5
   have runle : ∀{arr:Bool} {e:Ty} {xs:List e.El},RunOK P X j arr e xs→RunOK P ((t.inst N (x1,x2,z)).cx S0 (X.env.sub q p) X.m) k arr e xs:=fun hr=>
    RunOK.le (X:=X) (Y:=(t.inst N (x1,x2,z)).cx S0 (X.env.sub q p) X.m) (Wb:=fun _=>False) (Wl:=fun _=>False) hT.free hT.rts hfr hmono (fun i w=>⟨hp hgne,w⟩) (fun _=>hb) hr (fun _ w=>w) (fun _ w=>w)
   cases hrun:isRun cs0 with
   | false=>
    refine BoxOK.of (k1.trans hrun) ?_; obtain ⟨b,c,e,fr,g1,g2,g3,g4,g5,g7⟩:=(hT.bx j cs0 h6).cel hrun; unfold CelOK; rw [hb]; exact ⟨b,c,e,fr,g1,g2,g3,g4,g5,h7 g7⟩
   | true=>
    rcases k4 hrun with ⟨own,e,xs,rfl,rfl⟩|⟨e,xs,rfl,rfl⟩|⟨rfl,rfl⟩|⟨c,l0,l1,rfl,rfl,hren⟩|⟨e,xs,rfl,rfl⟩|⟨hs0,hs1,htg⟩
    ·have hB:=hT.bx j _ h6; exact ⟨runle hB.1,fun q=>by cases q⟩
    ·exact runle (hT.bx j _ h6)
    ·trivial
    ·obtain ⟨k0,es,g1,g2,g3,g4,g5,g7⟩:=hT.bx j _ h6; show MapOK P _ k c l1; unfold MapOK; rw [hb]; exact ⟨k0,es,g1,g2,g3,g4,g5,ren_ents hR hren g7⟩
    ·obtain ⟨k0,es,ck,g1,g2,g3,g4,g5,g7⟩:=hT.bx j _ h6; show MsOK P _ k e xs; unfold MsOK; rw [hb]; exact ⟨k0,es,ck,g1,g2,g3,g4,g5,g7.mono hR.mono⟩
    ·refine BoxOK.ofSg hs1 ?_; obtain ⟨k0,ws,g1,g3,g4,g5,g7,g8⟩:=(hT.bx j cs0 h6).sg hs0; unfold SegOK; rw [hb]; exact ⟨k0,ws,g1,g3,g4,g5,h7g g7,by rw [htg]; exact g8⟩
  ·exact hbd k k' (by rw [←hnb]; exact g1) (by rw [←hnb]; exact g2) a1 a2 ge
  ·have hk':k<q.g.length:=by rw [←hnb]; exact hk
   have hgk:q.g[k]? = some q.g[k]:=by simp [hk']
   have w':X.env.φ ((X.env.sub q p).β k):=w.2
   rw [hβ k _ hgk] at w'; exact hT.φd _ (by rw [hT.nb]; exact hjl k _ hgk) (by rw [hT.has,←hhas k _ hgk]; exact hh) w'
end Go.IM.V
namespace Go.IM.V
open Go Go.IM
variable {P:Program} {m m1:M} {S0:Nat→Prop} {env env1:Env} {a:Act} {vs:VS} {X Y:Cx}
def Tm.cx (t:Tm) (x:t.E) (S0:Nat→Prop) (env:Env) (m:M):Cx:=(t.inst 0 x).cx S0 env m
structure Ended (P:Program) (X:Cx) (S0:Nat→Prop) (env1:Env) (m1:M) (t:Tm) (x:t.E):Prop where
 fr:Fr2 (Wb X) (Wl X) X.m m1
 T:RelT P (t.cx x S0 env1 m1) (t.inst 0 x).bx
 β : ∀j,j<X.nb→j<t.bx.length∧((t.cx x S0 env1 m1).has j=true→env1.β j=X.env.β j)
 wb : ∀i,Wb (t.cx x S0 env1 m1) i→Wb X i∨X.m.nxt≤i
 wl : ∀i,Wl (t.cx x S0 env1 m1) i→Wl X i∨Wb X i∨X.m.nxt≤i
 has : ∀j,j<X.nb→(t.cx x S0 env1 m1).has j=true→X.has j=true
 len : ∀j L,j<X.nb→(t.cx x S0 env1 m1).len j=some L→X.len j=some L
 φ : ∀i,X.env.φ i→env1.φ i
def Bars (X:Cx):Prop := ∀i,Wb X i→X.m.bar≤i
def EndsC (P:Program) (Y:Cx) (e:Out) (sl:List (Nat × S1)) (c:COut):Prop:=
 match e with
 | .ret => ∃v,c = .ret v∧repV P Y (resSl sl) v
 | .pnc w=>c = .pnc w
 | _=>False
def Con.OK (P:Program) [Orc P] (k:FuncId) (con:Con):Prop:=
 ∀x y,con.F x=some y → ∀(S0:Nat→Prop) (env:Env) (m:M) (args:Array Value),RelT P (con.ins.cx x S0 env m) (con.ins.inst 0 x).bx→Bars (con.ins.cx x S0 env m)→repSlots P (con.ins.cx x S0 env m) (fun i=>args.getD i undef) (slI id id con.ins.sl x.1)→args.size=con.ins.sl.length →
  ∃c m1 env1,Cal P k args m c m1∧Ended P (con.ins.cx x S0 env m) S0 env1 m1 (con.out.out y).2.1 (con.out.out y).2.2 ∧
   EndsC P ((con.out.out y).2.1.cx (con.out.out y).2.2 S0 env1 m1) (con.out.out y).1 (slI id id (con.out.out y).2.1.sl (con.out.out y).2.2.1) c
def Con.OKR (P:Program) [Orc P] (k:FuncId) (con:Con):Prop:=
 ∀x y,con.F x=some y → ∀(S0:Nat→Prop) (env:Env) (m:M) (args:Array Value),RelT P (con.ins.cx x S0 env m) (con.ins.inst 0 x).bx→repSlots P (con.ins.cx x S0 env m) (fun i=>args.getD i undef) (slI id id con.ins.sl x.1)→args.size=con.ins.sl.length →
  ∃c m1 env1,Cal P k args m c m1∧Ended P (con.ins.cx x S0 env m) S0 env1 m1 (con.out.out y).2.1 (con.out.out y).2.2 ∧
   EndsC P ((con.out.out y).2.1.cx (con.out.out y).2.2 S0 env1 m1) (con.out.out y).1 (slI id id (con.out.out y).2.1.sl (con.out.out y).2.2.1) c
def Con.LOK (P:Program) [Orc P] (N:Nat) (b:Code) (con:Con):Prop:=
 ∀x y,con.F x=some y → ∀(S0:Nat→Prop) (env:Env) (m:M) (a:Act),N≤a.tmps.size→RelT P (con.ins.cx x S0 env m) (con.ins.inst 0 x).bx→Bars (con.ins.cx x S0 env m)→repSlots P (con.ins.cx x S0 env m) (fun i=>a.tmps.getD i undef) (slI id id con.ins.sl x.1) →
  ∃a1 m1 env1,Ev.To P (.loop b) a m (con.out.out y).1 a1 m1∧Ended P (con.ins.cx x S0 env m) S0 env1 m1 (con.out.out y).2.1 (con.out.out y).2.2∧(con.out.out y).1 ≠ .normal∧a1.defers=a.defers ∧
   repSlots P ((con.out.out y).2.1.cx (con.out.out y).2.2 S0 env1 m1) (fun i=>a1.tmps.getD i undef) (slI id id (con.out.out y).2.1.sl (con.out.out y).2.2.1)
def keyR (k:Nat):Bool:=Nat.ble 3000000 k && Nat.blt k 4000000
def TabOK (P:Program) [Orc P]:Tab→Prop
 | []=>True
 | (k,c)::l=>(bif keyR k then c.OKR P (k - 3000000) else c.OK P k)∧TabOK P l
theorem keyR_lo {k:Nat} (h:Nat.blt k 1000000=true):keyR k=false:=by
 unfold keyR; have h1:=Nat.le_of_ble_eq_true (show Nat.ble (k+1) 1000000=true from h); have:Nat.ble 3000000 k=false:=by
  cases hq:Nat.ble 3000000 k with
  | false=>rfl
  | true=>have:=Nat.le_of_ble_eq_true hq; omega
 rw [this]; rfl
theorem TabOK.gets [Orc P] {C:Tab} (h:TabOK P C) {k:Nat} (hk:Nat.blt k 1000000=true) : ∀c∈lookCs C k,c.OK P k:=by
 induction C with
 | nil=>intro c hc; cases hc
 | cons p C ih=>
  obtain ⟨k',c'⟩:=p; intro c hc; simp only [lookCs] at hc; cases hb:Nat.beq k' k with
  | true=>
   rw [hb] at hc; have:=Nat.eq_of_beq_eq_true hb
   subst this; rcases List.mem_cons.1 hc with rfl | hc
   ·have:=h.1; rw [keyR_lo hk] at this; exact this
   ·exact ih h.2 c hc
  | false=>rw [hb] at hc; exact ih h.2 c hc
theorem TabOK.getsR [Orc P] {C : Tab} (h : TabOK P C) {k : Nat} (hk : Nat.blt k 1000000 = true) : ∀ c ∈ lookCs C (3000000 + k), c.OKR P k := by
 induction C with
 | nil=>intro c hc; cases hc
 | cons p C ih =>
  obtain ⟨k',c'⟩:=p; intro c hc; simp only [lookCs] at hc; cases hb:Nat.beq k' (3000000+k) with
  | true=>
   rw [hb] at hc; have e:=Nat.eq_of_beq_eq_true hb; subst e; rcases List.mem_cons.1 hc with rfl | hc
   ·have hkr:keyR (3000000+k)=true:=by
     unfold keyR; have h1:k<1000000:=Nat.le_of_ble_eq_true (show Nat.ble (k+1) 1000000=true from hk); have h2:Nat.ble 3000000 (3000000+k)=true:=Nat.ble_eq_true_of_le (by omega); have h3:Nat.blt (3000000+k) 4000000=true:=Nat.ble_eq_true_of_le (by omega); rw [h2,h3]; rfl
    have:=h.1
    rw [hkr] at this; have h4:3000000+k - 3000000=k:=by omega
    rw [h4] at this; exact this
   ·exact ih h.2 c hc
  | false=>rw [hb] at hc; exact ih h.2 c hc
theorem bufW_ren {X Z:Cx} (hm:Mono X.S X.m Z.S Z.m) {b:Bf} {l:Bool} {t:Option Nat} {w:Value} (h:bufW P X b t w):bufW P Z { b with live:=l } t w:=by
 cases t with
 | none=>exact ⟨h.1,h.2.mono hm fun _ _ q=>repE.mono hm q⟩
 | some i=>exact h
structure Ren3 (Y Z:Cx) (rx rb:Nat→Nat):Prop where
 mono:Mono Y.S Y.m Z.S Z.m
 nxt:Y.m.nxt≤Z.m.nxt
 ty : ∀i e,Y.m.typ i=some e→Z.m.typ i=some e
 box : ∀t,t<Y.nb→rx t<Z.nb∧(Z.has (rx t)=true→Z.env.β (rx t)=Y.env.β t)∧(Z.has (rx t)=true→Y.has t=true) ∧ ∀L,Z.len (rx t)=some L→Y.len t=some L
 hl : ∀j L,Z.len j=some L→0<L→Z.has j=true
 buf : ∀(t:Nat) (b:Bf),Y.bf[t]? = some b → ∃l,Z.bf[rb t]? = some { b with live:=l }∧Z.env.τ (rb t)=Y.env.τ t
theorem exp_mono {S' : Nat → Prop} {m' : M} {Z : Cx} (hm : Mono Y.S Y.m Z.S Z.m) : ∀ {t : Ty} {x : t.El} {ws : List Value}, repCs P Y (exp t x) ws → repCs P Z (exp t x) ws := by
 intro t; induction t with
 | l e ih=>
  intro x ws h; cases ws with
  | nil=>exact h.elim
  | cons w ws=>exact ⟨repL.mono (P:=P) (n:=e.n) (R:=repE P Y.S Y.m e) hm (fun _ _ q=>repE.mono hm q) h.1,by cases ws with
   | nil=>trivial
   | cons=>exact h.2.elim⟩
 | h e ih=>
  intro x ws h; cases ws with
  | nil=>exact h.elim
  | cons w ws=>exact ⟨repL.mono (P:=P) (n:=e.n) (R:=repE P Y.S Y.m e) hm (fun _ _ q=>repE.mono hm q) h.1,by cases ws with
   | nil=>trivial
   | cons=>exact h.2.elim⟩
 | p t1 t2 ih1 ih2 =>
  intro x ws h; have hl:=repCs_len h; have hsplit : ∀{cs ds:List Cl} {ws:List Value},repCs P Y (cs++ds) ws → ∃w1 w2,ws=w1++w2∧repCs P Y cs w1∧repCs P Y ds w2:=by
   intro cs; induction cs with
   | nil=>intro ds ws h; exact ⟨[],ws,rfl,trivial,h⟩
   | cons c cs ih=>intro ds ws h; cases ws with
    | nil=>exact h.elim
    | cons w ws=>
     obtain ⟨w1,w2,rfl,h1,h2⟩:=ih h.2; exact ⟨w::w1,w2,rfl,⟨h.1,h1⟩,h2⟩
  obtain ⟨w1,w2,rfl,h1,h2⟩:=hsplit h; exact repCs_append (ih1 h1) (ih2 h2)
 | u=>intro x ws h; cases ws with
  | nil=>trivial
  | cons=>exact h.elim
 | _=>intro x ws h; cases ws with
  | nil=>exact h.elim
  | cons w ws=>exact ⟨h.1,by cases ws with
   | nil=>trivial
   | cons=>exact h.2.elim⟩
theorem ptI_ren {Z:Cx} {rx rb:Nat→Nat} (hR:Ren3 Y Z rx rb) {p:Pt} {x:PtE p} {w:Value} (h:repS P Y (ptI id id p x) w):repS P Z (ptI rx rb p x) w:=by
 cases p with
 | v t=>
  show repS P Z (s1Of t x) w; have h':repS P Y (s1Of t x) w:=h
  cases t with
  | p t1 t2=>obtain ⟨b,rfl,h2⟩:=h'; exact ⟨b,rfl,exp_mono (S':=fun _=>False) (m':=Y.m) hR.mono (t := .p t1 t2) h2⟩
  | u=>obtain ⟨b,rfl,h2⟩:=h'; exact ⟨b,rfl,exp_mono (S':=fun _=>False) (m':=Y.m) hR.mono (t := .u) (x:=()) h2⟩
  | l e=>exact repL.mono (P:=P) (n:=e.n) (R:=repE P Y.S Y.m e) hR.mono (fun _ _ q=>repE.mono hR.mono q) h'
  | h e=>exact repL.mono (P:=P) (n:=e.n) (R:=repE P Y.S Y.m e) hR.mono (fun _ _ q=>repE.mono hR.mono q) h'
  | _=>exact h'
 | o t=>
  obtain ⟨b,h1,h2⟩:=h; obtain ⟨l',h3,h5⟩:=hR.buf t b h1; refine ⟨_,h3, ?_⟩; rw [h5]; exact bufW_ren hR.mono h2
 | p t off=>
  obtain ⟨h1,i,h2,h7,h5⟩:=h; obtain ⟨h3,h4,h6,_⟩:=hR.box t h1; exact ⟨h3,i,h2,Nat.lt_of_lt_of_le h7 hR.nxt,fun w=>by rw [h4 w]; exact h5 (h6 w)⟩
 | mv t=>
  obtain ⟨h1,i,h2,h7,h5⟩:=h; obtain ⟨h3,h4,h6,_⟩:=hR.box t h1; exact ⟨h3,i,h2,Nat.lt_of_lt_of_le h7 hR.nxt,fun w=>by rw [h4 w]; exact h5 (h6 w)⟩
 | mx c l=>exact (show False from h).elim
 | mt ks=>exact (show False from h).elim
 | sg n e=>exact (show False from h).elim
 | ms e=>exact (show False from h).elim
 | fn f=>exact h
 | m e t=>
  obtain ⟨h1,h2,h5⟩:=h; obtain ⟨h3,h4,_,h6⟩:=hR.box t h1; exact ⟨h3,⟨h2.1,h2.2.mono hR.nxt⟩,fun L hL=>⟨(h5 L (h6 L hL)).1,fun w=>by rw [h4 (hR.hl _ L hL w)]; exact (h5 L (h6 L hL)).2 w⟩⟩
 | r e=>exact h
 | ra e=>exact h
 | g=>exact h
 | nl=>exact h
 | ns=>exact h
 | sb e n t=>
  obtain ⟨h1,h2,h5⟩:=h; obtain ⟨h3,h4,h6,_⟩:=hR.box t h1; exact ⟨h3,⟨h2.1,h2.2.mono hR.nxt⟩,fun w=>by
   rw [h4 w]; obtain ⟨u1,eo,u2,u3⟩:=h5 (h6 w); exact ⟨u1,eo,hR.ty _ _ u2,u3⟩⟩
 | ki k n=>exact h
 | kt n=>exact h
 | va t=>
  show repS P Z (fog (s1Of t x)) w; have h':repS P Y (fog (s1Of t x)) w:=h
  exact fog_any hR.nxt h'
 | ip u t off=>
  obtain ⟨h1,i,h2,h7,h5⟩:=h; obtain ⟨h3,h4,h6,_⟩:=hR.box t h1; exact ⟨h3,i,h2,Nat.lt_of_lt_of_le h7 hR.nxt,fun w=>by rw [h4 w]; exact h5 (h6 w)⟩
 | w e t=>
  obtain ⟨h1,h2,h5⟩:=h; obtain ⟨h3,h4,_,h6⟩:=hR.box t h1; exact ⟨h3,⟨h2.1,h2.2.mono hR.nxt⟩,fun L hL=>⟨(h5 L (h6 L hL)).1,(h5 L (h6 L hL)).2.1,fun w=>by rw [h4 (hR.hl _ L hL w)]; exact (h5 L (h6 L hL)).2.2 w⟩⟩
 | x=>trivial
theorem ents_ren {Z:Cx} {rx rb:Nat→Nat} (hR:Ren3 Y Z rx rb) : ∀{l:List (ByteArray × Nat × Nat)} {es:List MapEntry},entsOK P Y (l.map fun q=>(q.1,q.2.1,q.2.2)) es→entsOK P Z (l.map fun q=>(q.1,q.2.1,rx q.2.2)) es:=by
 intro l; induction l with
 | nil=>intro es h; cases es <;> exact h
 | cons a l ih=>intro es h; cases es with
  | nil=>exact h.elim
  | cons e es=>
   obtain ⟨⟨k1,k2,k3⟩,k4⟩:=h; exact ⟨⟨k1,k2,ptI_ren (P:=P) (p := .p a.2.2 0) (x:=()) hR k3⟩,ih k4⟩
theorem slI_ren {Z:Cx} {rx rb:Nat→Nat} (hR:Ren3 Y Z rx rb) {av:Nat→Value} : ∀{l:List (Nat × Pt)} {x:SlE l},repSlots P Y av (slI id id l x)→repSlots P Z av (slI rx rb l x):=by
 intro l; induction l with
 | nil=>intro x h; trivial
 | cons p l ih=>intro x h; exact ⟨ptI_ren hR h.1,ih h.2⟩
theorem clOf_ren {Z:Cx} {rx rb:Nat→Nat} (hR:Ren3 Y Z rx rb) {p:Pt} {x:PtE p} {w:Value} (h:repC P Y (clOf (ptI id id p x)) w):repC P Z (clOf (ptI rx rb p x)) w:=by
 cases p with
 | v t=>
  cases t with
  | p t1 t2=>trivial
  | u=>trivial
  | l e=>exact repL.mono (P:=P) (n:=e.n) (R:=repE P Y.S Y.m e) hR.mono (fun _ _ q=>repE.mono hR.mono q) h
  | h e=>exact repL.mono (P:=P) (n:=e.n) (R:=repE P Y.S Y.m e) hR.mono (fun _ _ q=>repE.mono hR.mono q) h
  | _=>exact h
 | o t=>exact ptI_ren (P:=P) (p := .o t) (x:=x) hR h
 | p t off=>exact ptI_ren (P:=P) (p := .p t off) (x:=x) hR h
 | mv t=>exact ptI_ren (P:=P) (p := .mv t) (x:=x) hR h
 | mx c l=>exact (show False from h).elim
 | mt ks=>exact (show False from h).elim
 | sg n e=>exact (show False from h).elim
 | ms e=>exact (show False from h).elim
 | fn f=>exact h
 | m e t=>exact ptI_ren (P:=P) (p := .m e t) (x:=x) hR h
 | r e=>exact h
 | ra e=>exact h
 | g=>exact h
 | nl=>exact h
 | ns=>exact h
 | sb e n t=>exact ptI_ren (P:=P) (p := .sb e n t) (x:=x) hR h
 | ki k n=>exact h
 | kt n=>exact h
 | va t=>
  have h':repC P Y (clOf (fog (s1Of t x))) w:=h
  show repC P Z (clOf (fog (s1Of t x))) w; generalize s1Of t x=s at h'; cases s with
  | s c=>exact fogC_any (P:=P) (c:=c) hR.nxt h'
  | _=>trivial
 | ip u t off=>exact ptI_ren (P:=P) (p := .ip u t off) (x:=x) hR h
 | w e t=>exact ptI_ren (P:=P) (p := .w e t) (x:=x) hR h
 | x=>trivial
theorem ptI_sg {p:Pt} {x:PtE p} {rx rb:Nat→Nat}:isSg (clOf (ptI rx rb p x))=isSg (clOf (ptI id id p x)):=by
 cases p <;> first | rfl
theorem ceI_sg : ∀{l:List Pt} {x:CeE l} {rx rb:Nat→Nat},(ceI rx rb l x).any isSg=(ceI id id l x).any isSg:=by
 intro l; induction l with
 | nil=>intro x rx rb; rfl
 | cons p l ih=>
  intro x rx rb; show (clOf (ptI rx rb p x.1)::ceI rx rb l x.2).any isSg=(clOf (ptI id id p x.1)::ceI id id l x.2).any isSg; rw [List.any_cons,List.any_cons,ih,ptI_sg]
theorem ceI_tag {l:List Pt} {x:CeE l} {rx rb:Nat→Nat}:tagM (ceI rx rb l x)=tagM (ceI id id l x):=by
 cases l with
 | nil=>rfl
 | cons p l=>
  show tagM (clOf (ptI rx rb p x.1)::_)=tagM (clOf (ptI id id p x.1)::_); cases hs:isSg (clOf (ptI id id p x.1)) with
  | false=>rw [tagM_none hs,tagM_none (ptI_sg.trans hs)]
  | true=>
   obtain ⟨x,x2⟩:=x; cases p with
   | sg n e=>rfl
   | mt ks=>rfl
   | v t=>have:=noSg (s1Of_norun (t:=t) (x:=x)).1; rw [List.any_cons,Bool.or_eq_false_iff] at this; rw [show isSg (clOf (ptI id id (.v t) x))=false from this.1] at hs; cases hs
   | va t=>have:=noSg (fog_norun (s1Of t x)).1; rw [List.any_cons,Bool.or_eq_false_iff] at this; rw [show isSg (clOf (ptI id id (.va t) x))=false from this.1] at hs; cases hs
   | _=>cases hs
theorem ceI_kinds {rx rb:Nat→Nat} {ps:List Pt} {z:CeE ps}:(isRun (ceI rx rb ps z)=false∧isRun (ceI id id ps z)=false) ∨
  (((∃e xs,ceI rx rb ps z = [.r false e xs])∨(∃e xs,ceI rx rb ps z = [.ra e xs])∨ceI rx rb ps z = [.g]∨(∃e xs,ceI rx rb ps z = [.ms e xs]))∧ceI id id ps z=ceI rx rb ps z) ∨
  (∃(c:Nat) (l:List (ByteArray × Nat × Nat)),ceI rx rb ps z = [.mx c (l.map fun q=>(q.1,q.2.1,rx q.2.2))]∧ceI id id ps z = [.mx c (l.map fun q=>(q.1,q.2.1,q.2.2))]) ∨
  ((ceI rx rb ps z).any isSg=true∧(ceI id id ps z).any isSg=true):=by
 cases ps with
 | nil=>exact .inl ⟨rfl,rfl⟩
 | cons p ps=>cases ps with
  | nil=>
   obtain ⟨z,_⟩:=z; cases p with
   | v t=>exact .inl ⟨s1Of_norun.1,s1Of_norun.1⟩
   | r e=>exact .inr (.inl ⟨.inl ⟨e,z,rfl⟩,rfl⟩)
   | ra e=>exact .inr (.inl ⟨.inr (.inl ⟨e,z,rfl⟩),rfl⟩)
   | g=>exact .inr (.inl ⟨.inr (.inr (.inl rfl)),rfl⟩)
   | ms e=>exact .inr (.inl ⟨.inr (.inr (.inr ⟨e,z,rfl⟩)),rfl⟩)
   | mx c l=>exact .inr (.inr (.inl ⟨c,l,rfl,rfl⟩))
   | sg n e=>exact .inr (.inr (.inr ⟨rfl,rfl⟩))
   | mt ks=>exact .inr (.inr (.inr ⟨rfl,rfl⟩))
   | va t=>exact .inl ⟨(fog_norun _).1,(fog_norun _).1⟩
   | _=>exact .inl ⟨rfl,rfl⟩
  | cons p2 ps=>
   have hq:=ceI_sg (l:=p::p2::ps) (x:=z) (rx:=rx) (rb:=rb); cases hs:(ceI rx rb (p::p2::ps) z).any isSg with
   | false=>exact .inl ⟨(isRun2 _ _ _).1.trans hs,(isRun2 _ _ _).1.trans (hq.symm.trans hs)⟩
   | true=>exact .inr (.inr (.inr ⟨rfl,hq.symm.trans hs⟩))
theorem ceI_has {rx rb:Nat→Nat} {ps:List Pt} {z:CeE ps}:has1 (ceI rx rb ps z)=has1 (ceI id id ps z)∧len1 (ceI rx rb ps z)=len1 (ceI id id ps z):=by
 rcases ceI_kinds (rx:=rx) (rb:=rb) (ps:=ps) (z:=z) with ⟨h1,h2⟩|⟨_,h2⟩|⟨c,l,h1,h2⟩|⟨h1,h2⟩
 ·exact ⟨(has1_cel h1).trans (has1_cel h2).symm,(len1_cel h1).trans (len1_cel h2).symm⟩
 ·rw [h2]; exact ⟨rfl,rfl⟩
 ·rw [h1,h2]; exact ⟨rfl,rfl⟩
 ·exact ⟨(has1_sg h1).1.trans (has1_sg h2).1.symm,(has1_sg h1).2.trans (has1_sg h2).2.symm⟩
theorem ownBx_sg (o:Bool) {cs:List Cl} (h:cs.any isSg=true):ownBx o cs=cs:=by
 unfold ownBx; split
 ·cases h
 ·rfl
theorem ownBx_shape (o:Bool) (cs:List Cl):isRun (ownBx o cs)=isRun cs∧has1 (ownBx o cs)=has1 cs∧len1 (ownBx o cs)=len1 cs∧(isRun cs=false→ownBx o cs=cs):=by
 unfold ownBx; split
 ·exact ⟨rfl,rfl,rfl,fun q=>by cases q⟩
 ·exact ⟨rfl,rfl,rfl,fun _=>rfl⟩
theorem keepBx_shape (old:Option (List Cl)) (cs:List Cl):isRun (keepBx old cs)=isRun cs∧has1 (keepBx old cs)=has1 cs∧len1 (keepBx old cs)=len1 cs∧(isRun cs=false→keepBx old cs=cs):=by
 unfold keepBx; split
 ·exact ownBx_shape _ _
 ·exact ⟨rfl,rfl,rfl,fun _=>rfl⟩
theorem ceI_ren {Z:Cx} {rx rb:Nat→Nat} (hR:Ren3 Y Z rx rb) : ∀{l:List Pt} {x:CeE l} {ws:List Value},repCs P Y (ceI id id l x) ws→repCs P Z (ceI rx rb l x) ws:=by
 intro l; induction l with
 | nil=>intro x ws h; cases ws with
  | nil=>trivial
  | cons=>exact h.elim
 | cons p l ih=>intro x ws h; cases ws with
  | nil=>exact h.elim
  | cons w ws=>exact ⟨clOf_ren hR h.1,ih h.2⟩
theorem ceI_renG {Z:Cx} {rx rb:Nat→Nat} (hR:Ren3 Y Z rx rb) : ∀{l:List Pt} {x:CeE l} {ws:List Value},repG P Y (ceI id id l x) ws→repG P Z (ceI rx rb l x) ws:=by
 intro l; induction l with
 | nil=>intro x ws h; exact h
 | cons p l ih=>
  intro x ws h; obtain ⟨w1,w2,g1,g2,g3⟩:=h; refine ⟨w1,w2,g1, ?_,ih g3⟩; cases hs:isSg (clOf (ptI id id p x.1)) with
  | false=>
   obtain ⟨w,k1,k2⟩:=(repW_of hs).1 g2; exact (repW_of (ptI_sg.trans hs)).2 ⟨w,k1,clOf_ren hR k2⟩
  | true=>
   obtain ⟨x,x2⟩:=x; cases p with
   | sg n e=>exact ⟨g2.1,g2.2.1,fun k y hy=>repE.mono hR.mono (g2.2.2 k y hy)⟩
   | mt ks=>exact g2
   | v t=>have:=noSg (s1Of_norun (t:=t) (x:=x)).1; rw [List.any_cons,Bool.or_eq_false_iff] at this; rw [show isSg (clOf (ptI id id (.v t) x))=false from this.1] at hs; cases hs
   | va t=>have:=noSg (fog_norun (s1Of t x)).1; rw [List.any_cons,Bool.or_eq_false_iff] at this; rw [show isSg (clOf (ptI id id (.va t) x))=false from this.1] at hs; cases hs
   | _=>cases hs
theorem bxI_get : ∀{l:List (List Pt)} {x:BxE l} {rx rb:Nat→Nat} {k:Nat} {cs:List Cl},(bxI rx rb l x)[k]? = some cs → ∃(ps:List Pt) (z:CeE ps),cs=ceI rx rb ps z∧(bxI id id l x)[k]? = some (ceI id id ps z):=by
 intro l; induction l with
 | nil=>intro x rx rb k cs h; cases h
 | cons p l ih=>
  intro x rx rb k cs h; cases k with
  | zero=>cases h; exact ⟨p,x.1,rfl,rfl⟩
  | succ k=>exact ih (x:=x.2) h
theorem bxI_len : ∀{l:List (List Pt)} {x:BxE l} {rx rb:Nat→Nat},(bxI rx rb l x).length=l.length:=by
 intro l; induction l with
 | nil=>intro x rx rb; rfl
 | cons p l ih=>intro x rx rb; show (_::_).length=_; simp [ih]
theorem resSl_ren {Z:Cx} {rx rb:Nat→Nat} (hR:Ren3 Y Z rx rb) {l:List (Nat × Pt)} {x:SlE l} {v:Value} (h:repV P Y (resSl (slI id id l x)) v):repV P Z (resSl (slI rx rb l x)) v:=by
 have key : ∀{l:List (Nat × Pt)} {x:SlE l} {ws:List Value},repSs P Y ((slI id id l x).map (·.2)) ws→repSs P Z ((slI rx rb l x).map (·.2)) ws:=by
  intro l; induction l with
  | nil=>intro x ws h; cases ws with
   | nil=>trivial
   | cons=>exact h.elim
  | cons p l ih=>intro x ws h; cases ws with
   | nil=>exact h.elim
   | cons w ws=>exact ⟨ptI_ren hR h.1,ih h.2⟩
 cases l with
 | nil=>obtain ⟨b,rfl,h2⟩:=h; exact ⟨b,rfl,key (l := []) (x:=x) h2⟩
 | cons p l=>cases l with
  | nil=>exact ptI_ren hR h
  | cons p2 l=>obtain ⟨b,rfl,h2⟩:=h; exact ⟨b,rfl,key (l:=p::p2::l) (x:=x) h2⟩
theorem giveBx_len : ∀{o:Bool} {g:List Nat} {cs bx:List (List Cl)},g.length≤cs.length→(giveBx o g cs bx).length=bx.length+(cs.length - g.length):=by
 intro o g; induction g with
 | nil=>intro cs bx h; cases cs <;> simp [giveBx]
 | cons j g ih=>
  intro cs bx h; cases cs with
  | nil=>simp at h
  | cons c cs=>simp only [giveBx]; rw [ih (by simpa using h),setL_length]; simp
theorem giveBx_nil (o:Bool) (cs bx:List (List Cl)):giveBx o [] cs bx=bx++cs.map (ownBx o):=by cases cs <;> rfl
theorem giveBx_new : ∀{o:Bool} {g:List Nat} {cs bx:List (List Cl)} {j:Nat},g.length≤cs.length→bx.length≤j→(giveBx o g cs bx)[j]? = (cs[g.length+(j - bx.length)]?).map (ownBx o):=by
 intro o g; induction g with
 | nil=>
  intro cs bx j h hj; rw [giveBx_nil,List.getElem?_append_right hj]; simp
 | cons i g ih=>
  intro cs bx j h hj; cases cs with
  | nil=>simp at h
  | cons c cs=>
   simp only [giveBx]; rw [ih (by simpa using h) (by rw [setL_length]; exact hj),setL_length]
   rw [List.length_cons,show g.length+1+(j - bx.length)=g.length+(j - bx.length)+1 by omega,List.getElem?_cons_succ]
theorem giveBx_old : ∀{o:Bool} {g:List Nat} {cs bx:List (List Cl)} {j:Nat},g.length≤cs.length→j<bx.length→(∀k:Nat,g[k]? ≠ some j)→(giveBx o g cs bx)[j]? = bx[j]? := by
 intro o g; induction g with
 | nil=>
  intro cs bx j h hj _; rw [giveBx_nil,List.getElem?_append_left hj]
 | cons i g ih=>
  intro cs bx j h hj hn; cases cs with
  | nil=>simp at h
  | cons c cs=>
   simp only [giveBx]; rw [ih (by simpa using h) (by rw [setL_length]; exact hj) (fun k=>hn (k+1)),setL_get,if_neg]
   intro e; exact hn 0 (by simp [e])
theorem giveBx_in : ∀ {o : Bool} {g : List Nat} {cs bx : List (List Cl)} {k j : Nat}, g.length ≤ cs.length → nodupN g = true → (∀ (k j : Nat), g[k]? = some j → j < bx.length) → g[k]? = some j → (giveBx o g cs bx)[j]? = (cs[k]?).map (keepBx bx[j]?) := by
 intro o g; induction g with
 | nil=>intro cs bx k j h hn hl hk; simp at hk
 | cons i g ih=>
  intro cs bx k j h hn hl hk; cases cs with
  | nil=>simp at h
  | cons c cs=>
   have hn':=hn
   simp only [nodupN,Bool.and_eq_true] at hn; simp only [giveBx]; cases k with
   | zero=>
    simp only [List.getElem?_cons_zero,Option.some.injEq] at hk; subst hk; have hil:i<bx.length:=hl 0 i rfl; rw [giveBx_old (by simpa using h) (by rw [setL_length]; exact hil) (fun k hk=>by have:=nodupN_sound hn' 0 (k+1) i rfl (by simpa using hk); omega),setL_get,if_pos rfl]
    simp [hil]
   | succ k=>
    simp only [List.getElem?_cons_succ] at hk ⊢; rw [ih (by simpa using h) hn.2 (fun k j hk=>by rw [setL_length]; exact hl (k+1) j (by simpa using hk)) hk,setL_get,if_neg]
    intro e; subst e; have:=nodupN_sound hn' 0 (k+1) j rfl (by simpa using hk)
    omega
theorem freezeL_len : ∀(h:List Nat) (bf:List Bf),(freezeL h bf).length=bf.length:=by
 intro h; induction h with
 | nil=>intro bf; rfl
 | cons j h ih=>intro bf; simp only [freezeL]; rw [ih,freeze_length]
theorem freezeL_any : ∀ (h : List Nat) (bf : List Bf) (j : Nat) (b' : Bf), (freezeL h bf)[j]? = some b' → ∃ b, bf[j]? = some b ∧ (b' = b ∨ b' = { b with live := false }) := by
 intro h; induction h with
 | nil=>intro bf j b' hb; exact ⟨b',hb,.inl rfl⟩
 | cons i h ih=>
  intro bf j b' hb; simp only [freezeL] at hb; obtain ⟨b1,h1,h2⟩:=ih _ _ _ hb; rw [freeze_get] at h1; split at h1
  ·cases hq:bf[j]? with
   | none=>rw [hq] at h1; cases h1
   | some b0=>
    rw [hq] at h1; cases h1; rcases h2 with rfl | rfl
    ·exact ⟨b0,rfl,.inr rfl⟩
    ·exact ⟨b0,rfl,.inr rfl⟩
  ·exact ⟨b1,h1,h2⟩
theorem freezeL_in : ∀(h:List Nat) (bf:List Bf) (j k:Nat) (b':Bf),h[k]? = some j→(freezeL h bf)[j]? = some b'→b'.live=false:=by
 intro h; induction h with
 | nil=>intro bf j k b' hk; simp at hk
 | cons i h ih=>
  intro bf j k b' hk hb; simp only [freezeL] at hb; cases k with
  | zero=>
   simp only [List.getElem?_cons_zero,Option.some.injEq] at hk; subst hk; obtain ⟨b1,h1,h2⟩:=freezeL_any h _ _ _ hb; rw [freeze_get,if_pos rfl] at h1; cases hq:bf[i]? with
   | none=>rw [hq] at h1; cases h1
   | some b0=>rw [hq] at h1; cases h1; rcases h2 with rfl | rfl <;> rfl
  | succ k=>exact ih _ _ k b' (by simpa using hk) hb
def Env.join (env env1:Env) (nb nf ng:Nat):Env:=
 { β:=fun j=>if j<nb then env.β j else env1.β (j - nb+ng),τ:=fun j=>if j<nf then env.τ j else env1.τ (j - nf),φ:=fun i=>env.φ i∨env1.φ i }
theorem lenOf_has {bx:List (List Cl)} {j L:Nat} (h:lenOf bx j=some L) (hL:0<L):hasOf bx j=true:=by
 unfold lenOf at h; unfold hasOf; split at h
 ·rename_i cs hcs; unfold len1 at h; split at h
  ·rename_i o e xs; cases h; exact has1_run (fun w=>by rw [w] at hL; cases hL)
  ·cases h
 ·cases h
theorem merge (T : RelT P (vs.cx S0 env m) vs.bx) {q : GH} (hg : ∀ (k j : Nat), q.g[k]? = some j → j < vs.bx.length) (hh : ∀ (k j : Nat), q.h[k]? = some j → ∃ b : Bf, vs.bf[j]? = some b ∧ b.live = true) (ng : nodupN q.g = true) {Xc : Cx}
  (hXm:Xc.m=m) (hXn:Xc.nb=q.g.length) {p:Prop} (hXe:Xc.env=env.sub q p) (hXh : ∀(k j:Nat),q.g[k]? = some j→Xc.has k=hasOf vs.bx j) (hXlen : ∀(k j:Nat),q.g[k]? = some j→Xc.len k=lenOf vs.bx j) (hXl : ∀i,Wl Xc i → ∃(k j:Nat),q.h[k]? = some j∧env.τ j=some i) {t:Tm} {x:t.E} (hE:Ended P Xc (vs.S S0 env) env1 m1 t x) :
  RelT P ((after vs q t x).2.cx S0 (env.join env1 vs.bx.length vs.bf.length q.g.length) m1) (after vs q t x).2.bx∧Stp (vs.cx S0 env m) ((after vs q t x).2.cx S0 (env.join env1 vs.bx.length vs.bf.length q.g.length) m1) ∧
   Ren3 (t.cx x (vs.S S0 env) env1 m1) ((after vs q t x).2.cx S0 (env.join env1 vs.bx.length vs.bf.length q.g.length) m1) (rx q.g vs.bx.length) (vs.bf.length + ·):=by
 obtain ⟨hfr,hT,hβ,hwb,hwl,hhas,hlen,hφ⟩:=hE; rw [hXm] at hfr; have hXm' : ∀i,Xc.m.nxt≤i→m.nxt≤i:=fun i h=>by rw [←hXm]; exact h
 have hgl:q.g.length≤t.bx.length:=by
  rcases Nat.eq_zero_or_pos q.g.length with h | h
  ·omega
  ·have:=(hβ (q.g.length - 1) (by omega)).1; omega
 have hYn:(t.cx x (vs.S S0 env) env1 m1).nb=t.bx.length:=by show (bxI id id t.bx x.2.1).length=_; rw [bxI_len]
 have hβX : ∀(k j:Nat),q.g[k]? = some j→Xc.env.β k=env.β j:=fun k j hk=>by
  rw [hXe]; show (match q.g[k]? with | some j=>_ | none=>_)=_; rw [hk]
 have hβ1 : ∀(k j:Nat),q.g[k]? = some j→(t.cx x (vs.S S0 env) env1 m1).has k=true→env1.β k=env.β j:=fun k j hk hhas=>by
  have:=(hβ k (by rw [hXn]; exact lt_of_get hk)).2 hhas
  rw [this,hXe]; show (match q.g[k]? with | some j=>_ | none=>_)=_; rw [hk]
 have hWbX : ∀i,Wb Xc i→(∃(k j:Nat),q.g[k]? = some j∧hasOf vs.bx j=true∧env.β j=i)∨env.φ i:=by
  intro i w; rcases w with ⟨k,hk,hhk,he⟩|w
  ·rw [hXn] at hk; have hgk:q.g[k]? = some q.g[k]:=by simp [hk]
   refine .inl ⟨k,q.g[k],hgk,by rw [←hXh k _ hgk]; exact hhk, ?_⟩
   rw [←he,hXe]; show _=(match q.g[k]? with | some j=>_ | none=>_); rw [hgk]
  ·rw [hXe] at w; exact .inr w.2
 have hWb0 : ∀i,Wb Xc i→Wb (vs.cx S0 env m) i:=fun i w=>by
  rcases hWbX i w with ⟨k,j,h1,h3,h2⟩|w
  ·exact .inl ⟨j,hg k j h1,h3,h2⟩
  ·exact .inr w
 have hWl0 : ∀i,Wl Xc i→Wl (vs.cx S0 env m) i:=fun i w=>by
  obtain ⟨k,j,h1,h2⟩:=hXl i w; obtain ⟨b,h3,h4⟩:=hh k j h1; exact ⟨j,b,h3,h4,h2⟩
 have hWbS : ∀ i, Wb (vs.cx S0 env m) i → vs.S S0 env i := WbS; have hnew : ∀ k, q.g.length ≤ k → k < t.bx.length → (t.cx x (vs.S S0 env) env1 m1).has k = true → m.nxt ≤ env1.β k ∨ ∃ (k' j : Nat), q.g[k']? = some j ∧ hasOf vs.bx j = true ∧ env.β j = env1.β k ∧ (t.cx x (vs.S S0 env) env1 m1).has k' = false := by
  intro k h1 h2 h2h; rcases hwb (env1.β k) (.inl ⟨k,by rw [hYn]; exact h2,h2h,rfl⟩) with w | w
  ·right; have hnφ : ¬Xc.env.φ (env1.β k):=fun w=>hT.φd k (by rw [hYn]; exact h2) h2h (hφ _ w)
   rcases w with ⟨k',hk',hhk',he'⟩|w
   ·rw [hXn] at hk'; have hgk:q.g[k']? = some q.g[k']:=by simp [hk']
    refine ⟨k',_,hgk,by rw [←hXh k' _ hgk]; exact hhk',by rw [←hβX k' _ hgk]; exact he', ?_⟩
    cases hk2:(t.cx x (vs.S S0 env) env1 m1).has k' with
    | false=>rfl
    | true=>
     have he2:env1.β k'=env1.β k:=by rw [(hβ k' (by rw [hXn]; exact hk')).2 hk2]; exact he'
     have:k=k':=hT.bxd k k' (by rw [hYn]; exact h2) (by rw [hYn]; omega) h2h hk2 he2.symm
     omega
   ·exact absurd w hnφ
  ·exact .inl (hXm' _ w)
 generalize hZ:(after vs q t x).2=vs2; have hbx2:vs2.bx=giveBx (allOwn vs.bx q.g (bxI (rx q.g vs.bx.length) (vs.bf.length + ·) t.bx x.2.1)) q.g (bxI (rx q.g vs.bx.length) (vs.bf.length + ·) t.bx x.2.1) vs.bx:=by rw [←hZ]; rfl
 have hbf2:vs2.bf=freezeL q.h vs.bf++bfI t.bf x.2.2:=by rw [←hZ]; rfl
 have hgl':q.g.length≤(bxI (rx q.g vs.bx.length) (vs.bf.length + ·) t.bx x.2.1).length:=by rw [bxI_len]; exact hgl
 have hnb2:vs2.bx.length=vs.bx.length+(t.bx.length - q.g.length):=by rw [hbx2,giveBx_len (by rw [bxI_len]; exact hgl),bxI_len]
 generalize hen:env.join env1 vs.bx.length vs.bf.length q.g.length=env2; have hβo : ∀j,j<vs.bx.length→env2.β j=env.β j:=fun j hj=>by rw [←hen]; show (if j<_ then _ else _)=_; rw [if_pos hj]
 have hβn : ∀j,vs.bx.length≤j→env2.β j=env1.β (j - vs.bx.length+q.g.length):=fun j hj=>by rw [←hen]; show (if j<_ then _ else _)=_; rw [if_neg (by omega)]
 have hτo : ∀j,j<vs.bf.length→env2.τ j=env.τ j:=fun j hj=>by rw [←hen]; show (if j<_ then _ else _)=_; rw [if_pos hj]
 have hτn : ∀j,env2.τ (vs.bf.length+j)=env1.τ j:=fun j=>by rw [←hen]; show (if _<_ then _ else _)=_; rw [if_neg (by omega),show vs.bf.length+j - vs.bf.length=j by omega]
 have hφ2 : ∀i,env2.φ i↔env.φ i∨env1.φ i:=fun i=>by rw [←hen]; exact Iff.rfl
 have hinY : ∀k cs,(bxI (rx q.g vs.bx.length) (vs.bf.length + ·) t.bx x.2.1)[k]? = some cs→(t.cx x (vs.S S0 env) env1 m1).has k=has1 cs∧(t.cx x (vs.S S0 env) env1 m1).len k=len1 cs:=by
  intro k cs hk; obtain ⟨ps,z,rfl,h1⟩:=bxI_get hk; have h2:hasOf (bxI id id t.bx x.2.1) k=_:=hasOf_get h1; have h3:lenOf (bxI id id t.bx x.2.1) k=_:=lenOf_get h1; exact ⟨h2.trans ceI_has.1.symm,h3.trans ceI_has.2.symm⟩
 have hgetY : ∀k,k<t.bx.length → ∃cs,(bxI (rx q.g vs.bx.length) (vs.bf.length + ·) t.bx x.2.1)[k]? = some cs:=fun k hk=>by
  have hk2:k<(bxI (rx q.g vs.bx.length) (vs.bf.length + ·) t.bx x.2.1).length:=by rw [bxI_len]; exact hk
  exact ⟨_,List.getElem?_eq_getElem hk2⟩
 have hin : ∀(k j:Nat),q.g[k]? = some j → ∃cs,(bxI (rx q.g vs.bx.length) (vs.bf.length + ·) t.bx x.2.1)[k]? = some cs∧vs2.bx[j]? = some (keepBx vs.bx[j]? cs):=by
  intro k j hk; obtain ⟨cs,hcs⟩:=hgetY k (by have:=lt_of_get hk; omega)
  exact ⟨cs,hcs,by rw [hbx2,giveBx_in hgl' ng hg hk,hcs]; rfl⟩
 have hout : ∀j,j<vs.bx.length→(∀k:Nat,q.g[k]? ≠ some j)→vs2.bx[j]? = vs.bx[j]? := fun j hj hno=>by rw [hbx2,giveBx_old hgl' hj hno]
 have hnw : ∀j,vs.bx.length≤j→j<vs2.bx.length → ∃cs,(bxI (rx q.g vs.bx.length) (vs.bf.length + ·) t.bx x.2.1)[q.g.length+(j - vs.bx.length)]? = some cs∧vs2.bx[j]? = some (ownBx (allOwn vs.bx q.g (bxI (rx q.g vs.bx.length) (vs.bf.length + ·) t.bx x.2.1)) cs):=by
  intro j h1 h2; obtain ⟨cs,hcs⟩:=hgetY (q.g.length+(j - vs.bx.length)) (by omega); exact ⟨cs,hcs,by rw [hbx2,giveBx_new hgl' h1,hcs]; rfl⟩
 have hhin : ∀(k j:Nat),q.g[k]? = some j→hasOf vs2.bx j=(t.cx x (vs.S S0 env) env1 m1).has k∧lenOf vs2.bx j=(t.cx x (vs.S S0 env) env1 m1).len k:=by
  intro k j hk; obtain ⟨cs,h1,h2⟩:=hin k j hk; obtain ⟨h3,h4⟩:=hinY k cs h1; rw [hasOf_get h2,lenOf_get h2,(keepBx_shape _ _).2.1,(keepBx_shape _ _).2.2.1,h3,h4]; exact ⟨rfl,rfl⟩
 have hhout : ∀j,j<vs.bx.length→(∀k:Nat,q.g[k]? ≠ some j)→hasOf vs2.bx j=hasOf vs.bx j∧lenOf vs2.bx j=lenOf vs.bx j:=by
  intro j hj hno; unfold hasOf lenOf; rw [hout j hj hno]; exact ⟨rfl,rfl⟩
 have hhnw : ∀j,vs.bx.length≤j→j<vs2.bx.length→hasOf vs2.bx j=(t.cx x (vs.S S0 env) env1 m1).has (q.g.length+(j - vs.bx.length))∧lenOf vs2.bx j=(t.cx x (vs.S S0 env) env1 m1).len (q.g.length+(j - vs.bx.length)):=by
  intro j h1 h2; obtain ⟨cs,h3,h4⟩:=hnw j h1 h2; obtain ⟨h5,h6⟩:=hinY _ cs h3; rw [hasOf_get h4,lenOf_get h4,(ownBx_shape _ _).2.1,(ownBx_shape _ _).2.2.1,h5,h6]; exact ⟨rfl,rfl⟩
 have hho : ∀j,j<vs.bx.length→hasOf vs2.bx j=true→hasOf vs.bx j=true:=by
  intro j hj hh2; by_cases hin' : ∃k:Nat,q.g[k]? = some j
  ·obtain ⟨k,hk⟩:=hin'; rw [(hhin k j hk).1] at hh2; rw [←hXh k j hk]; exact hhas k (by rw [hXn]; exact lt_of_get hk) hh2
  ·rw [(hhout j hj (fun k hk=>hin' ⟨k,hk⟩)).1] at hh2; exact hh2
 have hlo : ∀j L,j<vs.bx.length→lenOf vs2.bx j=some L→lenOf vs.bx j=some L:=by
  intro j L hj hh2; by_cases hin' : ∃k:Nat,q.g[k]? = some j
  ·obtain ⟨k,hk⟩:=hin'; rw [(hhin k j hk).2] at hh2; rw [←hXlen k j hk]; exact hlen k L (by rw [hXn]; exact lt_of_get hk) hh2
  ·rw [(hhout j hj (fun k hk=>hin' ⟨k,hk⟩)).2] at hh2; exact hh2
 have hnβ : ∀j,vs.bx.length≤j→j<vs2.bx.length→hasOf vs2.bx j=true→m.nxt≤env2.β j ∨ ∃(k' j':Nat),q.g[k']? = some j'∧hasOf vs.bx j'=true∧env.β j'=env2.β j∧hasOf vs2.bx j'=false:=by
  intro j h1 h2 h3; rw [(hhnw j h1 h2).1] at h3; rw [hβn j h1,show j - vs.bx.length+q.g.length=q.g.length+(j - vs.bx.length) by omega]; rcases hnew (q.g.length+(j - vs.bx.length)) (by omega) (by omega) h3 with w|⟨k',j',w1,w2,w3,w4⟩
  ·exact .inl w
  ·exact .inr ⟨k',j',w1,w2,w3,by rw [(hhin k' j' w1).1]; exact w4⟩
 have hφ1 : ∀i,env1.φ i→Wb (vs.cx S0 env m) i∨m.nxt≤i:=fun i w=>by
  rcases hwb i (.inr w) with w | w
  ·exact .inl (hWb0 i w)
  ·exact .inr (hXm' i w)
 have hWb2 : ∀i,Wb (vs2.cx S0 env2 m1) i→Wb (vs.cx S0 env m) i∨m.nxt≤i:=by
  intro i w; rcases w with ⟨j,h1,h3,h2⟩|w
  ·have h1':j<vs2.bx.length:=h1
   have h3':hasOf vs2.bx j=true:=h3
   have h2':env2.β j=i:=h2
   rcases Nat.lt_or_ge j vs.bx.length with hj | hj
   ·rw [hβo j hj] at h2'; exact .inl (.inl ⟨j,hj,hho j hj h3',h2'⟩)
   ·rcases hnβ j hj h1' h3' with w|⟨k',j',w1,w2,w3,_⟩
    ·exact .inr (by rw [←h2']; exact w)
    ·exact .inl (.inl ⟨j',hg k' j' w1,w2,by show env.β j'=i; rw [w3]; exact h2'⟩)
  ·rcases (hφ2 i).1 w with w | w
   ·exact .inl (.inr w)
   ·exact hφ1 i w
 have hS2 : ∀i,vs2.S S0 env2 i→vs.S S0 env i∨m.nxt≤i:=by
  intro i w; rcases w with w | w
  ·exact .inl (.inl w)
  ·rcases hWb2 i w with w | w
   ·exact .inl (WbS i w)
   ·exact .inr w
 have hSY : ∀i,vs2.S S0 env2 i→(t.cx x (vs.S S0 env) env1 m1).S i:=by
  intro i w; rcases w with w|⟨j,h1,h3,h2⟩|w
  ·exact .inl (.inl w)
  ·rcases Nat.lt_or_ge j vs.bx.length with hj | hj
   ·rw [hβo j hj] at h2; exact .inl (.inr (.inl ⟨j,hj,hho j hj h3,h2⟩))
   ·rw [hβn j hj,show j - vs.bx.length+q.g.length=q.g.length+(j - vs.bx.length) by omega] at h2; rw [(hhnw j hj h1).1] at h3; exact .inr (.inl ⟨q.g.length+(j - vs.bx.length),by show _<(bxI id id t.bx x.2.1).length; rw [bxI_len]; omega,h3,h2⟩)
  ·rcases (hφ2 i).1 w with w | w
   ·exact .inl (.inr (.inr w))
   ·exact .inr (.inr w)
 have hτY : ∀(j:Nat) (b:Bf),vs2.bf[j]? = some b→(j<vs.bf.length∧(freezeL q.h vs.bf)[j]? = some b)∨(∃k,j=vs.bf.length+k∧(t.cx x (vs.S S0 env) env1 m1).bf[k]? = some b):=by
  intro j b hj; rw [hbf2] at hj; rcases Nat.lt_or_ge j vs.bf.length with h | h
  ·rw [List.getElem?_append_left (by rw [freezeL_len]; exact h)] at hj; exact .inl ⟨h,hj⟩
  ·rw [List.getElem?_append_right (by rw [freezeL_len]; exact h),freezeL_len] at hj
   exact .inr ⟨j - vs.bf.length,by omega,hj⟩
 have hmonoX:Mono (vs.S S0 env) m (vs2.S S0 env2) m1:=hfr.mono_row T.free (fun i w=>hWbS i (hWb0 i w)) hS2; have hmonoY:Mono (t.cx x (vs.S S0 env) env1 m1).S m1 (vs2.S S0 env2) m1:=fun i r hr hn=>⟨hr,fun w=>hn (hSY i w)⟩
 have hle:CxLe (vs.cx S0 env m) (vs2.cx S0 env2 m1):=by
  refine ⟨hmonoX,by show vs.bx.length≤vs2.bx.length; omega,fun j hj=>hβo j hj,fun j b hj => ?_,fun j hj w=>hho j hj w,fun j L hj w=>hlo j L hj w,fun _ w=>w,fun i w=>(hφ2 i).2 (.inl w),hfr.nxt,hfr.ty⟩
  have hjl:=lt_of_get hj; have hjl':j<vs.bf.length:=hjl
  have hin:j<(freezeL q.h vs.bf).length:=by rw [freezeL_len]; exact hjl'
  obtain ⟨b0,h1,h2⟩:=freezeL_any q.h vs.bf j (freezeL q.h vs.bf)[j] (by simp [hin]); have hj':vs.bf[j]? = some b:=hj
  rw [hj'] at h1; cases h1; rcases h2 with h2 | h2
  ·exact ⟨b.live,by show vs2.bf[j]? = _; rw [hbf2,List.getElem?_append_left hin,List.getElem?_eq_getElem hin,h2],hτo j hjl'⟩
  ·exact ⟨false,by show vs2.bf[j]? = _; rw [hbf2,List.getElem?_append_left hin,List.getElem?_eq_getElem hin,h2],hτo j hjl'⟩
 have hrx : ∀k,k<t.bx.length→rx q.g vs.bx.length k<vs2.bx.length∧((t.cx x (vs.S S0 env) env1 m1).has k=true→env2.β (rx q.g vs.bx.length k)=env1.β k)∧hasOf vs2.bx (rx q.g vs.bx.length k)=(t.cx x (vs.S S0 env) env1 m1).has k∧lenOf vs2.bx (rx q.g vs.bx.length k)=(t.cx x (vs.S S0 env) env1 m1).len k:=by
  intro k hk; unfold rx; cases hq:q.g[k]? with
  | some j=>
   have hj:=hg k j hq; exact ⟨by show j<_; omega,fun hw=>by show env2.β j=_; rw [hβo j hj,hβ1 k j hq hw],(hhin k j hq).1,(hhin k j hq).2⟩
  | none=>
   have:q.g.length≤k:=List.getElem?_eq_none_iff.1 hq
   have hj1:vs.bx.length+(k - q.g.length)<vs2.bx.length:=by omega
   obtain ⟨h1,h2⟩:=hhnw (vs.bx.length+(k - q.g.length)) (by omega) hj1; have hk2:q.g.length+(vs.bx.length+(k - q.g.length) - vs.bx.length)=k:=by omega
   rw [hk2] at h1 h2; refine ⟨hj1,fun _ => ?_,h1,h2⟩; show env2.β (vs.bx.length+(k - q.g.length))=_; rw [hβn _ (by omega)]
   congr 1; omega
 have hR:Ren3 (t.cx x (vs.S S0 env) env1 m1) (vs2.cx S0 env2 m1) (rx q.g vs.bx.length) (vs.bf.length + ·):=by
  refine ⟨hmonoY,Nat.le_refl _,fun _ _ q=>q,fun k hk => ?_,fun j L w hL=>lenOf_has w hL,fun k b hk=>⟨b.live, ?_,hτn k⟩⟩
  ·obtain ⟨h1,h2,h3,h4⟩:=hrx k (by rw [←hYn]; exact hk)
   exact ⟨h1,fun w=>h2 (by rw [←h3]; exact w),fun w=>by rw [←h3]; exact w,fun L w=>by rw [←h4]; exact w⟩
  ·show vs2.bf[vs.bf.length+k]? = some b; rw [hbf2,List.getElem?_append_right (by rw [freezeL_len]; omega),freezeL_len,show vs.bf.length+k - vs.bf.length=k by omega]
   exact hk
 have hfr0:Fr2 (Wb (vs.cx S0 env m)) (Wl (vs.cx S0 env m)) m m1:=hfr.mono hWb0 (fun i w => .inl (hWl0 i w)); have hs:Stp (vs.cx S0 env m) (vs2.cx S0 env2 m1):=by
  refine ⟨hfr0,hle,hWb2,fun i w => ?_⟩; obtain ⟨j,b,h1,h2,h3⟩:=w; have h3':env2.τ j=some i:=h3
  rcases hτY j b h1 with ⟨hj,h4⟩|⟨k,rfl,h4⟩
  ·obtain ⟨b0,h5,h6⟩:=freezeL_any _ _ _ _ h4; rw [hτo j hj] at h3'; rcases h6 with rfl | rfl
   ·exact .inl ⟨j,_,h5,h2,h3'⟩
   ·cases h2
  ·rw [hτn] at h3'; rcases hwl i ⟨k,b,h4,h2,h3'⟩ with w | w | w
   ·exact .inl (hWl0 i w)
   ·exact .inr (.inl (hWb0 i w))
   ·exact .inr (.inr (hXm' i w))
 have hbd : ∀j j',j<vs2.bx.length→j'<vs2.bx.length→hasOf vs2.bx j=true→hasOf vs2.bx j'=true→env2.β j=env2.β j'→j=j':=by
  have cross : ∀j j',j<vs.bx.length→vs.bx.length≤j'→j'<vs2.bx.length→hasOf vs2.bx j=true→hasOf vs2.bx j'=true→env2.β j=env2.β j'→False:=by
   intro j j' hj hj' hj2 a1 a2 ge; rw [hβo j hj] at ge; have a0:=hho j hj a1; rcases hnβ j' hj' hj2 a2 with w|⟨k',j3,w1,w2,w3,w4⟩
   ·have h2:env.β j<m.nxt:=T.slt _ (T.inS j hj a0); omega
   ·have:j=j3:=T.bxd j j3 hj (hg k' j3 w1) a0 w2 (by show env.β j=env.β j3; rw [w3]; exact ge)
    subst this; rw [w4] at a1; cases a1
  intro j j' g1' g2' a1 a2 ge'; rcases Nat.lt_or_ge j vs.bx.length with hj | hj
  ·rcases Nat.lt_or_ge j' vs.bx.length with hj' | hj'
   ·rw [hβo j hj,hβo j' hj'] at ge'; exact T.bxd j j' hj hj' (hho j hj a1) (hho j' hj' a2) ge'
   ·exact (cross j j' hj hj' g2' a1 a2 ge').elim
  ·rcases Nat.lt_or_ge j' vs.bx.length with hj' | hj'
   ·exact (cross j' j hj' hj g1' a2 a1 ge'.symm).elim
   ·rw [(hhnw j hj g1').1] at a1; rw [(hhnw j' hj' g2').1] at a2; rw [hβn j hj,hβn j' hj',show j - vs.bx.length+q.g.length=q.g.length+(j - vs.bx.length) by omega,show j' - vs.bx.length+q.g.length=q.g.length+(j' - vs.bx.length) by omega] at ge'; have:=hT.bxd _ _ (by rw [hYn]; omega) (by rw [hYn]; omega) a1 a2 ge'
    omega
 refine ⟨⟨hfr.free,by show m1.bar≤m1.nxt; rw [hfr.bar]; exact Nat.le_trans T.bar hfr.nxt,rfl,rfl,rfl,fun j hj hh => .inr (.inl ⟨j,hj,hh,rfl⟩),fun i w=>hT.slt i (hSY i w),fun j b hj => ?_,fun j j' b b' i g1 g2 l1 l2 t1 t2 => ?_,fun j cs hj => ?_,fun j j' g1 g2 a1 a2 ge=>hbd j j' g1 g2 a1 a2 ge,fun i w => .inr (.inr w),fun j hj hh w => ?_,hT.rts,hT.unq⟩,hs,hR⟩
 ·rcases hτY j b hj with ⟨hjl,h4⟩|⟨k,rfl,h4⟩
  ·obtain ⟨b0,h5,h6⟩:=freezeL_any _ _ _ _ h4; have hB:=T.bf j b0 h5; rcases h6 with rfl | rfl
   ·refine BufOK.le (X:=vs.cx S0 env m) (Y:=vs2.cx S0 env2 m1) hfr hmonoX (fun i w=>hWbS i (hWb0 i w)) (hτo j hjl) hB (fun hl i hi w => ?_); obtain ⟨k,j',h7,h8⟩:=hXl i w; obtain ⟨b1,h9,h10⟩:=hh k j' h7; have hjj:=T.bfd j j' _ b1 i h5 h9 hl h10 hi h8; subst hjj; have:=freezeL_in _ _ _ k _ h7 h4
    rw [hl] at this; cases this
   ·exact BufOK.le (X:=vs.cx S0 env m) (Y:=vs2.cx S0 env2 m1) hfr hmonoX (fun i w=>hWbS i (hWb0 i w)) (hτo j hjl) hB.dead (fun hl=>by cases hl)
  ·exact BufOK.le (X:=t.cx x (vs.S S0 env) env1 m1) (Y:=vs2.cx S0 env2 m1) (Wb:=fun _=>False) (Wl:=fun _=>False) (Fr2.refl hfr.free) hmonoY (fun _ w=>w.elim) (hτn k) (hT.bf k b h4) (fun _ _ _ w=>w)
 ·have t1':env2.τ j=some i:=t1
  have t2':env2.τ j'=some i:=t2
  have cross : ∀{j k:Nat} {b b':Bf},j<vs.bf.length→(freezeL q.h vs.bf)[j]? = some b→b.live=true→env.τ j=some i→(t.cx x (vs.S S0 env) env1 m1).bf[k]? = some b'→b'.live=true→env1.τ k=some i→False:=by
   intro j k b b' hj h4 l1 t1 h4' l2 t2; obtain ⟨b0,h5,h6⟩:=freezeL_any _ _ _ _ h4; have l0:b0.live=true:=by rcases h6 with rfl | rfl; exact l1; cases l1
   rcases hwl i ⟨k,b',h4',l2,t2⟩ with w | w | w
   ·obtain ⟨k2,j2,h7,h8⟩:=hXl i w; obtain ⟨b1,h9,h10⟩:=hh k2 j2 h7; have hjj:=T.bfd j j2 b0 b1 i h5 h9 l0 h10 t1 h8; subst hjj; have:=freezeL_in _ _ _ k2 _ h7 h4
    rw [l1] at this; cases this
   ·exact (T.bf j b0 h5).noS t1 (hWbS i (hWb0 i w))
   ·have h7:=(T.bf j b0 h5).lt T.free t1; have h8:i<m.nxt:=h7; have:=hXm' i w
    omega
  rcases hτY j b g1 with ⟨hj,h4⟩|⟨k,rfl,h4⟩
  ·rw [hτo j hj] at t1'; rcases hτY j' b' g2 with ⟨hj',h4'⟩|⟨k',rfl,h4'⟩
   ·rw [hτo j' hj'] at t2'; obtain ⟨b0,h5,h6⟩:=freezeL_any _ _ _ _ h4; obtain ⟨b0',h5',h6'⟩:=freezeL_any _ _ _ _ h4'; have l0:b0.live=true:=by rcases h6 with rfl | rfl; exact l1; cases l1
    have l0':b0'.live=true:=by rcases h6' with rfl | rfl; exact l2; cases l2
    exact T.bfd j j' b0 b0' i h5 h5' l0 l0' t1' t2'
   ·rw [hτn] at t2'; exact (cross hj h4 l1 t1' h4' l2 t2').elim
  ·rw [hτn] at t1'; rcases hτY j' b' g2 with ⟨hj',h4'⟩|⟨k',rfl,h4'⟩
   ·rw [hτo j' hj'] at t2'; exact (cross hj' h4' l2 t2' h4 l1 t1').elim
   ·rw [hτn] at t2'; rw [hT.bfd k k' b b' i h4 h4' l1 l2 t1' t2']
 ·
  have fromY : ∀ {k : Nat} {cs0 : List Cl} {own : Bool → Bool}, (bxI (rx q.g vs.bx.length) (vs.bf.length + ·) t.bx x.2.1)[k]? = some cs0 → ((t.cx x (vs.S S0 env) env1 m1).has k = true → env2.β j = env1.β k) → ((∃ o, cs = ownBx o cs0 ∧ (o = true → has1 cs0 = true → ¬ S0 (env2.β j))) ∨ cs = cs0) → BoxOK P (vs2.cx S0 env2 m1) j cs := by
   intro k cs0 own hk he hcs; obtain ⟨ps,z,rfl,h1⟩:=bxI_get hk; have hBY:=hT.bx k _ h1; have hasY:has1 (ceI id id ps z)=true→(t.cx x (vs.S S0 env) env1 m1).has k=true:=fun w=>by
    show hasOf (bxI id id t.bx x.2.1) k=true; rw [hasOf_get h1]; exact w
   have runle : ∀{arr:Bool} {e:Ty} {xs:List e.El},(xs ≠ []→has1 (ceI id id ps z)=true)→RunOK P (t.cx x (vs.S S0 env) env1 m1) k arr e xs→RunOK P (vs2.cx S0 env2 m1) j arr e xs:=fun hq hr=>
    RunOK.le (X:=t.cx x (vs.S S0 env) env1 m1) (Y:=vs2.cx S0 env2 m1) (Wb:=fun _=>False) (Wl:=fun _=>False) hT.free hT.rts (Fr2.refl hfr.free) hmonoY (fun i w=>(hφ2 i).2 (.inr w)) (fun w=>he (hasY (hq w))) hr (fun _ w=>w) (fun _ w=>w)
   rcases ceI_kinds (rx:=rx q.g vs.bx.length) (rb:=(vs.bf.length + ·)) (ps:=ps) (z:=z) with ⟨hr1,hr2⟩|⟨hkind,heq⟩|⟨mc,ml,hk1,hk2⟩|⟨hg1,hg2⟩
   ·have hcs2:cs=ceI (rx q.g vs.bx.length) (vs.bf.length + ·) ps z:=by
     rcases hcs with ⟨o,h5,_⟩|h5
     ·rw [h5,(ownBx_shape _ _).2.2.2 hr1]
     ·exact h5
    rw [hcs2]; refine BoxOK.of hr1 ?_; obtain ⟨b,c,e,fr,h2,h3,h4,h5,h6,h8⟩:=hBY.cel hr2; unfold CelOK; rw [show (vs2.cx S0 env2 m1).env.β j=env1.β k from he (hasY (has1_cel hr2))]; exact ⟨b,c,e,fr,h2,h3,h4,h5,h6,ceI_ren hR h8⟩
   ·rw [heq] at hBY; rcases hkind with ⟨e,xs,hk1⟩|⟨e,xs,hk1⟩|hk1|⟨e,xs,hk1⟩
    ·rw [hk1] at hBY hcs; rcases hcs with ⟨o,h5,h6⟩|h5
     ·rw [h5]; exact ⟨runle (fun w=>by rw [heq,hk1]; exact has1_run w) hBY.1,fun o1 o2=>h6 o1 (has1_run o2)⟩
     ·rw [h5]; exact ⟨runle (fun w=>by rw [heq,hk1]; exact has1_run w) hBY.1,fun o1=>by cases o1⟩
    ·rw [hk1] at hBY hcs; have:cs = [.ra e xs]:=by
      rcases hcs with ⟨o,h5,_⟩|h5
      ·rw [h5]; rfl
      ·exact h5
     rw [this]; exact runle (fun w=>by rw [heq,hk1]; exact has1_runA w) hBY
    ·rw [hk1] at hcs; have:cs = [.g]:=by
      rcases hcs with ⟨o,h5,_⟩|h5
      ·rw [h5]; rfl
      ·exact h5
     rw [this]; trivial
    ·rw [hk1] at hBY hcs; have:cs = [.ms e xs]:=by
      rcases hcs with ⟨o,h5,_⟩|h5
      ·rw [h5]; rfl
      ·exact h5
     rw [this]; obtain ⟨b,es,ck,h2,h3,h4,h5,h6,h8⟩:=hBY; show MsOK P (vs2.cx S0 env2 m1) j e xs; unfold MsOK; rw [show (vs2.cx S0 env2 m1).env.β j=env1.β k from he (hasY (by rw [heq,hk1]; rfl))]
     exact ⟨b,es,ck,h2,h3,h4,h5,h6,h8.mono hmonoY⟩
   ·rw [hk2] at hBY; rw [hk1] at hcs; have:cs = [.mx mc (ml.map fun u=>(u.1,u.2.1,rx q.g vs.bx.length u.2.2))]:=by
     rcases hcs with ⟨o,h5,_⟩|h5
     ·rw [h5]; rfl
     ·exact h5
    rw [this]; obtain ⟨b,es,h2,h3,h4,h5,h6,h8⟩:=hBY; show MapOK P (vs2.cx S0 env2 m1) j mc _; unfold MapOK; rw [show (vs2.cx S0 env2 m1).env.β j=env1.β k from he (hasY (by rw [hk2]; rfl))]
    exact ⟨b,es,h2,h3,h4,h5,h6,ents_ren hR h8⟩
   ·have hcs2:cs=ceI (rx q.g vs.bx.length) (vs.bf.length + ·) ps z:=by
     rcases hcs with ⟨o,h5,_⟩|h5
     ·rw [h5,ownBx_sg _ hg1]
     ·exact h5
    rw [hcs2]; refine BoxOK.ofSg hg1 ?_; obtain ⟨b,ws,h2,h4,h5,h6,h8,h9⟩:=hBY.sg hg2; unfold SegOK; rw [show (vs2.cx S0 env2 m1).env.β j=env1.β k from he (hasY (has1_sg hg2).1)]; exact ⟨b,ws,h2,h4,h5,h6,ceI_renG hR h8,by rw [ceI_tag]; exact h9⟩
  rcases Nat.lt_or_ge j vs.bx.length with hjl | hjl
  ·by_cases hin' : ∃ k : Nat, q.g[k]? = some j
   ·obtain ⟨k,hk⟩:=hin'; obtain ⟨cs0,h1,h2⟩:=hin k j hk; rw [hj] at h2; simp only [Option.some.injEq] at h2; refine fromY (own:=id) h1 (fun hw=>by rw [hβo j hjl,hβ1 k j hk hw]) ?_; rw [h2]; unfold keepBx; split
    ·rename_i o e xs ho; refine .inl ⟨o,rfl,fun o1 hh1 w => ?_⟩; subst o1; have hB:=T.bx j _ ho; have hj2:hasOf vs.bx j=true:=by
      refine hho j hjl ?_; rw [(hhin k j hk).1,(hinY k cs0 h1).1]; exact hh1
     rw [hasOf_get ho] at hj2; rw [hβo j hjl] at w; exact hB.2 rfl (has1_ne hj2) w
    ·exact .inr rfl
   ·have hno : ∀k:Nat,q.g[k]? ≠ some j:=fun k hk=>hin' ⟨k,hk⟩
    rw [hout j hjl hno] at hj; refine BoxOK.le (X:=vs.cx S0 env m) (Y:=vs2.cx S0 env2 m1) T.free T.rts hfr hle (fun _=>hβo j hjl) (T.bx j cs hj) (fun hh1 w => ?_) (fun hh1 w => ?_)
    ·have hjh:hasOf vs.bx j=true:=(hasOf_get hj).trans hh1; rcases hWbX _ w with ⟨k,j',h1,h3,h2⟩|w
     ·have:=T.bxd j j' hjl (hg k j' h1) hjh h3 h2.symm
      subst this; exact hno k h1
     ·exact T.φd j hjl hjh w
    ·have hjh:hasOf vs.bx j=true:=(hasOf_get hj).trans hh1; obtain ⟨k,j',h1,h2⟩:=hXl _ w; obtain ⟨b1,h9,h10⟩:=hh k j' h1; exact (T.bf j' b1 h9).noS h2 (.inr (.inl ⟨j,hjl,hjh,rfl⟩))
  ·have hj2 : j < vs2.bx.length := lt_of_get hj; obtain ⟨cs0, h1, h2⟩ := hnw j hjl hj2; rw [hj] at h2; simp only [Option.some.injEq] at h2; refine fromY (own := id) h1 (fun _ => by rw [hβn j hjl]; congr 1; omega) (.inl ⟨_, h2, fun o1 hh1 w => ?_⟩)
   have hjh:hasOf vs2.bx j=true:=by rw [(hhnw j hjl hj2).1,(hinY _ cs0 h1).1]; exact hh1
   rcases hnβ j hjl hj2 hjh with w2|⟨k',j',w1,w2,w3,w4⟩
   ·have:=T.slt (env2.β j) (.inl w)
    have this':env2.β j<m.nxt:=this
    omega
   ·have hkeep : ∀ {c : List Cl}, keepsB c = true → has1 c = true := by
     intro c hc; cases c with
     | nil=>rfl
     | cons a l=>cases l with
      | nil=>cases a <;> first | rfl | cases hc
      | cons b l=>cases a <;> rfl
    have hall : ∀ {g : List Nat} {r : List (List Cl)}, allOwn vs.bx g r = true → ∀ (k j : Nat), g[k]? = some j → (∃ e xs, vs.bx[j]? = some [.r true e xs]) ∨ ∃ c, r[k]? = some c ∧ has1 c = true := by
     intro g; induction g with
     | nil=>intro r _ k j h; simp at h
     | cons a g ih =>
      intro r h k j hk; cases r with
      | nil=>cases h
      | cons c r=>
       simp only [allOwn,Bool.and_eq_true,Bool.or_eq_true] at h; cases k with
       | zero=>
        simp only [List.getElem?_cons_zero,Option.some.injEq] at hk; subst hk; rcases h.1 with h5 | h5
        ·split at h5
         ·rename_i o e xs ho; rw [h5] at ho; exact .inl ⟨e,xs,ho⟩
         ·cases h5
        ·exact .inr ⟨c,rfl,hkeep h5⟩
       | succ k=>
        rcases ih h.2 k j (by simpa using hk) with q1|⟨c',q1,q2⟩
        ·exact .inl q1
        ·exact .inr ⟨c',by simpa using q1,q2⟩
    rcases hall o1 k' j' w1 with ⟨e,xs,ho⟩|⟨c',q1,q2⟩
    case inr=>
     obtain ⟨cs5,h5,h6⟩:=hin k' j' w1; rw [h5] at q1; cases q1; rw [hasOf_get h6,(keepBx_shape _ _).2.1] at w4; rw [q2] at w4; cases w4
    have hB:=T.bx j' _ ho; rw [hasOf_get ho] at w2; rw [←w3] at w; exact hB.2 rfl (has1_ne w2) w
 ·have hj1 : j < vs2.bx.length := hj; have hh1 : hasOf vs2.bx j = true := hh; have w' := (hφ2 _).1 w
  rcases Nat.lt_or_ge j vs.bx.length with hjl | hjl
  ·have hjh := hho j hjl hh1; rw [show (vs2.cx S0 env2 m1).env.β j = env.β j from hβo j hjl] at w'; rcases w' with w' | w'
   ·exact T.φd j hjl hjh w'
   ·by_cases hin' : ∃ k : Nat, q.g[k]? = some j
    ·obtain ⟨k,hk⟩:=hin'; rw [(hhin k j hk).1] at hh1; refine hT.φd k (by rw [hYn]; have:=lt_of_get hk; omega) hh1 ?_
     show env1.φ (env1.β k); rw [hβ1 k j hk hh1]; exact w'
    ·rcases hwb _ (.inr w') with w2 | w2
     ·rcases hWbX _ w2 with ⟨k,j',h1,h3,h2⟩|w2
      ·have:=T.bxd j j' hjl (hg k j' h1) hjh h3 h2.symm
       subst this; exact hin' ⟨k,h1⟩
      ·exact T.φd j hjl hjh w2
     ·have h2:env.β j<m.nxt:=T.slt _ (T.inS j hjl hjh); have:=hXm' _ w2
      omega
  ·rcases w' with w' | w'
   ·rcases hnβ j hjl hj1 hh1 with w2|⟨k',j',w1,w2,w3,_⟩
    ·have h2:env2.β j<m.nxt:=T.slt _ (T.φS _ w'); omega
    ·have w4:env.φ (env2.β j):=w'; rw [←w3] at w4; exact T.φd j' (hg k' j' w1) w2 w4
   ·rw [(hhnw j hjl hj1).1] at hh1; have w4:env1.φ (env2.β j):=w'; rw [hβn j hjl,show j - vs.bx.length+q.g.length=q.g.length+(j - vs.bx.length) by omega] at w4; exact hT.φd _ (by rw [hYn]; omega) hh1 w4
end Go.IM.V
namespace Go.IM.V
open Go Go.IM
variable {P:Program} {m m1:M} {S0:Nat→Prop} {env:Env} {a:Act} {vs:VS} {X:Cx}
theorem Rel.setObj (h:Rel P S0 env m a vs) {j:Nat} {cs ns:List Cl} (hj:vs.bx[j]? = some cs) (hcs:has1 cs=true) (hh:has1 ns=true) (hl:len1 ns=len1 cs) {k:Blk} (hal:m.alive (env.β j)=some k) (hroot:k.root=env.β j) {o:Obj} (ho:otyp o=otyp k.obj)
  (hnew : ∀m',CxLe (vs.cx S0 env m) { vs.cx S0 env m with m:=m' }→m'.alive (env.β j)=some { k with obj:=o }→BoxOK P { vs.cx S0 env m with m:=m' } j ns) :
  Rel P S0 env (m.set (env.β j) { k with obj:=o }) a { vs with bx:=setL vs.bx j ns }∧Stp (vs.cx S0 env m) (({ vs with bx:=setL vs.bx j ns }:VS).cx S0 env (m.set (env.β j) { k with obj:=o })):=by
 have hT:=h.T; obtain ⟨hfr,hal2⟩:=fr2_set o ho hT.free hal hroot; have hjl:j<vs.bx.length:=lt_of_get hj; have hle:CxLe (vs.cx S0 env m) { vs.cx S0 env m with m:=m.set (env.β j) { k with obj:=o } }:=
  ⟨hfr.mono_row hT.free (fun i w=>by rw [w]; exact hT.inS j hjl ((hasOf_get hj).trans hcs)) (fun i w => .inl w),Nat.le_refl _,fun _ _=>rfl,fun q b hb=>⟨b.live,hb,rfl⟩,fun _ _ q=>q,fun _ _ _ q=>q,fun _ q=>q,fun _ q=>q,hfr.nxt,hfr.ty⟩
 exact h.setBox hj hcs (hh.trans hcs.symm) hl hfr (fun i w => .inl w) (hnew _ hle hal2)
theorem putObj_set {i:Nat} {k:Blk} {o:Obj} (hal:m.alive i=some k) (hro:k.ro=false) (hsup:k.sup=false) (hroot:k.root=i) (hbar:m.bar≤i):m.putObj i o=some (m.set i { k with obj:=o }):=by
 unfold M.putObj; rw [hal]; dsimp only; rw [if_pos ⟨hro,hsup,hbar,by rw [hroot]; exact hbar⟩]
 simp [M.put,hroot]
theorem Rel.newObj (h : Rel P S0 env m a vs) {cs : List Cl} {o : Obj} (hcs : has1 cs = true)
  (hnew : ∀Y:Cx,CxLe (vs.cx S0 env m) Y→Y.m.alive (Y.env.β vs.bx.length)=some ⟨o,m.nxt,false,false,false⟩→Y.env.β vs.bx.length=m.nxt→BoxOK P Y vs.bx.length cs) :
  m.newO o=some (m.nxt,m.mk1 o)∧Rel P S0 (env.setβ vs.bx.length m.nxt) (m.mk1 o) a (V.newBox vs cs).2∧Stp (vs.cx S0 env m) ((V.newBox vs cs).2.cx S0 (env.setβ vs.bx.length m.nxt) (m.mk1 o)):=by
 have hT:=h.T; have hfr:=fr2_mk1 hT.free o; have hβ : ∀j,j<vs.bx.length→(env.setβ vs.bx.length m.nxt).β j=env.β j:=fun j hj=>setβ_old _ _ (by omega)
 have hnb:(V.newBox vs cs).2.bx.length=vs.bx.length+1:=by show (vs.bx ++ [cs]).length=_; simp
 have hho : ∀j,j<vs.bx.length→hasOf (V.newBox vs cs).2.bx j=hasOf vs.bx j:=fun j hj=>by show hasOf (vs.bx ++ [cs]) j=_; rw [hasOf_app,if_neg (by omega)]
 have hlo : ∀j,j<vs.bx.length→lenOf (V.newBox vs cs).2.bx j=lenOf vs.bx j:=fun j hj=>by show lenOf (vs.bx ++ [cs]) j=_; rw [lenOf_app,if_neg (by omega)]
 have hle:CxLe (vs.cx S0 env m) ((V.newBox vs cs).2.cx S0 (env.setβ vs.bx.length m.nxt) (m.mk1 o)):=by
  refine ⟨hfr.mono_row hT.free (fun _ w=>w.elim) (fun q w => ?_),by show vs.bx.length≤(V.newBox vs cs).2.bx.length; omega,hβ,fun j b hb=>⟨b.live,hb,rfl⟩,
   fun j hj q=>(hho j hj).symm.trans q,fun j L hj q=>(hlo j hj).symm.trans q,fun _ q=>q,fun _ q=>q,hfr.nxt,hfr.ty⟩
  rcases w with w|⟨j,h1,h3,h2⟩|w
  ·exact .inl (.inl w)
  ·rw [hnb] at h1; rcases Nat.lt_or_ge j vs.bx.length with hj | hj
   ·exact .inl (.inr (.inl ⟨j,hj,by rw [←hho j hj]; exact h3,by rw [←hβ j hj]; exact h2⟩))
   ·obtain rfl:j=vs.bx.length:=by omega
    rw [setβ_new] at h2; exact .inr (by show m.nxt≤q; omega)
  ·exact .inl (.inr (.inr w))
 refine ⟨by
  have hq:m.get m.nxt=none:=hT.free m.nxt (Nat.le_refl _); unfold M.newO; rw [hq],h.addBox (cs:=cs) (i:=m.nxt) hfr (fun _=>⟨Nat.le_refl _,Nat.lt_succ_self _⟩) (hnew _ hle ?_ (setβ_new _ _ _))⟩
 show (m.mk1 o).alive ((env.setβ vs.bx.length m.nxt).β vs.bx.length)=_; rw [setβ_new]; exact alive_mk1_new _
theorem ents_find {q : ByteArray} : ∀ {l : List (ByteArray × Nat × Nat)} {es : List MapEntry} (n : Nat), entsOK P X l es →
  match findK q l n with
  | none=>Instr.findNow .string (.string q) es n=some none
  | some (i,jj) => ∃v,Instr.findNow .string (.string q) es n=some (some (i,v))∧repC P X (.p jj 0) v∧n≤i:=by
 intro l; induction l with
 | nil=>intro es n h; cases es with
  | nil=>rfl
  | cons=>exact h.elim
 | cons b l ih=>
  intro es n h; cases es with
  | nil=>exact h.elim
  | cons e es=>
   obtain ⟨⟨h1,h2,h3⟩,h4⟩:=h; have hs:Instr.sameNow .string (.string q) e.key=some (q == b.1):=by rw [h1]; rfl
   unfold findK Instr.findNow; rw [hs]; cases hq:(q == b.1) with
   | true=>exact ⟨_,rfl,h3,Nat.le_refl _⟩
   | false=>
    have h5:=ih (n+1) h4; simp only [cond_false]; split at h5
    ·exact h5
    ·rename_i i jj hf; obtain ⟨v,g1,g2,g3⟩:=h5; exact ⟨v,g1,g2,by omega⟩
theorem ents_mod {q:ByteArray} {jj:Nat} {v:Value} (hv:repC P X (.p jj 0) v) : ∀{l:List (ByteArray × Nat × Nat)} {es:List MapEntry} (i:Nat),entsOK P X l es →
  entsOK P X (modK q jj l i) (es.modify i fun e => { e with key := .string q,val:=v }):=by
 intro l; induction l with
 | nil=>intro es i h; cases es with
  | nil=>simp [modK]; trivial
  | cons=>exact h.elim
 | cons b l ih=>
  intro es i h; cases es with
  | nil=>exact h.elim
  | cons e es=>
   obtain ⟨⟨h1,h2,h3⟩,h4⟩:=h; cases i with
   | zero=>rw [List.modify_zero_cons]; exact ⟨⟨rfl,h2,hv⟩,h4⟩
   | succ i=>rw [List.modify_succ_cons]; exact ⟨⟨h1,h2,h3⟩,ih i h4⟩
theorem ents_era : ∀{l:List (ByteArray × Nat × Nat)} {es:List MapEntry} (i:Nat),entsOK P X l es→entsOK P X (eraK l i) (es.eraseIdx i):=by
 intro l; induction l with
 | nil=>intro es i h; cases es with
  | nil=>simp [eraK]; trivial
  | cons=>exact h.elim
 | cons b l ih=>
  intro es i h; cases es with
  | nil=>exact h.elim
  | cons e es=>
   obtain ⟨h1,h4⟩:=h; cases i with
   | zero=>exact h4
   | succ i=>exact ⟨h1,ih i h4⟩
theorem ents_app {c:ByteArray × Nat × Nat} {e:MapEntry} (hc:e.key = .string c.1∧e.born=c.2.1∧repC P X (.p c.2.2 0) e.val) : ∀{l:List (ByteArray × Nat × Nat)} {es:List MapEntry},entsOK P X l es→entsOK P X (l ++ [c]) (es ++ [e]):=by
 intro l; induction l with
 | nil=>intro es h; cases es with
  | nil=>exact ⟨hc,trivial⟩
  | cons=>exact h.elim
 | cons b l ih=>
  intro es h; cases es with
  | nil=>exact h.elim
  | cons x es=>exact ⟨h.1,ih h.2⟩
theorem ents_filter (p:Nat→Bool) : ∀{l:List (ByteArray × Nat × Nat)} {es:List MapEntry},entsOK P X l es→entsOK P X (l.filter fun a=>p a.2.1) (es.filter fun e=>p e.born):=by
 intro l; induction l with
 | nil=>intro es h; cases es with
  | nil=>trivial
  | cons=>exact h.elim
 | cons b l ih=>
  intro es h; cases es with
  | nil=>exact h.elim
  | cons e es=>
   obtain ⟨h1,h4⟩:=h; have hb:e.born=b.2.1:=h1.2.1; simp only [List.filter_cons,hb]; split
   ·exact ⟨h1,ih h4⟩
   ·exact ih h4
theorem ents_all (p:Nat→Bool) : ∀{l:List (ByteArray × Nat × Nat)} {es:List MapEntry},entsOK P X l es→(es.all fun e=>p e.born)=(l.all fun a=>p a.2.1)∧es.isEmpty=l.isEmpty:=by
 intro l; induction l with
 | nil=>intro es h; cases es with
  | nil=>exact ⟨rfl,rfl⟩
  | cons=>exact h.elim
 | cons b l ih=>
  intro es h; cases es with
  | nil=>exact h.elim
  | cons e es=>
   obtain ⟨h1,h4⟩:=h; have hb:e.born=b.2.1:=h1.2.1; refine ⟨?_,rfl⟩; simp only [List.all_cons,hb,(ih h4).1]
theorem mx_alive (h:Rel P S0 env m a vs) {j c:Nat} {l:List (ByteArray × Nat × Nat)} (hj:mxAt vs j=some (c,l)) {w:Value} (hw:repV P (vs.cx S0 env m) (.v (.s (.mv j))) w) :
  vs.bx[j]? = some [.mx c l]∧w = .map (some (env.β j)) ∧ ∃k es,m.alive (env.β j)=some k∧k.obj = .map es c∧k.ro=false∧k.sup=false∧k.root=env.β j∧entsOK P (vs.cx S0 env m) l es.toList∧m.mapOf (env.β j)=some (es,c):=by
 have hbx:vs.bx[j]? = some [.mx c l]:=by
  unfold mxAt at hj; split at hj
  ·rename_i c' l' hq; cases hj; exact hq
  ·cases hj
 obtain ⟨h1,i,h2,h3,h4⟩:=hw; have hh:hasOf vs.bx j=true:=by rw [hasOf_get hbx]; rfl
 have hi:i=env.β j:=h4 hh; obtain ⟨k,es,g1,g2,g3,g4,g5,g6⟩:=h.T.bx j _ hbx; refine ⟨hbx,by rw [h2,hi],k,es,g1,g2,g3,g4,g5,g6, ?_⟩; have g1':m.alive (env.β j)=some k:=g1
 unfold M.mapOf; rw [g1']; dsimp only; rw [g2]
theorem txtMap_eq {t e:TypeId} (h:txtMap P t=some e):mapTy P t=some (.string,e):=by
 unfold txtMap at h; split at h
 ·rename_i d e' hm; rw [hm]; cases hb:isTxt d with
  | false=>rw [hb] at h; cases h
  | true=>
   rw [hb] at h; cases h; cases d <;> first | rfl | cases hb
 ·cases h
theorem str_rep {q:ByteArray} {w:Value} (h:repV P X (.v (.s (.c (.string q)))) w):w = .string q:=h.1
theorem vlookup_sound (h : Rel P S0 env m a vs) {t : TypeId} {x k y : Sl} {ok : Bool} {wx wk : Value} {vs1 : VS} (hx : repV P (vs.cx S0 env m) x wx) (hk : repV P (vs.cx S0 env m) k wk) (hv : vlookup P t x k ok vs = some (y, vs1)) :
  vs1=vs ∧ ∃v,ilookup P t wx wk ok m=some v∧repV P (vs.cx S0 env m) y v:=by
 unfold vlookup at hv; split at hv
 ·rename_i e j q ht; split at hv
  ·rename_i c l hj; obtain ⟨hbx,rfl,kb,es,g1,g2,g3,g4,g5,g6,g7⟩:=mx_alive h hj hx; obtain rfl:=str_rep hk
   have hf:=ents_find (q:=q) 0 g6; have hpk : ∀r,Instr.findNow .string (.string q) es.toList 0=some r→ilookup P t (.map (some (env.β j))) (.string q) ok m=lookRes P e ok r:=by
    intro r hr; unfold ilookup; rw [txtMap_eq ht]; dsimp only; rw [g7]; dsimp only; unfold ifind; rw [show plainKey .string (.string q)=true from rfl,if_pos rfl,hr]
   split at hv
   ·rename_i i jj hfi; rw [hfi] at hf; obtain ⟨v,f1,f2,_⟩:=hf; cases hv; refine ⟨rfl,_,(hpk _ f1).trans rfl, ?_⟩; cases ok with
    | true=>exact ⟨_,rfl,f2,⟨rfl,rfl⟩,trivial⟩
    | false=>exact f2
   ·rename_i hfi; rw [hfi] at hf; split at hv
    ·rename_i v hz; cases hv; exact ⟨rfl,v,(hpk _ hf).trans hz,ofV_rep v⟩
    ·cases hv
  ·cases hv
 ·cases hv
theorem vupdate_sound (h : Rel P S0 env m a vs) (hbar : ∀ i, Wb (vs.cx S0 env m) i → m.bar ≤ i) {t : TypeId} {x k v y : Sl} {wx wk wv : Value} {vs1 : VS} (hx : repV P (vs.cx S0 env m) x wx) (hk : repV P (vs.cx S0 env m) k wk) (hv' : repV P (vs.cx S0 env m) v wv) (hv : vupdate P t x k v vs = some (y, vs1)) :
  ∃m1,iupdate P t wx wk wv m=some m1∧Rel P S0 env m1 a vs1∧Stp (vs.cx S0 env m) (vs1.cx S0 env m1)∧y=undefS:=by
 unfold vupdate at hv; split at hv
 ·rename_i e j q ht; split at hv
  ·rename_i c l jj hj; obtain ⟨hbx,rfl,kb,es,g1,g2,g3,g4,g5,g6,g7⟩:=mx_alive h hj hx; obtain rfl:=str_rep hk
   have hf:=ents_find (q:=q) 0 g6; have hp:repC P (vs.cx S0 env m) (.p jj 0) wv:=hv'; have hb:m.bar≤env.β j:=hbar _ (.inl ⟨j,lt_of_get hbx,by show hasOf vs.bx j=true; rw [hasOf_get hbx]; rfl,rfl⟩)
   cases hv; have hpk : ∀r,Instr.findNow .string (.string q) es.toList 0=some r→iupdate P t (.map (some (env.β j))) (.string q) wv m=(match (r:Option (Nat × Value)) with
     | some (j',_)=>m.putObj (env.β j) (.map (es.modify j' fun e => { e with key := .string q,val:=wv }) c)
     | none=>m.putObj (env.β j) (.map (es.push { key := .string q,val:=wv,born:=c }) (c+1))):=by
    intro r hr; unfold iupdate; rw [txtMap_eq ht]; dsimp only; rw [g7]; dsimp only; unfold ifind; rw [show plainKey .string (.string q)=true from rfl,if_pos rfl,hr]; cases r with
    | none=>rfl
    | some r=>rfl
   cases hfi:findK q l 0 with
   | none=>
    rw [hfi] at hf; obtain ⟨k1,k2⟩:=h.setObj (ns := [.mx (c+1) (l ++ [(q,c,jj)])]) hbx rfl rfl rfl g1 g5 (o := .map (es.push { key := .string q,val:=wv,born:=c }) (c+1)) (by rw [g2]; rfl) (fun m' hle hal=>by
     refine ⟨_,_,hal,rfl,g3,g4,g5, ?_⟩; rw [Array.toList_push]; exact (ents_app ⟨rfl,rfl,hp⟩ g6).le hle)
    exact ⟨_,(hpk _ hf).trans (putObj_set g1 g3 g4 g5 hb),k1,k2,rfl⟩
   | some p=>
    obtain ⟨i,j2⟩:=p; rw [hfi] at hf; obtain ⟨v',f1,f2,_⟩:=hf; obtain ⟨k1,k2⟩:=h.setObj (ns := [.mx c (modK q jj l i)]) hbx rfl rfl rfl g1 g5 (o := .map (es.modify i fun e => { e with key := .string q,val:=wv }) c) (by rw [g2]; rfl) (fun m' hle hal=>by
     refine ⟨_,_,hal,rfl,g3,g4,g5, ?_⟩; rw [Array.toList_modify]; exact (ents_mod hp i g6).le hle)
    exact ⟨_,(hpk _ f1).trans (putObj_set g1 g3 g4 g5 hb),k1,k2,rfl⟩
  ·cases hv
 ·cases hv
theorem vdelete_sound (h : Rel P S0 env m a vs) (hbar : ∀ i, Wb (vs.cx S0 env m) i → m.bar ≤ i) {t : TypeId} {x k y : Sl} {wx wk : Value} {vs1 : VS} (hx : repV P (vs.cx S0 env m) x wx) (hk : repV P (vs.cx S0 env m) k wk) (hv : vdelete P t x k vs = some (y, vs1)) :
  ∃m1,idelete P t wx wk m=some m1∧Rel P S0 env m1 a vs1∧Stp (vs.cx S0 env m) (vs1.cx S0 env m1)∧y=undefS:=by
 unfold vdelete at hv; split at hv
 ·rename_i e j q ht; split at hv
  ·rename_i c l hj; obtain ⟨hbx,rfl,kb,es,g1,g2,g3,g4,g5,g6,g7⟩:=mx_alive h hj hx; obtain rfl:=str_rep hk
   have hf:=ents_find (q:=q) 0 g6; have hb:m.bar≤env.β j:=hbar _ (.inl ⟨j,lt_of_get hbx,by show hasOf vs.bx j=true; rw [hasOf_get hbx]; rfl,rfl⟩)
   cases hv; have hpk : ∀r,Instr.findNow .string (.string q) es.toList 0=some r→idelete P t (.map (some (env.β j))) (.string q) m=(match (r:Option (Nat × Value)) with
     | some (j',_)=>m.putObj (env.β j) (.map (es.eraseIdxIfInBounds j') c)
     | none=>m.putObj (env.β j) (.map es c)):=by
    intro r hr; unfold idelete; rw [txtMap_eq ht]; dsimp only; rw [g7]; dsimp only; unfold ifind; rw [show plainKey .string (.string q)=true from rfl,if_pos rfl,hr]; cases r with
    | none=>rfl
    | some r=>rfl
   cases hfi:findK q l 0 with
   | none=>
    rw [hfi] at hf; obtain ⟨k1,k2⟩:=h.setObj (ns := [.mx c l]) hbx rfl rfl rfl g1 g5 (o := .map es c) (by rw [g2]) (fun m' hle hal=>⟨_,_,hal,rfl,g3,g4,g5,g6.le hle⟩); exact ⟨_,(hpk _ hf).trans (putObj_set g1 g3 g4 g5 hb),k1,k2,rfl⟩
   | some p=>
    obtain ⟨i,j2⟩:=p; rw [hfi] at hf; obtain ⟨v',f1,f2,_⟩:=hf; obtain ⟨k1,k2⟩:=h.setObj (ns := [.mx c (eraK l i)]) hbx rfl rfl rfl g1 g5 (o := .map (es.eraseIdxIfInBounds i) c) (by rw [g2]; rfl) (fun m' hle hal=>by
     refine ⟨_,_,hal,rfl,g3,g4,g5, ?_⟩; rw [Array.toList_eraseIdxIfInBounds]; exact (ents_era i g6).le hle)
    exact ⟨_,(hpk _ f1).trans (putObj_set g1 g3 g4 g5 hb),k1,k2,rfl⟩
  ·cases hv
 ·cases hv
theorem mv_new {Y:Cx} {n i:Nat} (h1:n<Y.nb) (h2:i<Y.m.nxt) (h3:Y.env.β n=i):repV P Y (.v (.s (.mv n))) (.map (some i)):=⟨h1,i,rfl,h2,fun _=>h3.symm⟩
theorem vmakeMap_sound (h:Rel P S0 env m a vs) {t:TypeId} {r:Option Sl} {wr:Option Value} {y:Sl} {vs1:VS} (hr:match r,wr with | none,none=>True | some s,some w=>repV P (vs.cx S0 env m) s w | _,_=>False) (hv:vmakeMap P t r vs=some (y,vs1)) :
  ∃v m1 env1,imakeMap P t wr m=some (v,m1)∧Rel P S0 env1 m1 a vs1∧Stp (vs.cx S0 env m) (vs1.cx S0 env1 m1)∧repV P (vs1.cx S0 env1 m1) y v:=by
 obtain ⟨k0,k1,k2⟩:=h.newObj (cs := [.mx 0 []]) (o := .map #[] 0) rfl (fun Y hle hal hβ=>by
  refine ⟨_,_,hal,rfl,rfl,rfl,hβ.symm,trivial⟩)
 have fin : ∀{i},imakeMap P t wr m=some (i,m.mk1 (.map #[] 0))→i = .map (some m.nxt)→(.v (.s (.mv vs.bx.length)),(newBox vs [.mx 0 []]).2)=(y,vs1) → ∃v m1 env1,imakeMap P t wr m=some (v,m1)∧Rel P S0 env1 m1 a vs1∧Stp (vs.cx S0 env m) (vs1.cx S0 env1 m1)∧repV P (vs1.cx S0 env1 m1) y v:=by
  intro i hi e1 e2; cases e2; subst e1; refine ⟨_,_,_,hi,k1,k2, ?_⟩; refine mv_new (by show vs.bx.length<(vs.bx ++ [_]).length; simp) (Nat.lt_succ_self _) (setβ_new _ _ _)
 unfold vmakeMap at hv; split at hv
 ·cases hv; cases wr with
  | some w=>exact hr.elim
  | none=>exact fin (by unfold imakeMap; rw [k0]) rfl rfl
 ·rename_i hu; cases hv; cases wr with
  | none=>exact hr.elim
  | some w=>
   have hw:=hr.1; subst hw; exact fin (by unfold imakeMap; rw [hu,k0]) rfl rfl
 ·cases hv
theorem ev_find {e:Ty} {q:ByteArray} : ∀{l:List (ByteArray × e.El)} {es:List MapEntry} (n:Nat),entsV P X e l es →
  match mfind q l with
  | none=>Instr.findNow .string (.string q) es n=some none
  | some y => ∃i v,Instr.findNow .string (.string q) es n=some (some (i,v))∧repE P X.S X.m e y v.cells.toList∧(e.ag=true → ∃b,v = .agg b)∧(e.ag=false→one v=true):=by
 intro l; induction l with
 | nil=>intro es n h; cases es with
  | nil=>rfl
  | cons=>exact h.elim
 | cons b l ih=>
  intro es n h; cases es with
  | nil=>exact h.elim
  | cons x es=>
   obtain ⟨⟨h1,h2⟩,h4⟩:=h; have hs:Instr.sameNow .string (.string q) x.key=some (q == b.1):=by rw [h1]; rfl
   unfold mfind Instr.findNow; rw [hs]; cases hq:(q == b.1) with
   | true=>exact ⟨_,_,rfl,h2⟩
   | false=>exact ih (n+1) h4
theorem ev_put {e : Ty} {q : ByteArray} {y : e.El} {v : Value} (hv : repE P X.S X.m e y v.cells.toList ∧ (e.ag = true → ∃ b, v = .agg b) ∧ (e.ag = false → one v = true)) (c : Nat) : ∀ {l : List (ByteArray × e.El)} {es : List MapEntry} (n : Nat), entsV P X e l es →
  ∃r,Instr.findNow .string (.string q) es n=some r∧entsV P X e (mput q y l) (match r with
   | some (i,_)=>es.modify (i - n) fun x => { x with key := .string q,val:=v }
   | none=>es ++ [{ key := .string q,val:=v,born:=c }]) ∧ ∀i w,r=some (i,w)→n≤i:=by
 intro l; induction l with
 | nil=>intro es n h; cases es with
  | nil=>exact ⟨none,rfl,⟨⟨rfl,hv⟩,trivial⟩,fun i w q=>by cases q⟩
  | cons=>exact h.elim
 | cons b l ih =>
  intro es n h; cases es with
  | nil=>exact h.elim
  | cons x es=>
   obtain ⟨⟨h1,h2⟩,h4⟩:=h; have hs:Instr.sameNow .string (.string q) x.key=some (q == b.1):=by rw [h1]; rfl
   unfold mput Instr.findNow; rw [hs]; cases hq:(q == b.1) with
   | true=>
    refine ⟨_,rfl, ?_,fun i w q=>by cases q; exact Nat.le_refl _⟩
    dsimp only; rw [Nat.sub_self,List.modify_zero_cons]; exact ⟨⟨rfl,hv⟩,h4⟩
   | false=>
    obtain ⟨r,g1,g2,g3⟩:=ih (n+1) h4; refine ⟨r,g1, ?_,fun i w q=>by have:=g3 i w q; omega⟩
    simp only [cond_false]; cases r with
    | none=>exact ⟨⟨h1,h2⟩,g2⟩
    | some p=>
     obtain ⟨i,w⟩:=p; have:=g3 i w rfl
     dsimp only at g2 ⊢; rw [show i - n=(i - (n+1))+1 by omega,List.modify_succ_cons]; exact ⟨⟨h1,h2⟩,g2⟩
theorem ev_del {e : Ty} {q : ByteArray} : ∀ {l : List (ByteArray × e.El)} {es : List MapEntry} (n : Nat), entsV P X e l es →
  ∃r,Instr.findNow .string (.string q) es n=some r∧entsV P X e (mdel q l) (match r with
   | some (i,_)=>es.eraseIdx (i - n)
   | none=>es) ∧ ∀i w,r=some (i,w)→n≤i:=by
 intro l; induction l with
 | nil=>intro es n h; cases es with
  | nil=>exact ⟨none,rfl,trivial,fun i w q=>by cases q⟩
  | cons=>exact h.elim
 | cons b l ih =>
  intro es n h; cases es with
  | nil=>exact h.elim
  | cons x es=>
   obtain ⟨⟨h1,h2⟩,h4⟩:=h; have hs:Instr.sameNow .string (.string q) x.key=some (q == b.1):=by rw [h1]; rfl
   unfold mdel Instr.findNow; rw [hs]; cases hq:(q == b.1) with
   | true=>
    refine ⟨_,rfl, ?_,fun i w q=>by cases q; exact Nat.le_refl _⟩
    dsimp only; rw [Nat.sub_self]; exact h4
   | false=>
    obtain ⟨r,g1,g2,g3⟩:=ih (n+1) h4; refine ⟨r,g1, ?_,fun i w q=>by have:=g3 i w q; omega⟩
    simp only [cond_false]; cases r with
    | none=>exact ⟨⟨h1,h2⟩,g2⟩
    | some p=>
     obtain ⟨i,w⟩:=p; have:=g3 i w rfl
     dsimp only at g2 ⊢; rw [show i - n=(i - (n+1))+1 by omega]; exact ⟨⟨h1,h2⟩,g2⟩
theorem ms_alive (h:Rel P S0 env m a vs) {j:Nat} {e:Ty} {xs:List (ByteArray × e.El)} (hj:msAt vs j=some ⟨e,xs⟩) {w:Value} (hw:repV P (vs.cx S0 env m) (.v (.s (.mv j))) w) :
  vs.bx[j]? = some [.ms e xs]∧w = .map (some (env.β j)) ∧ ∃k es c,m.alive (env.β j)=some k∧k.obj = .map es c∧k.ro=false∧k.sup=false∧k.root=env.β j∧entsV P (vs.cx S0 env m) e xs es.toList∧m.mapOf (env.β j)=some (es,c):=by
 have hbx:vs.bx[j]? = some [.ms e xs]:=by
  unfold msAt at hj; split at hj
  ·rename_i e' xs' hq; cases hj; exact hq
  ·cases hj
 obtain ⟨h1,i,h2,h3,h4⟩:=hw; have hh:hasOf vs.bx j=true:=by rw [hasOf_get hbx]; rfl
 have hi:i=env.β j:=h4 hh; obtain ⟨k,es,c,g1,g2,g3,g4,g5,g6⟩:=h.T.bx j _ hbx; refine ⟨hbx,by rw [h2,hi],k,es,c,g1,g2,g3,g4,g5,g6, ?_⟩; have g1':m.alive (env.β j)=some k:=g1
 unfold M.mapOf; rw [g1']; dsimp only; rw [g2]
theorem zeroS_rep {bx : List (List Cl)} (hT : RelT P X bx) {et : TypeId} {e : Ty} {y : e.El} (h : zeroS P et e X.bf = some y) : ∃ z, zeroOf P et = some z ∧ repS P X (s1Of e y) z := by
 unfold zeroS at h; split at h
 ·rename_i z hz; split at h
  ·rename_i hc; refine ⟨z,hz, ?_⟩; have hall : ∀v∈z.cells.toList,okc v=true:=by
    have:=hc.1
    rw [Array.all_eq_true'] at this; exact fun v hv=>this v (by simpa using hv)
   have hr:=rdAll_rep hT h (okc_rep hall); refine s1Of_rep hr (fun q => ?_) (fun q => ?_)
   ·have h2:=hc.2.1; rw [q] at h2; unfold isAggV at h2; split at h2
    ·exact ⟨_,rfl⟩
    ·cases h2
   ·have h3:=hc.2.2; rw [q,Bool.false_or,Bool.and_eq_true] at h3; unfold okc at h3; rw [Bool.and_eq_true] at h3; exact h3.1.1
  ·cases h
 ·cases h
theorem vlookupS_sound (h : Rel P S0 env m a vs) {t : TypeId} {x k y : Sl} {ok : Bool} {wx wk : Value} {vs1 : VS} (hx : repV P (vs.cx S0 env m) x wx) (hk : repV P (vs.cx S0 env m) k wk) (hv : vlookupS P t x k ok vs = some (y, vs1)) :
  vs1=vs ∧ ∃v,ilookup P t wx wk ok m=some v∧repV P (vs.cx S0 env m) y v:=by
 unfold vlookupS at hv; split at hv
 ·rename_i et j q ht; split at hv
  ·rename_i e xs hj; obtain ⟨hbx,rfl,kb,es,c,g1,g2,g3,g4,g5,g6,g7⟩:=ms_alive h hj hx; obtain rfl:=str_rep hk
   simp only [Option.map_eq_some_iff,Prod.mk.injEq] at hv; obtain ⟨z,hz,rfl,rfl⟩:=hv; obtain ⟨zv,hz1,hz2⟩:=zeroS_rep (X:=vs.cx S0 env m) h.T hz; have hf:=ev_find (q:=q) 0 g6; have hpk : ∀r,Instr.findNow .string (.string q) es.toList 0=some r→ilookup P t (.map (some (env.β j))) (.string q) ok m=lookRes P et ok r:=by
    intro r hr; unfold ilookup; rw [txtMap_eq ht]; dsimp only; rw [g7]; dsimp only; unfold ifind; rw [show plainKey .string (.string q)=true from rfl,if_pos rfl,hr]
   cases hm:mfind q xs with
   | none=>
    rw [hm] at hf; refine ⟨rfl,(if ok then .tuple #[zv,.bool false] else zv),(hpk _ hf).trans (by unfold lookRes; rw [hz1]; rfl), ?_⟩
    cases ok with
    | true=>exact ⟨_,rfl,hz2,⟨rfl,rfl⟩,trivial⟩
    | false=>exact hz2
   | some y=>
    rw [hm] at hf; obtain ⟨i,v,f1,f2,f3,f4⟩:=hf; refine ⟨rfl,_,(hpk _ f1).trans rfl, ?_⟩; have hs:=s1Of_rep (X:=vs.cx S0 env m) f2 f3 f4; cases ok with
    | true=>exact ⟨_,rfl,hs,⟨rfl,rfl⟩,trivial⟩
    | false=>exact hs
  ·cases hv
 ·cases hv
theorem vupdateS_sound (h : Rel P S0 env m a vs) (hbar : ∀ i, Wb (vs.cx S0 env m) i → m.bar ≤ i) {t : TypeId} {x k v y : Sl} {wx wk wv : Value} {vs1 : VS} (hx : repV P (vs.cx S0 env m) x wx) (hk : repV P (vs.cx S0 env m) k wk) (hv' : repV P (vs.cx S0 env m) v wv) (hv : vupdateS P t x k v vs = some (y, vs1)) :
  ∃m1,iupdate P t wx wk wv m=some m1∧Rel P S0 env m1 a vs1∧Stp (vs.cx S0 env m) (vs1.cx S0 env m1)∧y=undefS:=by
 unfold vupdateS at hv; split at hv
 ·rename_i et j q s ht; split at hv
  ·rename_i e xs hj; obtain ⟨hbx,rfl,kb,es,c,g1,g2,g3,g4,g5,g6,g7⟩:=ms_alive h hj hx; obtain rfl:=str_rep hk
   simp only [Option.map_eq_some_iff,Prod.mk.injEq] at hv; obtain ⟨y0,hy,rfl,rfl⟩:=hv; have hrep:=rdS_rep (X:=vs.cx S0 env m) h.T hy hv'; have hb:m.bar≤env.β j:=hbar _ (.inl ⟨j,lt_of_get hbx,by show hasOf vs.bx j=true; rw [hasOf_get hbx]; rfl,rfl⟩)
   obtain ⟨r,f1,f2,f3⟩:=ev_put (q:=q) (v:=wv) hrep c 0 g6; have hpk : ∀r',Instr.findNow .string (.string q) es.toList 0=some r'→iupdate P t (.map (some (env.β j))) (.string q) wv m=(match (r':Option (Nat × Value)) with
     | some (j',_)=>m.putObj (env.β j) (.map (es.modify j' fun e => { e with key := .string q,val:=wv }) c)
     | none=>m.putObj (env.β j) (.map (es.push { key := .string q,val:=wv,born:=c }) (c+1))):=by
    intro r' hr'; unfold iupdate; rw [txtMap_eq ht]; dsimp only; rw [g7]; dsimp only; unfold ifind; rw [show plainKey .string (.string q)=true from rfl,if_pos rfl,hr']; cases r' with
    | none=>rfl
    | some r=>rfl
   have hroot:kb.root=env.β j:=g5; cases r with
   | none=>
    obtain ⟨k1,k2⟩:=h.setObj (ns := [.ms e (mput q y0 xs)]) hbx rfl rfl rfl g1 g5 (o := .map (es.push { key := .string q,val:=wv,born:=c }) (c+1)) (by rw [g2]; rfl) (fun m' hle hal=>by
     refine ⟨_,_,_,hal,rfl,g3,g4,g5, ?_⟩; rw [Array.toList_push]; exact f2.mono hle.mono)
    exact ⟨_,(hpk _ f1).trans (putObj_set g1 g3 g4 g5 hb),k1,k2,rfl⟩
   | some p=>
    obtain ⟨i,w⟩:=p; obtain ⟨k1,k2⟩:=h.setObj (ns := [.ms e (mput q y0 xs)]) hbx rfl rfl rfl g1 g5 (o := .map (es.modify i fun e => { e with key := .string q,val:=wv }) c) (by rw [g2]; rfl) (fun m' hle hal=>by
     refine ⟨_,_,_,hal,rfl,g3,g4,g5, ?_⟩; rw [Array.toList_modify]; exact f2.mono hle.mono)
    exact ⟨_,(hpk _ f1).trans (putObj_set g1 g3 g4 g5 hb),k1,k2,rfl⟩
  ·cases hv
 ·cases hv
theorem vdeleteS_sound (h : Rel P S0 env m a vs) (hbar : ∀ i, Wb (vs.cx S0 env m) i → m.bar ≤ i) {t : TypeId} {x k y : Sl} {wx wk : Value} {vs1 : VS} (hx : repV P (vs.cx S0 env m) x wx) (hk : repV P (vs.cx S0 env m) k wk) (hv : vdeleteS P t x k vs = some (y, vs1)) :
  ∃m1,idelete P t wx wk m=some m1∧Rel P S0 env m1 a vs1∧Stp (vs.cx S0 env m) (vs1.cx S0 env m1)∧y=undefS:=by
 unfold vdeleteS at hv; split at hv
 ·rename_i et j q ht; split at hv
  ·rename_i e xs hj; obtain ⟨hbx,rfl,kb,es,c,g1,g2,g3,g4,g5,g6,g7⟩:=ms_alive h hj hx; obtain rfl:=str_rep hk
   have hb:m.bar≤env.β j:=hbar _ (.inl ⟨j,lt_of_get hbx,by show hasOf vs.bx j=true; rw [hasOf_get hbx]; rfl,rfl⟩)
   cases hv; obtain ⟨r,f1,f2,f3⟩:=ev_del (q:=q) 0 g6; have hpk : ∀r',Instr.findNow .string (.string q) es.toList 0=some r'→idelete P t (.map (some (env.β j))) (.string q) m=(match (r':Option (Nat × Value)) with
     | some (j',_)=>m.putObj (env.β j) (.map (es.eraseIdxIfInBounds j') c)
     | none=>m.putObj (env.β j) (.map es c)):=by
    intro r' hr'; unfold idelete; rw [txtMap_eq ht]; dsimp only; rw [g7]; dsimp only; unfold ifind; rw [show plainKey .string (.string q)=true from rfl,if_pos rfl,hr']; cases r' with
    | none=>rfl
    | some r=>rfl
   cases r with
   | none=>
    obtain ⟨k1,k2⟩:=h.setObj (ns := [.ms e (mdel q xs)]) hbx rfl rfl rfl g1 g5 (o := .map es c) (by rw [g2]) (fun m' hle hal=>⟨_,_,_,hal,rfl,g3,g4,g5,f2.mono hle.mono⟩); exact ⟨_,(hpk _ f1).trans (putObj_set g1 g3 g4 g5 hb),k1,k2,rfl⟩
   | some p=>
    obtain ⟨i,w⟩:=p; obtain ⟨k1,k2⟩:=h.setObj (ns := [.ms e (mdel q xs)]) hbx rfl rfl rfl g1 g5 (o := .map (es.eraseIdxIfInBounds i) c) (by rw [g2]; rfl) (fun m' hle hal=>by
     refine ⟨_,_,_,hal,rfl,g3,g4,g5, ?_⟩; rw [Array.toList_eraseIdxIfInBounds]; exact f2.mono hle.mono)
    exact ⟨_,(hpk _ f1).trans (putObj_set g1 g3 g4 g5 hb),k1,k2,rfl⟩
  ·cases hv
 ·cases hv
theorem vmakeMapS_sound (h : Rel P S0 env m a vs) {t : TypeId} {r : Option Sl} {wr : Option Value} {y : Sl} {vs1 : VS} (hr : match r, wr with | none, none => True | some s, some w => repV P (vs.cx S0 env m) s w | _, _ => False) (hv : vmakeMapS P t r vs = some (y, vs1)) :
  ∃v m1 env1,imakeMap P t wr m=some (v,m1)∧Rel P S0 env1 m1 a vs1∧Stp (vs.cx S0 env m) (vs1.cx S0 env1 m1)∧repV P (vs1.cx S0 env1 m1) y v:=by
 unfold vmakeMapS at hv; split at hv
 ·rename_i et ht; split at hv
  ·rename_i e he; obtain ⟨k0,k1,k2⟩:=h.newObj (cs := [.ms e []]) (o := .map #[] 0) rfl (fun Y hle hal hβ=>by
    refine ⟨_,_,_,hal,rfl,rfl,rfl,hβ.symm,trivial⟩)
   have fin : ∀{i},imakeMap P t wr m=some (i,m.mk1 (.map #[] 0))→i = .map (some m.nxt)→(.v (.s (.mv vs.bx.length)),(newBox vs [.ms e []]).2)=(y,vs1) → ∃v m1 env1,imakeMap P t wr m=some (v,m1)∧Rel P S0 env1 m1 a vs1∧Stp (vs.cx S0 env m) (vs1.cx S0 env1 m1)∧repV P (vs1.cx S0 env1 m1) y v:=by
    intro i hi e1 e2; cases e2; subst e1; refine ⟨_,_,_,hi,k1,k2, ?_⟩; refine mv_new (by show vs.bx.length<(vs.bx ++ [_]).length; simp) (Nat.lt_succ_self _) (setβ_new _ _ _)
   split at hv
   ·cases hv; cases wr with
    | some w=>exact hr.elim
    | none=>exact fin (by unfold imakeMap; rw [k0]) rfl rfl
   ·rename_i hu; cases hv; cases wr with
    | none=>exact hr.elim
    | some w=>
     have hw:=hr.1; subst hw; exact fin (by unfold imakeMap; rw [hu,k0]) rfl rfl
   ·cases hv
  ·cases hv
 ·cases hv
theorem vrangeM_sound (h : Rel P S0 env m a vs) {t : TypeId} {x y : Sl} {wx : Value} {vs1 : VS} (hx : repV P (vs.cx S0 env m) x wx) (hv : vrangeM P t x vs = some (y, vs1)) :
  ∃v m1 env1,irange P t wx m=some (v,m1)∧Rel P S0 env1 m1 a vs1∧Stp (vs.cx S0 env m) (vs1.cx S0 env1 m1)∧repV P (vs1.cx S0 env1 m1) y v:=by
 unfold vrangeM at hv; split at hv
 ·rename_i j; split at hv
  ·rename_i c l hj; obtain ⟨hbx,rfl,kb,es,g1,g2,g3,g4,g5,g6,g7⟩:=mx_alive h hj hx; cases hu:isMapT (P.underlying t) with
   | false=>rw [hu] at hv; cases hv
   | true=>
    rw [hu] at hv; simp only [cond_true,Option.some.injEq] at hv; have hro:rangeObj P t (.map (some (env.β j))) m=some (.mapIter (some (env.β j)) c #[] c):=by
     unfold rangeObj; unfold isMapT at hu; split at hu
     ·rename_i kd ed hd; rw [hd]; dsimp only; rw [g7]
     ·cases hu
    have hlt:env.β j<m.nxt:=alive_lt h.T.free g1; obtain ⟨k0,k1,k2⟩:=h.newObj (cs := [.mi j c [] c]) (o := .mapIter (some (env.β j)) c #[] c) rfl (fun Y hle hal hβ=>by
     refine ⟨Nat.lt_of_lt_of_le (lt_of_get hbx) hle.nb,_,env.β j,hal,rfl,rfl,rfl,hβ.symm,Nat.lt_of_lt_of_le hlt hle.nxt,fun q=>(hle.β j (lt_of_get hbx)).symm⟩)
    cases hv; refine ⟨_,_,_,by unfold irange; rw [hro]; dsimp only; rw [k0],k1,k2, ?_⟩
    exact ⟨by show vs.bx.length<(vs.bx ++ [_]).length; simp,m.nxt,rfl,Nat.lt_succ_self _,fun _=>(setβ_new _ _ _).symm⟩
  ·cases hv
 ·cases hv
theorem cand_list (es:Array MapEntry) (since:Nat) (seen:List Nat):(candOf es since seen.toArray).toList =
  (if ((es.toList.filter fun e => !seen.contains e.born).filter fun e=>decide (e.born<since)).isEmpty then [none] else []) ++
   (((es.toList.filter fun e => !seen.contains e.born).filter fun e=>decide (e.born<since))++((es.toList.filter fun e => !seen.contains e.born).filter fun e=>decide (e.born≥since))).map some:=by
 unfold candOf; have h1 : ∀x:Array MapEntry,x.isEmpty=x.toList.isEmpty:=fun x=>by cases x with | mk l=>cases l <;> rfl
 rw [h1]; simp only [Array.toList_append,Array.toList_map,Array.toList_filter,List.contains_toArray]; split <;> rfl
theorem ents_nil {es:List MapEntry} (h:entsOK P X [] es):es = []:=by
 cases es with
 | nil=>rfl
 | cons=>exact h.elim
theorem ents_one {a:ByteArray × Nat × Nat} {es:List MapEntry} (h:entsOK P X [a] es) : ∃e,es = [e]∧e.key = .string a.1∧e.born=a.2.1∧repC P X (.p a.2.2 0) e.val:=by
 cases es with
 | nil=>exact h.elim
 | cons e es=>exact ⟨e,by rw [ents_nil h.2],h.1⟩
theorem vnextM_sound (h : Rel P S0 env m a vs) (hbar : ∀ i, Wb (vs.cx S0 env m) i → m.bar ≤ i) {i jm since last c : Nat} {seen : List Nat} {l : List (ByteArray × Nat × Nat)} {y : Sl} {vs1 : VS} (hi : vs.bx[i]? = some [.mi jm since seen last]) (hj : mxAt vs jm = some (c, l)) (hv : vnextM i jm since seen last c l vs = some (y, vs1)) :
  ∃v m1,inext (.pointer (some ⟨env.β i,0,none⟩)) false m=some (v,m1)∧Rel P S0 env m1 a vs1∧Stp (vs.cx S0 env m) (vs1.cx S0 env m1)∧repV P (vs1.cx S0 env m1) y v:=by
 obtain ⟨u0,k,ib,u1,u2,u3,u4,u5,u6,u7⟩:=h.T.bx i _ hi; have hbxj:vs.bx[jm]? = some [.mx c l]:=by
  unfold mxAt at hj; split at hj
  ·rename_i c' l' hq; cases hj; exact hq
  ·cases hj
 have hh:hasOf vs.bx jm=true:=by rw [hasOf_get hbxj]; rfl
 have hib:ib=env.β jm:=u7 hh; subst hib; obtain ⟨_,_,kb,es,g1,g2,g3,g4,g5,g6,g7⟩:=mx_alive (w := .map (some (env.β jm))) h hj ⟨u0,_,rfl,u6,fun _=>rfl⟩; have u1':m.alive (env.β i)=some k:=u1
 have hb:m.bar≤env.β i:=hbar _ (.inl ⟨i,lt_of_get hi,by show hasOf vs.bx i=true; rw [hasOf_get hi]; rfl,rfl⟩)
 unfold vnextM at hv; obtain ⟨e1,e2⟩:=ents_all (fun b=>decide (b≥last)) g6; have hemp:es.isEmpty=l.isEmpty:=by rw [←e2]; cases es with | mk q=>cases q <;> rfl
 have hall:es.all (fun x=>decide (x.born≥last))=l.all (fun a=>decide (a.2.1≥last)):=by rw [←e1,Array.all_toList]
 have hsee:seen.toArray.isEmpty=seen.isEmpty:=by cases seen <;> rfl
 cases hg:(!seen.isEmpty && !l.isEmpty && l.all (fun a=>decide (a.2.1≥last))) with
 | true=>rw [hg] at hv; cases hv
 | false=>
  rw [hg] at hv; simp only [cond_false] at hv; have hA:=ents_filter (fun b=>decide (b<since)) (ents_filter (fun b => !seen.contains b) g6); have hB:=ents_filter (fun b=>decide (b≥since)) (ents_filter (fun b => !seen.contains b) g6); have hc:=cand_list es since seen; have hin:inext (.pointer (some ⟨env.β i,0,none⟩)) false m=(match (candOf es since seen.toArray).toList with
   | [some e]=>(m.putObj (env.β i) (.mapIter (some (env.β jm)) since (seen.toArray.push e.born) c)).map fun m1=>(.tuple #[.bool true,e.key,e.val],m1)
   | [none]=>some (.tuple #[.bool false],m)
   | _=>none):=by
   show (match m.alive (env.β i) with | some b=>inextObj m (env.β i) false b.obj | none=>none)=_; rw [u1']; dsimp only; rw [u2]; unfold inextObj; dsimp only; rw [if_neg (by decide),g7]; dsimp only; rw [if_neg (by rw [hsee,hemp,hall]; rw [hg]; decide)]
   split
   ·rename_i q; rw [q]
   ·rename_i q; rw [q]
   ·rename_i q1 q2; split
    ·rename_i q; exact absurd q (q1 _)
    ·rename_i q; exact absurd q q2
    ·rfl
  split at hv
  ·rename_i o1 o2; have w1:=ents_nil (by rw [←o1]; exact hA)
   have w2:=ents_nil (by rw [←o2]; exact hB)
   rw [w1,w2] at hc; rw [hc] at hin; cases hv; exact ⟨_,m,hin,h,Stp.refl h.T.free,_,rfl,⟨rfl,rfl⟩,trivial⟩
  ·rename_i b o1 o2; obtain ⟨e,w1,w3,w4,w5⟩:=ents_one (by rw [←o1]; exact hA)
   have w2:=ents_nil (by rw [←o2]; exact hB)
   rw [w1,w2] at hc; rw [hc] at hin; cases hv; obtain ⟨k1,k2⟩:=h.setObj (ns := [.mi jm since (seen ++ [b.2.1]) c]) hi rfl rfl rfl u1 u5 (o := .mapIter (some (env.β jm)) since (seen.toArray.push e.born) c) (by rw [u2]; rfl) (fun m' hle hal=>by
    refine ⟨Nat.lt_of_lt_of_le u0 hle.nb,_,env.β jm,hal, ?_,u3,u4,u5,Nat.lt_of_lt_of_le u6 hle.nxt,fun _=>rfl⟩; rw [w4]; simp)
   refine ⟨.tuple #[.bool true,e.key,e.val],_,hin.trans ?_,k1,k2, ?_⟩
   ·show (m.putObj (env.β i) (.mapIter (some (env.β jm)) since (seen.toArray.push e.born) c)).map (fun m1=>(Value.tuple #[.bool true,e.key,e.val],m1))=_; rw [putObj_set u1' u3 u4 u5 hb]; rfl
   ·exact ⟨_,rfl,⟨rfl,rfl⟩,⟨w3,rfl⟩,w5.le k2.le,trivial⟩
  ·cases hv
theorem vnext_sound (h : Rel P S0 env m a vs) (hbar : ∀ i, Wb (vs.cx S0 env m) i → m.bar ≤ i) {x y : Sl} {s : Bool} {wx : Value} {vs1 : VS} (hx : repV P (vs.cx S0 env m) x wx) (hv : vnext x s vs = some (y, vs1)) :
  ∃v m1,inext wx s m=some (v,m1)∧Rel P S0 env m1 a vs1∧Stp (vs.cx S0 env m) (vs1.cx S0 env m1)∧repV P (vs1.cx S0 env m1) y v:=by
 unfold vnext at hv; split at hv
 ·rename_i i; split at hv
  ·rename_i jm since seen last hi; split at hv
   ·rename_i c l hj; obtain ⟨h1,b,rfl,h3,h4⟩:=hx; have hb:b=env.β i:=h4 (by show hasOf vs.bx i=true; rw [hasOf_get hi]; rfl)
    subst hb; exact vnextM_sound h hbar hi hj hv
   ·cases hv
  ·cases hv
 ·cases hv
theorem ents_findB (p:Nat→Bool) : ∀{l:List (ByteArray × Nat × Nat)} {es:List MapEntry},entsOK P X l es → ∀{b:ByteArray × Nat × Nat},l.find? (fun a=>p a.2.1)=some b → ∃e,es.find? (fun x=>p x.born)=some e∧e.key = .string b.1∧repC P X (.p b.2.2 0) e.val:=by
 intro l; induction l with
 | nil=>intro es h b hb; cases hb
 | cons a l ih=>
  intro es h b hb; cases es with
  | nil=>exact h.elim
  | cons e es=>
   obtain ⟨⟨h1,h2,h3⟩,h4⟩:=h; rw [List.find?_cons] at hb ⊢; rw [h2]; split at hb
   ·cases hb; exact ⟨e,rfl,h1,h3⟩
   ·exact ih h4 hb
theorem ventry_sound (h : Rel P S0 env m a vs) {x y : Sl} {wx : Value} {vs1 : VS} (hx : repV P (vs.cx S0 env m) x wx) (hv : ventry x vs = some (y, vs1)) :
  vs1=vs ∧ ∃v,ientry wx m=some v∧repV P (vs.cx S0 env m) y v:=by
 unfold ventry at hv; split at hv
 ·rename_i i; split at hv
  ·rename_i jm since seen last hi; split at hv
   ·rename_i c l st hj hst; obtain ⟨h1,b,rfl,h3,h4⟩:=hx; have hb:b=env.β i:=h4 (by show hasOf vs.bx i=true; rw [hasOf_get hi]; rfl)
    subst hb; cases hcl:Nat.beq c last with
    | false=>rw [hcl] at hv; cases hv
    | true=>
     rw [hcl] at hv; simp only [cond_true,Option.map_eq_some_iff,Prod.mk.injEq] at hv; obtain ⟨q,hq,rfl,rfl⟩:=hv; have hc:c=last:=Nat.eq_of_beq_eq_true hcl; subst hc; obtain ⟨u0,k,ib,u1,u2,u3,u4,u5,u6,u7⟩:=h.T.bx i _ hi; have hbxj:vs.bx[jm]? = some [.mx c l]:=by
      unfold mxAt at hj; split at hj
      ·rename_i c' l' hq; cases hj; exact hq
      ·cases hj
     have hib:ib=env.β jm:=u7 (by show hasOf vs.bx jm=true; rw [hasOf_get hbxj]; rfl)
     subst hib; obtain ⟨_,_,kb,es,g1,g2,g3,g4,g5,g6,g7⟩:=mx_alive (w := .map (some (env.β jm))) h hj ⟨u0,_,rfl,u6,fun _=>rfl⟩; have u1':m.alive (env.β i)=some k:=u1
     obtain ⟨e,e1,e2,e3⟩:=ents_findB (fun n=>n == st) g6 hq; refine ⟨rfl,.tuple #[e.key,e.val], ?_,⟨_,rfl,⟨e2,rfl⟩,e3,trivial⟩⟩; have hbk:seen.toArray.back? = some st:=by rw [List.back?_toArray]; exact hst
     unfold ientry; simp only [u1',u2,hbk,g7,if_true,e1,Option.map_some]
   ·cases hv
  ·cases hv
 ·cases hv
theorem ex_find {q:ByteArray} : ∀{l:List (ByteArray × Value)} {es:List MapEntry} (n:Nat),entsX l es →
  match mfind q l with
  | none=>Instr.findNow .string (.string q) es n=some none
  | some v => ∃i,Instr.findNow .string (.string q) es n=some (some (i,v)):=by
 intro l; induction l with
 | nil=>intro es n h; cases es with
  | nil=>rfl
  | cons=>exact h.elim
 | cons b l ih=>
  intro es n h; cases es with
  | nil=>exact h.elim
  | cons x es=>
   obtain ⟨⟨h1,h2⟩,h4⟩:=h; have hs:Instr.sameNow .string (.string q) x.key=some (q == b.1):=by rw [h1]; rfl
   unfold mfind Instr.findNow; rw [hs]; cases hq:(q == b.1) with
   | true=>exact ⟨_,by dsimp only; rw [h2]⟩
   | false=>exact ih (n+1) h4
theorem ex_put {q : ByteArray} {v : Value} (c : Nat) : ∀ {l : List (ByteArray × Value)} {es : List MapEntry} (n : Nat), entsX l es →
  ∃r,Instr.findNow .string (.string q) es n=some r∧entsX (mput q v l) (match r with
   | some (i,_)=>es.modify (i - n) fun x => { x with key := .string q,val:=v }
   | none=>es ++ [{ key := .string q,val:=v,born:=c }]) ∧ ∀i w,r=some (i,w)→n≤i:=by
 intro l; induction l with
 | nil=>intro es n h; cases es with
  | nil=>exact ⟨none,rfl,⟨⟨rfl,rfl⟩,trivial⟩,fun i w q=>by cases q⟩
  | cons=>exact h.elim
 | cons b l ih =>
  intro es n h; cases es with
  | nil=>exact h.elim
  | cons x es=>
   obtain ⟨⟨h1,h2⟩,h4⟩:=h; have hs:Instr.sameNow .string (.string q) x.key=some (q == b.1):=by rw [h1]; rfl
   unfold mput Instr.findNow; rw [hs]; cases hq:(q == b.1) with
   | true=>
    refine ⟨_,rfl, ?_,fun i w q=>by cases q; exact Nat.le_refl _⟩
    dsimp only; rw [Nat.sub_self,List.modify_zero_cons]; exact ⟨⟨rfl,rfl⟩,h4⟩
   | false=>
    obtain ⟨r,g1,g2,g3⟩:=ih (n+1) h4; refine ⟨r,g1, ?_,fun i w q=>by have:=g3 i w q; omega⟩
    simp only [cond_false]; cases r with
    | none=>exact ⟨⟨h1,h2⟩,g2⟩
    | some p=>
     obtain ⟨i,w⟩:=p; have:=g3 i w rfl
     dsimp only at g2 ⊢; rw [show i - n=(i - (n+1))+1 by omega,List.modify_succ_cons]; exact ⟨⟨h1,h2⟩,g2⟩
theorem beq_B {a b:ByteArray}:(a == b)=true↔a=b:=MapKept.bytes_beq a b
theorem cond_some' {ρ:Type} {b:Bool} {x:Option ρ} {r:ρ} (h:(bif b then x else none)=some r):b=true∧x=some r:=by
 cases b with
 | true=>exact ⟨rfl,h⟩
 | false=>cases h
theorem mfind_mput {α : Type} {q q' : ByteArray} {v : α} : ∀ {l : List (ByteArray × α)}, mfind q (mput q' v l) = if q = q' then some v else mfind q l := by
 intro l; induction l with
 | nil=>
  show (bif q == q' then some v else none)=_; cases hq:(q == q') with
  | true=>rw [if_pos (beq_B.1 hq)]; rfl
  | false=>rw [if_neg (fun e=>by rw [beq_B.2 e] at hq; cases hq)]; rfl
 | cons b l ih =>
  unfold mput; cases hb:(q' == b.1) with
  | true=>
   show (bif q == q' then some v else mfind q l)=_; have e1:=beq_B.1 hb; cases hq:(q == q') with
   | true=>rw [if_pos (beq_B.1 hq)]; rfl
   | false=>
    rw [if_neg (fun e=>by rw [beq_B.2 e] at hq; cases hq)]
    show _=(bif q == b.1 then some b.2 else mfind q l); rw [←e1,hq]; rfl
  | false=>
   show (bif q == b.1 then some b.2 else mfind q (mput q' v l))=_; rw [ih]; show _=if q=q' then some v else (bif q == b.1 then some b.2 else mfind q l); cases hq:(q == b.1) with
   | true=>
    have hne : ¬q=q':=fun e=>by
     rw [←e,hq] at hb; cases hb
    rw [if_neg hne,if_neg hne]
   | false=>rfl
theorem mem_mput {α : Type} {q : ByteArray} {v : α} : ∀ {l : List (ByteArray × α)} {a : ByteArray × α}, a ∈ mput q v l → a.1 = q ∨ ∃ b ∈ l, b.1 = a.1 := by
 intro l; induction l with
 | nil=>
  intro a h; rcases List.mem_cons.1 h with rfl | h
  ·exact .inl rfl
  ·cases h
 | cons b l ih=>
  intro a h; unfold mput at h; cases hb:(q == b.1) with
  | true=>
   rw [hb] at h; rcases List.mem_cons.1 h with rfl | h
   ·exact .inl rfl
   ·exact .inr ⟨a,List.mem_cons_of_mem _ h,rfl⟩
  | false=>
   rw [hb] at h; rcases List.mem_cons.1 h with rfl | h
   ·exact .inr ⟨a,List.mem_cons_self,rfl⟩
   ·rcases ih h with h|⟨c,h1,h2⟩
    ·exact .inl h
    ·exact .inr ⟨c,List.mem_cons_of_mem _ h1,h2⟩
theorem mfind_none {α:Type} {q:ByteArray} : ∀{l:List (ByteArray × α)},(∀a∈l,a.1≠q)→mfind q l=none:=by
 intro l; induction l with
 | nil=>intro _; rfl
 | cons b l ih=>
  intro h; show (bif q == b.1 then some b.2 else mfind q l)=none; cases hq:(q == b.1) with
  | true=>exact absurd (beq_B.1 hq).symm (h b List.mem_cons_self)
  | false=>exact ih fun a ha=>h a (List.mem_cons_of_mem _ ha)
theorem repG_plain : ∀{cs:List Cl} {ws:List Value},cs.any isSg=false→(repG P X cs ws↔repCs P X cs ws):=by
 intro cs; induction cs with
 | nil=>intro ws _; cases ws with
  | nil=>exact Iff.intro (fun _=>trivial) (fun _=>rfl)
  | cons=>exact Iff.intro (fun h=>by cases h) (fun h=>False.elim h)
 | cons c cs ih=>
  intro ws h; rw [List.any_cons,Bool.or_eq_false_iff] at h
  constructor
  ·rintro ⟨w1,w2,rfl,h2,h3⟩
   obtain ⟨w,rfl,h4⟩:=(repW_of h.1).1 h2; exact ⟨h4,(ih h.2).1 h3⟩
  ·intro hr; cases ws with
   | nil=>exact hr.elim
   | cons w ws=>exact ⟨[w],ws,rfl,(repW_of h.1).2 ⟨w,rfl,hr.1⟩,(ih h.2).2 hr.2⟩
theorem repCs_put : ∀{cs:List Cl} {ws:List Value} {c:Cl} {w:Value} (i:Nat),repCs P X cs ws→repC P X c w→repCs P X (cs.set i c) (ws.set i w):=by
 intro cs; induction cs with
 | nil=>intro ws c w i h _; cases ws with
  | nil=>exact h
  | cons=>exact h.elim
 | cons d cs ih=>
  intro ws c w i h hr; cases ws with
  | nil=>exact h.elim
  | cons u ws=>
   cases i with
   | zero=>exact ⟨hr,h.2⟩
   | succ i=>exact ⟨h.1,ih i h.2 hr⟩
theorem cellK_some {q : ByteArray} {c : Cl} : ∀ {ks : List ByteArray} {cs : List Cl}, cellK q ks cs = some c → ∃ i : Nat, ks[i]? = some q ∧ cs[i]? = some c := by
 intro ks; induction ks with
 | nil=>intro cs h; cases h
 | cons k ks ih=>
  intro cs h; cases cs with
  | nil=>cases h
  | cons d cs=>
   simp only [cellK] at h; cases hq:(q == k) with
   | true=>rw [hq] at h; cases h; exact ⟨0,by rw [beq_B.1 hq]; rfl,rfl⟩
   | false=>
    rw [hq] at h; obtain ⟨i,h1,h2⟩:=ih h; exact ⟨i+1,h1,h2⟩
theorem setK_some {q : ByteArray} {c : Cl} : ∀ {ks : List ByteArray} {cs cs1 : List Cl}, setK q c ks cs = some cs1 → ∃ i : Nat, ks[i]? = some q ∧ (∀ i', ks[i']? = some q → i' = i) ∧ i < cs.length ∧ cs1 = cs.set i c := by
 intro ks; induction ks with
 | nil=>intro cs cs1 h; cases h
 | cons k ks ih =>
  intro cs cs1 h; cases cs with
  | nil=>cases h
  | cons d cs =>
   simp only [setK] at h; cases hq:(q == k) with
   | true=>
    rw [hq] at h; simp only [cond_true] at h; cases ha:ks.any (q == ·) with
    | true=>rw [ha] at h; cases h
    | false=>
     rw [ha] at h; cases h; refine ⟨0,by rw [beq_B.1 hq]; rfl,fun i' hi => ?_,Nat.succ_pos _,rfl⟩
     cases i' with
     | zero=>rfl
     | succ i'=>
      have:ks.any (q == ·)=true:=List.any_eq_true.2 ⟨q,List.mem_of_getElem? hi,beq_B.2 rfl⟩
      rw [ha] at this; cases this
   | false=>
    rw [hq] at h; simp only [cond_false,Option.map_eq_some_iff] at h; obtain ⟨r,h1,rfl⟩:=h; obtain ⟨i,g1,g2,g3,rfl⟩:=ih h1; refine ⟨i+1,g1,fun i' hi => ?_,Nat.succ_lt_succ g3,rfl⟩; cases i' with
    | zero=>cases hi; rw [beq_B.2 rfl] at hq; cases hq
    | succ i'=>rw [g2 i' hi]
theorem pickK_rep {bx : List (List Cl)} (hT : RelT P X bx) {e : Ty} {q : ByteArray} : ∀ {ks : List ByteArray} {cs : List Cl} {ws : List Value} {xs : List e.El}, pickK X.bf e q ks cs = some xs → repCs P X cs ws → (∃ (i : Nat) (w : Value), ks[i]? = some q ∧ ws[i]? = some w ∧ repL P X.S X.m e.n (repE P X.S X.m e) xs w) ∨ (q ∉ ks ∧ xs = []) := by
 intro ks; induction ks with
 | nil=>intro cs ws xs h _; cases cs with
  | nil=>cases h; exact .inr ⟨List.not_mem_nil,rfl⟩
  | cons=>cases h
 | cons k ks ih =>
  intro cs ws xs h hr; cases cs with
  | nil=>cases h
  | cons c cs =>
   cases ws with
   | nil=>exact hr.elim
   | cons w ws =>
    simp only [pickK] at h; split at h
    ·rename_i ys r h1 h2; cases h; cases hq:(q == k) with
     | true=>exact .inl ⟨0,w,by rw [beq_B.1 hq]; rfl,rfl,getL_rep hT h1 hr.1⟩
     | false=>
      rcases ih h2 hr.2 with ⟨i,u,g1,g2,g3⟩|⟨g1,g2⟩
      ·exact .inl ⟨i+1,u,g1,g2,g3⟩
      ·refine .inr ⟨fun hm => ?_,g2⟩; rcases List.mem_cons.1 hm with e1 | hm
       ·rw [beq_B.2 e1] at hq; cases hq
       ·exact g1 hm
    ·cases h
theorem mt_alive (h:Rel P S0 env m a vs) {j:Nat} {ks:List ByteArray} {cs:List Cl} (hj:mtAt vs j=some (ks,cs)) {w:Value} (hw:repV P (vs.cx S0 env m) (.v (.s (.mv j))) w) :
  vs.bx[j]? = some (.mt ks::cs)∧cs.any isSg=false∧w = .map (some (env.β j)) ∧ ∃k es c ws,m.alive (env.β j)=some k∧k.obj = .map es c∧k.ro=false∧k.sup=false∧k.root=env.β j∧repCs P (vs.cx S0 env m) cs ws∧linkM ks ws es.toList∧m.mapOf (env.β j)=some (es,c):=by
 obtain ⟨hbx,hns⟩:vs.bx[j]? = some (.mt ks::cs)∧cs.any isSg=false:=by
  unfold mtAt at hj; split at hj
  ·rename_i ks' cs' hq; cases hs:cs'.any isSg with
   | true=>rw [hs] at hj; cases hj
   | false=>rw [hs] at hj; cases hj; exact ⟨hq,hs⟩
  ·cases hj
 obtain ⟨h1,i,h2,h3,h4⟩:=hw; have hsg:(Cl.mt ks::cs).any isSg=true:=rfl; have hh:hasOf vs.bx j=true:=by rw [hasOf_get hbx]; exact (has1_sg hsg).1
 have hi:i=env.β j:=h4 hh; obtain ⟨k,ws,g1,g3,g4,g5,g6,es,c,g2,g7⟩:=(h.T.bx j _ hbx).sg hsg; obtain ⟨w1,w2,e1,e2,g8⟩:=g6; have e2':w1 = []:=e2
 rw [e2',List.nil_append] at e1; refine ⟨hbx,hns,by rw [h2,hi],k,es,c,ws,g1,g2,g3,g4,g5,by rw [e1]; exact (repG_plain hns).1 g8,g7, ?_⟩
 have g1':m.alive (env.β j)=some k:=g1
 unfold M.mapOf; rw [g1']; dsimp only; rw [g2]
theorem repL_full {S':Nat→Prop} {n:Nat} {α:Type} {R:α→List Value→Prop} {xs:List α} {w:Value} (h:repL P S' m n R xs w):fullV w = !xs.isEmpty:=by
 rcases h with ⟨rfl,rfl⟩|⟨i,o,sp,cap,rfl,_⟩
 ·rfl
 ·cases xs <;> rfl
theorem vlookupT_sound (h : Rel P S0 env m a vs) {t : TypeId} {x k y : Sl} {ok hot : Bool} {wx wk : Value} {vs1 : VS} (hx : repV P (vs.cx S0 env m) x wx) (hk : repV P (vs.cx S0 env m) k wk) (hv : vlookupT P t x k ok hot vs = some (y, vs1)) :
  vs1=vs ∧ ∃v,ilookup P t wx wk ok m=some v∧repV P (vs.cx S0 env m) y v:=by
 unfold vlookupT at hv; split at hv
 ·rename_i et j q ht; split at hv
  ·rename_i ks cs hj; obtain ⟨hbx, hns, rfl, kb, es, c, ws, g1, g2, g3, g4, g5, g6, g7, g8⟩ := mt_alive h hj hx; obtain rfl := str_rep hk
   obtain ⟨xs,l1,l2,l3,l4⟩:=g7; have hf:=ex_find (q:=q) 0 l1; have hlk : ∀r,Instr.findNow .string (.string q) es.toList 0=some r→ilookup P t (.map (some (env.β j))) (.string q) ok m=lookRes P et ok r:=by
    intro r hr; unfold ilookup; rw [txtMap_eq ht]; dsimp only; rw [g8]; dsimp only; unfold ifind; rw [show plainKey .string (.string q)=true from rfl,if_pos rfl,hr]
   obtain ⟨hz,hv⟩:=cond_some' hv; have hz1:zeroOf P et=some (.slice none 0 0):=by
    unfold nilZ at hz; split at hz
    ·rename_i z hzz; rw [hzz,nilSl_eq hz]
    ·cases hz
   have found : ∀{i:Nat} {w:Value},ks[i]? = some q→ws[i]? = some w→ilookup P t (.map (some (env.β j))) (.string q) ok m=some (if ok then .tuple #[w,.bool (fullV w)] else w):=by
    intro i w h1 h2; obtain ⟨e1,e2⟩:=l4 i q w h1 h2; cases hfu:fullV w with
    | true=>
     rw [hfu,if_pos rfl] at e1; rw [e1] at hf; obtain ⟨i',hf⟩:=hf; exact (hlk _ hf).trans rfl
    | false=>
     rw [hfu,if_neg (by simp)] at e1; rw [e1] at hf; rw [hlk _ hf,e2 hfu]; unfold lookRes; rw [hz1]; rfl
   cases hot with
   | true=>
    cases ok with
    | true=>cases hv
    | false=>
     simp only [cond_true,cond_false,Option.map_eq_some_iff,Prod.mk.injEq] at hv; obtain ⟨cl,hc,rfl,rfl⟩:=hv; obtain ⟨i,h1,h2⟩:=cellK_some hc; have hil:i<ws.length:=by rw [←l3]; exact lt_of_get h1
     have h3:ws[i]? = some ws[i]:=List.getElem?_eq_getElem hil; obtain ⟨u,h4,h5⟩:=repCs_get g6 h2; rw [h3] at h4; cases h4; exact ⟨rfl,ws[i],found h1 h3,h5⟩
   | false=>
    simp only [cond_false] at hv; split at hv
    ·rename_i e he; simp only [Option.map_eq_some_iff,Prod.mk.injEq] at hv; obtain ⟨ys,hp,rfl,rfl⟩:=hv; rcases pickK_rep (X:=vs.cx S0 env m) h.T hp g6 with ⟨i,w,h1,h2,h3⟩|⟨h1,rfl⟩
     ·refine ⟨rfl,_,found h1 h2, ?_⟩; have hfu:=repL_full h3; cases ok with
      | true=>exact ⟨_,rfl,h3,⟨by rw [hfu],rfl⟩,trivial⟩
      | false=>exact h3
     ·have hn:mfind q xs=none:=mfind_none fun b hb e=>h1 (by rw [←e]; exact l2 b hb)
      rw [hn] at hf; refine ⟨rfl,(if ok then .tuple #[.slice none 0 0,.bool false] else .slice none 0 0),(hlk _ hf).trans (by unfold lookRes; rw [hz1]; rfl), ?_⟩
      cases ok with
      | true=>exact ⟨_,rfl,.inl ⟨rfl,rfl⟩,⟨rfl,rfl⟩,trivial⟩
      | false=>exact .inl ⟨rfl,rfl⟩
    ·cases hv
  ·cases hv
 ·cases hv
theorem vupdateT_sound (h : Rel P S0 env m a vs) (hbar : ∀ i, Wb (vs.cx S0 env m) i → m.bar ≤ i) {t : TypeId} {x k v y : Sl} {wx wk wv : Value} {vs1 : VS} (hx : repV P (vs.cx S0 env m) x wx) (hk : repV P (vs.cx S0 env m) k wk) (hv' : repV P (vs.cx S0 env m) v wv) (hv : vupdateT P t x k v vs = some (y, vs1)) (hg : ∀ g, guardT vs x v = some g → g = true) :
  ∃m1,iupdate P t wx wk wv m=some m1∧Rel P S0 env m1 a vs1∧Stp (vs.cx S0 env m) (vs1.cx S0 env m1)∧y=undefS:=by
 unfold vupdateT at hv; split at hv
 ·rename_i et j q jb ht; split at hv
  ·rename_i ks cs bb hj hbb; obtain ⟨hbx, hns, rfl, kb, es, c, ws, g1, g2, g3, g4, g5, g6, g7, g8⟩ := mt_alive h hj hx; obtain rfl := str_rep hk
   simp only [Option.map_eq_some_iff,Prod.mk.injEq] at hv; obtain ⟨cs1,hs,rfl,rfl⟩:=hv; obtain ⟨i,s1,s2,s3,rfl⟩:=setK_some hs; have hfull:fullV wv=true:=by
    have h1:=hg (!bb.xs.isEmpty) (by unfold guardT; dsimp only; rw [hj,hbb])
    obtain ⟨b2,h2,h3⟩:=hv'; have h2':vs.bf[jb]? = some b2:=h2
    rw [hbb] at h2'; cases h2'; rw [repL_full (buf_repL (h.T.bf jb bb h2) h3),h1]
   have hns1:(cs.set i (.o jb)).any isSg=false:=by
    rw [Bool.eq_false_iff]; intro hany; rw [List.any_eq_true] at hany; obtain ⟨d,hd,hd2⟩:=hany; rcases List.mem_or_eq_of_mem_set hd with hd | rfl
    ·have:cs.any isSg=true:=List.any_eq_true.2 ⟨d,hd,hd2⟩
     rw [hns] at this; cases this
    ·cases hd2
   have hb:m.bar≤env.β j:=hbar _ (.inl ⟨j,lt_of_get hbx,by show hasOf vs.bx j=true; rw [hasOf_get hbx]; exact (has1_sg (cs := .mt ks::cs) rfl).1,rfl⟩)
   obtain ⟨xs,l1,l2,l3,l4⟩:=g7; obtain ⟨r,f1,f2,f3⟩:=ex_put (q:=q) (v:=wv) c 0 l1; have hpk : ∀r',Instr.findNow .string (.string q) es.toList 0=some r'→iupdate P t (.map (some (env.β j))) (.string q) wv m=(match (r':Option (Nat × Value)) with
     | some (j',_)=>m.putObj (env.β j) (.map (es.modify j' fun e => { e with key := .string q,val:=wv }) c)
     | none=>m.putObj (env.β j) (.map (es.push { key := .string q,val:=wv,born:=c }) (c+1))):=by
    intro r' hr'; unfold iupdate; rw [txtMap_eq ht]; dsimp only; rw [g8]; dsimp only; unfold ifind; rw [show plainKey .string (.string q)=true from rfl,if_pos rfl,hr']; cases r' with
    | none=>rfl
    | some r=>rfl
   have hlink : ∀es':List MapEntry,entsX (mput q wv xs) es'→linkM ks (ws.set i wv) es':=by
    intro es' he; refine ⟨_,he,fun b hb => ?_,by rw [List.length_set]; exact l3,fun i' q' w h1 h2 => ?_⟩
    ·rcases mem_mput hb with e1|⟨b',e1,e2⟩
     ·rw [e1]; exact List.mem_of_getElem? s1
     ·rw [←e2]; exact l2 b' e1
    ·rw [mfind_mput]; rw [List.getElem?_set] at h2; by_cases e1:i=i'
     ·subst e1; rw [if_pos rfl,if_pos (by rw [←l3]; exact lt_of_get s1)] at h2
      cases h2; rw [s1] at h1; cases h1; rw [if_pos rfl,if_pos hfull]; exact ⟨rfl,fun q=>by rw [hfull] at q; cases q⟩
     ·rw [if_neg e1] at h2; rw [if_neg (fun e2=>e1 (s2 i' (by rw [←e2]; exact h1)).symm)]
      exact l4 i' q' w h1 h2
   have hcells : ∀{Y:Cx},CxLe (vs.cx S0 env m) Y→repG P Y (.mt ks::cs.set i (.o jb)) (ws.set i wv):=fun hle=>
    ⟨[],_,rfl,rfl,(repG_plain hns1).2 ((repCs_put i g6 (c := .o jb) hv').le hle)⟩
   have fin : ∀{o:Obj},otyp o=otyp kb.obj→(∃es' c',o = .map es' c'∧entsX (mput q wv xs) es'.toList) →
     Rel P S0 env (m.set (env.β j) { kb with obj:=o }) a { vs with bx:=setL vs.bx j (.mt ks::cs.set i (.o jb)) }∧Stp (vs.cx S0 env m) (({ vs with bx:=setL vs.bx j (.mt ks::cs.set i (.o jb)) }:VS).cx S0 env (m.set (env.β j) { kb with obj:=o })):=by
    intro o ho ⟨es',c',e1,e2⟩; have k1:=has1_sg (cs := .mt ks::cs) rfl; have k2:=has1_sg (cs := .mt ks::cs.set i (.o jb)) rfl; exact h.setObj (ns := .mt ks::cs.set i (.o jb)) hbx k1.1 k2.1 (k2.2.trans k1.2.symm) g1 g5 ho (fun m' hle hal=>BoxOK.ofSg rfl ⟨_,_,hal,g3,g4,g5,hcells hle,es',c',e1,hlink _ e2⟩)
   cases r with
   | none=>
    obtain ⟨k1,k2⟩:=fin (o := .map (es.push { key := .string q,val:=wv,born:=c }) (c+1)) (by rw [g2]; rfl) ⟨_,_,rfl,by rw [Array.toList_push]; exact f2⟩
    exact ⟨_,(hpk _ f1).trans (putObj_set g1 g3 g4 g5 hb),k1,k2,rfl⟩
   | some p=>
    obtain ⟨i',w⟩:=p; obtain ⟨k1,k2⟩:=fin (o := .map (es.modify i' fun e => { e with key := .string q,val:=wv }) c) (by rw [g2]; rfl) ⟨_,_,rfl,by rw [Array.toList_modify]; exact f2⟩
    exact ⟨_,(hpk _ f1).trans (putObj_set g1 g3 g4 g5 hb),k1,k2,rfl⟩
  ·cases hv
 ·cases hv
theorem nilBs_sound {e:Ty} (he:0<e.n) : ∀{n:Nat} {env:Env} {vs:VS},Rel P S0 env m a vs → ∃env1,Rel P S0 env1 m a (nilBs e n vs).2∧Stp (vs.cx S0 env m) ((nilBs e n vs).2.cx S0 env1 m)∧(nilBs e n vs).2.bx=vs.bx∧(nilBs e n vs).1.any isSg=false∧repCs P ((nilBs e n vs).2.cx S0 env1 m) (nilBs e n vs).1 (List.replicate n (.slice none 0 0)):=by
 intro n; induction n with
 | zero=>intro env vs h; exact ⟨env,h,Stp.refl h.T.free,rfl,rfl,trivial⟩
 | succ n ih=>
  intro env vs h; obtain ⟨k1,k2,k3⟩:=h.newNil (ty:=e) he; obtain ⟨env1,g1,g2,g3,g4,g5⟩:=ih k1; refine ⟨env1,g1,k2.trans h.T.free g2,g3, ?_, ?_,g5⟩
  ·show (Cl.o vs.bf.length::(nilBs e n (newBuf vs e []).2).1).any isSg=false; rw [List.any_cons,g4]; rfl
  ·exact repC.le g2.le (c := .o vs.bf.length) k3
theorem vmakeMapT_sound (h : Rel P S0 env m a vs) {t : TypeId} {ks : List ByteArray} {r : Option Sl} {wr : Option Value} {y : Sl} {vs1 : VS} (hr : match r, wr with | none, none => True | some s, some w => repV P (vs.cx S0 env m) s w | _, _ => False) (hv : vmakeMapT P t ks r vs = some (y, vs1)) :
  ∃v m1 env1,imakeMap P t wr m=some (v,m1)∧Rel P S0 env1 m1 a vs1∧Stp (vs.cx S0 env m) (vs1.cx S0 env1 m1)∧repV P (vs1.cx S0 env1 m1) y v:=by
 unfold vmakeMapT at hv; split at hv
 ·rename_i et ht; split at hv
  ·rename_i e he; obtain ⟨hn,hv⟩:=cond_some' hv; cases hv; cases wr with
   | some w=>exact hr.elim
   | none=>
    obtain ⟨env0,r1,r2,r3,r4,r5⟩:=nilBs_sound (n:=ks.length) (Nat.le_of_ble_eq_true hn) h; have hsg:(Cl.mt ks::(nilBs e ks.length vs).1).any isSg=true:=rfl; have hlink:linkM ks (List.replicate ks.length (.slice none 0 0)) []:=by
     refine ⟨[],trivial,(fun b hb=>absurd hb List.not_mem_nil),List.length_replicate.symm,fun i q w h1 h2 => ?_⟩; rw [List.getElem?_replicate] at h2; split at h2
     ·cases h2; exact ⟨rfl,fun _=>rfl⟩
     ·cases h2
    obtain ⟨k0,k1,k2⟩:=r1.newObj (cs := .mt ks::(nilBs e ks.length vs).1) (o := .map #[] 0) (has1_sg hsg).1 (fun Y hle hal hβ=>BoxOK.ofSg hsg ⟨_,List.replicate ks.length (.slice none 0 0),hal,rfl,rfl,hβ.symm,
     ⟨[],_,rfl,rfl,(repG_plain r4).2 (r5.le hle)⟩, #[],0,rfl,hlink⟩)
    refine ⟨_,_,_,by unfold imakeMap; rw [k0],k1,r2.trans h.T.free k2, ?_⟩
    have e1:vs.bx.length=(nilBs e ks.length vs).2.bx.length:=by rw [r3]
    show repV P _ (.v (.s (.mv vs.bx.length))) _; rw [e1]; refine mv_new (by show _<((nilBs e ks.length vs).2.bx ++ [_]).length; simp) (Nat.lt_succ_self _) (setβ_new _ _ _)
  ·cases hv
 ·cases hv
theorem isMapO_src {o:Op} (h:isMapO o=true):srcOf o=none:=by
 unfold isMapO at h; split at h <;> first | rfl | cases h
theorem vmap_sound {o : Oper} {hot : Bool} {ks : List ByteArray} (hm : isMapO o.op = true) (h : Rel P S0 env m a vs) (hbar' : isLook o.op = false → ∀ i, Wb (vs.cx S0 env m) i → m.bar ≤ i) {x : Sl} {vs1 : VS} (hv : vmap P hot ks vs o = some (x, vs1)) (hg : ∀ g, guardO vs o.op = some g → g = true) : OpS P S0 env m a vs o x vs1 := by
 have hE:=fun y=>ev_rep (P:=P) h y
 unfold vmap at hv; split at hv
 ·rename_i t y k ok ho; obtain ⟨rfl,v,h1,h2⟩:vs1=vs ∧ ∃v,ilookup P t (a.eval y) (a.eval k) ok m=some v∧repV P (vs.cx S0 env m) x v:=by
   cases hc:isMt vs (vs.ev y) with
   | true=>rw [hc] at hv; exact vlookupT_sound h (hE y) (hE k) hv
   | false=>
    rw [hc] at hv; cases hb:isMs vs (vs.ev y) with
    | true=>rw [hb] at hv; exact vlookupS_sound h (hE y) (hE k) hv
    | false=>rw [hb] at hv; exact vlookup_sound h (hE y) (hE k) hv
  exact OpS.same h (by unfold iop; rw [ho]; dsimp only; rw [h1]; rfl) h2
 ·rename_i t y k v ho; obtain ⟨m1,h1,h2,h3,rfl⟩ : ∃m1,iupdate P t (a.eval y) (a.eval k) (a.eval v) m=some m1∧Rel P S0 env m1 a vs1∧Stp (vs.cx S0 env m) (vs1.cx S0 env m1)∧x=undefS:=by
   have hbar:=hbar' (by rw [ho]; rfl)
   cases hc:isMt vs (vs.ev y) with
   | true=>rw [hc] at hv; exact vupdateT_sound h hbar (hE y) (hE k) (hE v) hv (fun g q=>hg g (by rw [ho]; exact q))
   | false=>
    rw [hc] at hv; cases hb:isMs vs (vs.ev y) with
    | true=>rw [hb] at hv; exact vupdateS_sound h hbar (hE y) (hE k) (hE v) hv
    | false=>rw [hb] at hv; exact vupdate_sound h hbar (hE y) (hE k) (hE v) hv
  exact ⟨undef,m1,env,.inr ⟨by unfold iop; rw [ho]; dsimp only; rw [h1]; rfl,rfl⟩,h2,h3,⟨#[],rfl,trivial⟩⟩
 ·rename_i t y k v ho; obtain ⟨m1,h1,h2,h3,rfl⟩ : ∃m1,iupdate P t (a.eval y) (a.eval k) (a.eval v) m=some m1∧Rel P S0 env m1 a vs1∧Stp (vs.cx S0 env m) (vs1.cx S0 env m1)∧x=undefS:=by
   have hbar:=hbar' (by rw [ho]; rfl)
   cases hc:isMt vs (vs.ev y) with
   | true=>rw [hc] at hv; exact vupdateT_sound h hbar (hE y) (hE k) (hE v) hv (fun g q=>hg g (by rw [ho]; exact q))
   | false=>
    rw [hc] at hv; cases hb:isMs vs (vs.ev y) with
    | true=>rw [hb] at hv; exact vupdateS_sound h hbar (hE y) (hE k) (hE v) hv
    | false=>rw [hb] at hv; exact vupdate_sound h hbar (hE y) (hE k) (hE v) hv
  exact ⟨undef,m1,env,.inr ⟨by unfold iop; rw [ho]; dsimp only; rw [h1]; rfl,rfl⟩,h2,h3,⟨#[],rfl,trivial⟩⟩
 ·rename_i t r ho; obtain ⟨v,m1,env1,h1,h2,h3,h4⟩ : ∃v m1 env1,imakeMap P t (r.map a.eval) m=some (v,m1)∧Rel P S0 env1 m1 a vs1∧Stp (vs.cx S0 env m) (vs1.cx S0 env1 m1)∧repV P (vs1.cx S0 env1 m1) x v:=by
   cases hks:ks.isEmpty with
   | false=>rw [hks] at hv; exact vmakeMapT_sound (wr:=r.map a.eval) h (by cases r with | none=>trivial | some r=>exact hE r) hv
   | true=>
   rw [hks] at hv; cases hot with
   | true=>exact vmakeMapS_sound (wr:=r.map a.eval) h (by cases r with | none=>trivial | some r=>exact hE r) hv
   | false=>exact vmakeMap_sound (wr:=r.map a.eval) h (by cases r with | none=>trivial | some r=>exact hE r) hv
  exact ⟨v,m1,env1,.inl (by unfold iop; rw [ho]; dsimp only; rw [h1]; rfl),h2,h3,h4⟩
 ·rename_i t y ho; obtain ⟨v,m1,env1,h1,h2,h3,h4⟩:=vrangeM_sound h (hE y) hv; exact ⟨v,m1,env1,.inl (by unfold iop; rw [ho]; dsimp only; rw [h1]; rfl),h2,h3,h4⟩
 ·rename_i it s ho; obtain ⟨v,m1,h1,h2,h3,h4⟩:=vnext_sound h (hbar' (by rw [ho]; rfl)) (hE it) hv
  exact ⟨v,m1,env,.inl (by unfold iop; rw [ho]; dsimp only; rw [h1]; rfl),h2,h3,h4⟩
 ·rename_i it ho; obtain ⟨rfl,v,h1,h2⟩:=ventry_sound h (hE it) hv; exact OpS.same h (by unfold iop; rw [ho]; dsimp only; rw [h1]; rfl) h2
 ·rename_i c ho; have hc : c.callee = .builtin .delete := by
   rw [ho] at hm; unfold isMapO at hm; dsimp only at hm; split at hm
   ·assumption
   ·cases hm
  split at hv
  ·rename_i y k t hy hk ht; split at hv
   ·rename_i hsz; obtain ⟨m1,h1,h2,h3,rfl⟩ : ∃m1,idelete P t (a.eval y) (a.eval k) m=some m1∧Rel P S0 env m1 a vs1∧Stp (vs.cx S0 env m) (vs1.cx S0 env m1)∧x=undefS:=by
     have hbar:=hbar' (by rw [ho]; rfl)
     cases hb:isMs vs (vs.ev y) with
     | true=>rw [hb] at hv; exact vdeleteS_sound h hbar (hE y) (hE k) hv
     | false=>rw [hb] at hv; exact vdelete_sound h hbar (hE y) (hE k) hv
    refine ⟨.tuple #[],m1,env,.inl ?_,h2,h3,⟨#[],rfl,trivial⟩⟩; unfold iop; rw [ho]; dsimp only; unfold icall; rw [hc]; dsimp only; rw [hy,hk,ht]; simp only [Option.map_some]; rw [if_pos hsz,h1]; rfl
   ·cases hv
  ·cases hv
 ·cases hv
end Go.IM.V
namespace Go.IM.V
open Go Go.IM
variable {P:Program} {m m1:M} {S0:Nat→Prop} {env env1:Env} {a:Act} {vs:VS} {X Y:Cx} {ρ:Type} {C:Tab}
theorem iclone_M0 (args:Array Value):iclone args M0=none:=by
 unfold iclone; split
 ·rename_i i _; have:M.mapOf M0 i=none:=by
   have e:M.get M0 i=none:=Tr.get_leaf _ _; unfold M.mapOf M.alive; rw [e]
  rw [this]
 ·rfl
theorem Stp.bars {X Y:Cx} (h:Stp X Y) (hb:X.m.bar≤X.m.nxt) (k:Bars X):Bars Y:=by
 intro i w; rw [h.fr.bar]; rcases h.wb i w with w | w
 ·exact k i w
 ·exact Nat.le_trans hb w
theorem repSs_len : ∀{l:List S1} {ws:List Value},repSs P X l ws→ws.length=l.length:=by
 intro l; induction l with
 | nil=>intro ws h; cases ws with
  | nil=>rfl
  | cons=>exact h.elim
 | cons c l ih=>intro ws h; cases ws with
  | nil=>exact h.elim
  | cons w ws=>simp [ih h.2]
theorem repSs_set {l:List S1} {ws:List Value} (h:repSs P X l ws) {k:Nat} {s:S1} {w:Value} (hk:ws[k]? = some w) (hs:repS P X s w):repSs P X (setL l k s) ws:=by
 induction k generalizing l ws with
 | zero=>cases l with
  | nil=>exact h
  | cons c l=>cases ws with
   | nil=>exact h.elim
   | cons u ws=>cases hk; exact ⟨hs,h.2⟩
 | succ k ih=>cases l with
  | nil=>exact h
  | cons c l=>cases ws with
   | nil=>exact h.elim
   | cons u ws=>exact ⟨h.1,ih h.2 hk⟩
theorem prepN_sound : ∀ {pl : List (Nat × Pt)} {bf : List Ty} {env : Env} {vs vs1 : VS} {l l1 : List S1} {ws : List Value}, Rel P S0 env m a vs → repSs P (vs.cx S0 env m) l ws → prepN pl bf l vs = (l1, vs1) →
  ∃env1,Rel P S0 env1 m a vs1∧Stp (vs.cx S0 env m) (vs1.cx S0 env1 m)∧repSs P (vs1.cx S0 env1 m) l1 ws:=by
 intro pl; induction pl with
 | nil=>intro bf env vs vs1 l l1 ws h hl hp; cases hp; exact ⟨env,h,Stp.refl h.T.free,hl⟩
 | cons p pl ih =>
  intro bf env vs vs1 l l1 ws h hl hp; obtain ⟨k,p⟩:=p; cases p with
  | o t=>
   simp only [prepN] at hp; split at hp
   ·rename_i v e hk he; cases hc:(nilSl v && Nat.blt 0 e.n) with
    | false=>rw [hc] at hp; exact ih h hl hp
    | true=>
     rw [hc] at hp; simp only [cond_true] at hp; simp only [Bool.and_eq_true] at hc; obtain ⟨hn,hlt⟩:=hc; obtain ⟨k1,k2,k3⟩:=h.newNil (ty:=e) (Nat.le_of_ble_eq_true hlt); obtain ⟨u,hu1,hu2⟩:=repSs_get hl hk; obtain ⟨rfl,_⟩:=hu2; have hl2:=repSs_set (hl.le k2.le) hu1 (s := .s (.o vs.bf.length)) (by rw [nilSl_eq hn]; exact k3)
     obtain ⟨env1,g1,g2,g3⟩:=ih k1 hl2 hp; exact ⟨env1,g1,k2.trans h.T.free g2,g3⟩
   ·exact ih h hl hp
  | m e t=>
   simp only [prepN] at hp; split at hp
   ·rename_i v hk; cases hc:(nilSl v && Nat.blt 0 e.n) with
    | false=>rw [hc] at hp; exact ih h hl hp
    | true=>
     rw [hc] at hp; simp only [cond_true] at hp; simp only [Bool.and_eq_true] at hc; obtain ⟨hn,hlt⟩:=hc; obtain ⟨k1,k2,k3⟩:=h.newRunE (ty:=e) (v := .slice none 0 0) (Nat.le_of_ble_eq_true hlt) (.inl rfl); obtain ⟨u,hu1,hu2⟩:=repSs_get hl hk; obtain ⟨rfl,_⟩:=hu2; have hl2:=repSs_set (hl.le k2.le) hu1 (s := .s (.m e vs.bx.length)) (by rw [nilSl_eq hn]; exact k3)
     obtain ⟨env1,g1,g2,g3⟩:=ih k1 hl2 hp; exact ⟨env1,g1,k2.trans h.T.free g2,g3⟩
   ·exact ih h hl hp
  | _=>exact ih h hl hp
theorem coolAt_some {bx : List (List Cl)} {p : Pt} {s : S1} {j : Nat} {q : (e : Ty) × List e.El} (h : coolAt bx p s = some (j, q)) : bx[j]? = some [.r true q.1 q.2] := by
 have key:(match mOfS s with
   | some j=>match bx[j]? with
    | some [.r true e xs]=>some (j,(⟨e,xs⟩:(e:Ty) × List e.El))
    | _=>none
   | none=>none)=some (j,q)→bx[j]? = some [.r true q.1 q.2]:=by
  intro h; split at h
  ·split at h
   ·rename_i e xs hj; cases h; exact hj
   ·cases h
  ·cases h
 unfold coolAt at h; split at h
 ·exact key h
 ·exact key h
 ·cases h
theorem coolSs {j q:Nat} {X Y:Cx} (hs : ∀(s:S1) (w:Value),repS P X s w→repS P Y (coolS j q s) w) : ∀{l:List S1} {ws:List Value},repSs P X l ws→repSs P Y (l.map (coolS j q)) ws:=by
 intro l; induction l with
 | nil=>intro ws hr; cases ws with
  | nil=>trivial
  | cons=>exact hr.elim
 | cons c l ih=>intro ws hr; cases ws with
  | nil=>exact hr.elim
  | cons w ws=>exact ⟨hs c w hr.1,ih hr.2⟩
theorem coolL_sound : ∀{pl:List (Nat × Pt)} {env:Env} {vs vs1:VS} {l l1:List S1} {ws:List Value},Rel P S0 env m a vs→repSs P (vs.cx S0 env m) l ws→coolL pl l vs=(l1,vs1) →
  ∃env1,Rel P S0 env1 m a vs1∧Stp (vs.cx S0 env m) (vs1.cx S0 env1 m)∧repSs P (vs1.cx S0 env1 m) l1 ws:=by
 intro pl; induction pl with
 | nil=>intro env vs vs1 l l1 ws h hl hp; cases hp; exact ⟨env,h,Stp.refl h.T.free,hl⟩
 | cons p pl ih=>
  intro env vs vs1 l l1 ws h hl hp; obtain ⟨k,p⟩:=p; simp only [coolL] at hp; split at hp
  ·split at hp
   ·rename_i j e xs hc; obtain ⟨env1,k1,k2,k3⟩:=h.cool (coolAt_some hc); obtain ⟨env2,g1,g2,g3⟩:=ih k1 (coolSs k3 hl) hp; exact ⟨env2,g1,k2.trans h.T.free g2,g3⟩
   ·exact ih h hl hp
  ·exact ih h hl hp
theorem prep_sound {pl:List (Nat × Pt)} {bf:List Ty} {env:Env} {vs vs1:VS} {l l1:List S1} {ws:List Value} (h:Rel P S0 env m a vs) (hl:repSs P (vs.cx S0 env m) l ws) (hp:prep pl bf l vs=(l1,vs1)) :
  ∃env1,Rel P S0 env1 m a vs1∧Stp (vs.cx S0 env m) (vs1.cx S0 env1 m)∧repSs P (vs1.cx S0 env1 m) l1 ws:=by
 unfold prep at hp; split at hp
 rename_i l2 vs2 hc; obtain ⟨env1,k1,k2,k3⟩:=coolL_sound h hl hc; obtain ⟨env2,g1,g2,g3⟩:=prepN_sound k1 k3 hp; exact ⟨env2,g1,k2.trans h.T.free g2,g3⟩
theorem accS_rep {l : List S1} {ws : List Value} (h : repSs P X l ws) (i : Nat) : repV P X (accS l i) (ws.toArray.getD i undef) := by
 have key : ∀{l:List S1} {ws:List Value} (i:Nat),repSs P X l ws→repV P X (accS l i) (ws[i]?.getD undef):=by
  intro l; induction l with
  | nil=>intro ws i h; cases i <;> trivial
  | cons c l ih=>intro ws i h; cases ws with
   | nil=>exact h.elim
   | cons u ws=>cases i with
    | zero=>exact h.1
    | succ i=>exact ih i h.2
 have:=key i h
 rw [Array.getD_eq_getD_getElem?]; simpa using this
theorem vends_some {vs:VS} {q:GH} {K:Sl→VS→Option ρ} {Kp:Value→VS→Option ρ} {r:ρ} : ∀{o:OT} {y:o.E},vends vs q K Kp o y=some r →
  ((o.out y).1 = .ret∧K (resSl (after vs q (o.out y).2.1 (o.out y).2.2).1) (after vs q (o.out y).2.1 (o.out y).2.2).2=some r)∨(∃w,(o.out y).1 = .pnc w∧Kp w (after vs q (o.out y).2.1 (o.out y).2.2).2=some r):=by
 intro o; induction o with
 | ret t=>intro y h; exact .inl ⟨rfl,h⟩
 | exit id t=>intro y h; cases h
 | pnc tid k t=>intro y h; exact .inr ⟨_,rfl,h⟩
 | two a b iha ihb=>intro y h; cases y with
  | inl y=>exact iha h
  | inr y=>exact ihb h
theorem mat_facts {x : Value} {p : Prop} {t : Tm} {y : t.E} {q : GH} (hgl : q.g.length = t.bx.length) (hbf : ∀ (k : Nat) (b : Bf), (t.inst 0 y).bf[k]? = some b → ∃ j, q.h[k]? = some j ∧ vs.bf[j]? = some b) (hbl : (t.inst 0 y).bf.length = q.h.length) :
  (t.cx y (vs.S S0 env) (env.sub q p) m).nb=q.g.length∧(∀i,Wl (t.cx y (vs.S S0 env) (env.sub q p) m) i → ∃(k j:Nat),q.h[k]? = some j∧env.τ j=some i)∧(∀(k j:Nat),q.h[k]? = some j → ∃b:Bf,vs.bf[j]? = some b∧b.live=true) ∧
   (∀i,Wb (t.cx y (vs.S S0 env) (env.sub q p) m) i→(∃(k j:Nat),q.g[k]? = some j∧(t.cx y (vs.S S0 env) (env.sub q p) m).has k=true∧env.β j=i)∨(p∧env.φ i)):=by
 have hnb:(t.cx y (vs.S S0 env) (env.sub q p) m).nb=q.g.length:=by rw [hgl]; show (bxI id id t.bx y.2.1).length=_; rw [bxI_len]
 refine ⟨hnb,fun i w => ?_,fun k j hk => ?_,fun i w => ?_⟩
 ·obtain ⟨k,b,h1,h2,h3⟩:=w; obtain ⟨j,h4,h5⟩:=hbf k b h1; refine ⟨k,j,h4, ?_⟩; have h3':(match q.h[k]? with | some j=>env.τ j | none=>none)=some i:=h3
  rw [h4] at h3'; exact h3'
 ·have hkl:k<(t.inst 0 y).bf.length:=by rw [hbl]; exact lt_of_get hk
  obtain ⟨j',h4,h5⟩:=hbf k (t.inst 0 y).bf[k] (by simp [hkl]); rw [hk] at h4; cases h4; refine ⟨_,h5, ?_⟩; have live : ∀{l:List Ty} {x:BfE l} {k:Nat} {b:Bf},(bfI l x)[k]? = some b→b.live=true:=by
   intro l; induction l with
   | nil=>intro x k b h; cases h
   | cons t l ih=>intro x k b h; cases k with
    | zero=>cases h; rfl
    | succ k=>exact ih (x:=x.2) h
  exact live (l:=t.bf) (x:=y.2.2) (k:=k) (by show (t.inst 0 y).bf[k]? = _; simp [hkl])
 ·rcases w with ⟨k,h1,h3,h2⟩|w
  ·rw [hnb] at h1; refine .inl ⟨k,q.g[k],by simp [h1],h3, ?_⟩; have h2':(match q.g[k]? with | some j=>env.β j | none=>0)=i:=h2
   simp only [h1,List.getElem?_eq_getElem] at h2'; exact h2'
  ·exact .inr w
def lendX (X:Cx):Cx:=⟨fun _=>False,X.m,{ X.env with φ:=fun _=>False },0,X.bf,fun _=>false,fun _=>none,fun _=>False⟩
theorem lendX_T {bx:List (List Cl)} (hT:RelT P X bx):RelT P (lendX X) []:=by
 have hmono:Mono X.S X.m (fun _=>False) X.m:=fun i r hr _=>⟨hr,fun w=>w⟩
 refine ⟨hT.free,hT.bar,rfl,funext fun j=>(by unfold hasOf; simp [lendX]),funext fun j=>(by unfold lenOf; simp [lendX]),fun j hj=>absurd hj (Nat.not_lt_zero _),fun i w=>w.elim,fun j b hb => ?_,hT.bfd,fun j cs hcs=>(by cases hcs),fun j j' hj=>absurd hj (Nat.not_lt_zero _),fun i w=>w.elim,fun j hj=>absurd hj (Nat.not_lt_zero _),hT.rts,hT.unq⟩
 exact BufOK.le (Wb:=fun _=>False) (Wl:=fun _=>False) (X:=X) (Y:=lendX X) (Fr2.refl hT.free) hmono (fun _ w=>w.elim) rfl (hT.bf j b hb) (fun _ _ _ w=>w)
theorem lendC_rep (hT:RelT P (vs.cx S0 env m) vs.bx) {c:Cl} {w:Value} (h:repC P (vs.cx S0 env m) c w):repC P (lendX (vs.cx S0 env m)) (lendC vs c) w:=by
 have hmono:Mono (vs.S S0 env) m (fun _=>False) m:=fun i r hr _=>⟨hr,fun w=>w⟩
 have hpk : ∀{e:Ty} {c:Cl} {xs:List e.El},peekL vs e c=some xs→repC P (vs.cx S0 env m) c w→repL P (fun _=>False) m e.n (repE P (fun _=>False) m e) xs w:=fun {e c xs} hp hr=>
  repL.mono (P:=P) (n:=e.n) (S:=fun _=>False) (m:=m) (fun i r hr _=>⟨hr,fun w=>w⟩) (fun _ _ q=>repE.mono hmono q) (peekL_rep hT hp hr)
 cases c with
 | c v=>exact h
 | l e xs=>exact repL.mono (P:=P) (n:=e.n) (R:=repE P (vs.S S0 env) m e) hmono (fun _ _ q=>repE.mono hmono q) h
 | o j=>
  obtain ⟨b,h1,h2⟩:=h; exact ⟨b,h1,bufW_ren (X:=vs.cx S0 env m) (Z:=lendX (vs.cx S0 env m)) (l:=b.live) hmono h2⟩
 | m e j=>
  show repC P _ (match peekL vs e (.m e j) with | some xs=>Cl.l e xs | none => .x) w; split
  ·rename_i xs hp; exact hpk hp h
  ·trivial
 | w e j o n cp=>
  show repC P _ (match peekL vs e (.w e j o n cp) with | some xs=>Cl.l e xs | none => .x) w; split
  ·rename_i xs hp; exact hpk hp h
  ·trivial
 | _=>trivial
theorem lendCs_rep (hT:RelT P (vs.cx S0 env m) vs.bx) : ∀{cs:List Cl} {ws:List Value},repCs P (vs.cx S0 env m) cs ws→repCs P (lendX (vs.cx S0 env m)) (cs.map (lendC vs)) ws:=by
 intro cs; induction cs with
 | nil=>intro ws h; cases ws <;> exact h
 | cons c cs ih=>intro ws h; cases ws with
  | nil=>exact h
  | cons w ws=>exact ⟨lendC_rep hT h.1,ih h.2⟩
theorem lendSs_rep (hT:RelT P (vs.cx S0 env m) vs.bx) : ∀{l:List S1} {ws:List Value},repSs P (vs.cx S0 env m) l ws→repSs P (lendX (vs.cx S0 env m)) (l.map (lendS vs)) ws:=by
 intro l; induction l with
 | nil=>intro ws h; cases ws <;> exact h
 | cons c l ih=>intro ws h; cases ws with
  | nil=>exact h
  | cons w ws=>
   refine ⟨?_,ih h.2⟩; have h1:=h.1; cases c with
   | x=>trivial
   | s c=>exact lendC_rep (c:=c) hT h1
   | a cs=>obtain ⟨b,e1,e2⟩:=h1; exact ⟨b,e1,lendCs_rep hT e2⟩
theorem fogV_rep {X Y:Cx} {bx:List (List Cl)} (hT:RelT P X bx) (hn:X.m.nxt≤Y.m.nxt) {s:Sl} {w:Value} (h:repV P X s w):repV P Y (fogV s) w:=by
 cases s with
 | v s=>exact fog_rep (s:=s) hT hn h
 | t l=>
  obtain ⟨b,rfl,h2⟩:=h; refine ⟨b,rfl, ?_⟩; generalize b.toList=ws at h2; clear b; induction l generalizing ws with
  | nil=>cases ws <;> exact h2
  | cons c l ih=>cases ws with
   | nil=>exact h2
   | cons w ws=>exact ⟨fog_rep hT hn h2.1,ih ws h2.2⟩
theorem lend_sound [Orc P] {k : Nat} {con : Con} (hok : Con.OK P k con) (h : Rel P S0 env m a vs) {args : List S1} {ws : List Value} (hw : repSs P (vs.cx S0 env m) args ws) {x : con.ins.E} {q : GH} (hm : lendM con args vs = some (x, q)) {y : con.out.E} (hy : con.F x = some y) :
  ∃c m1,Cal P k ws.toArray m c m1∧Rel P S0 env m1 a vs∧Stp (vs.cx S0 env m) (vs.cx S0 env m1) ∧
   ∀(K:Sl→VS→Option ρ) {r:ρ},vlend vs K con.out y=some r → ∃v x,c = .ret v∧repV P (vs.cx S0 env m1) x v∧K x vs=some r:=by
 obtain ⟨ins,out,F⟩:=con; dsimp only at *; unfold lendM at hm; cases hll:(lendable ⟨ins,out,F⟩ && Nat.beq ins.sl.length args.length) with
 | false=>rw [hll] at hm; cases hm
 | true=>
  rw [hll] at hm; simp only [cond_true] at hm; obtain ⟨hl,hlen⟩:=(Bool.and_eq_true _ _).mp hll; have hlen:=Nat.eq_of_beq_eq_true hlen; unfold lendable at hl; simp only [Bool.and_eq_true,List.isEmpty_iff] at hl; obtain ⟨⟨hib,hif⟩,hret⟩:=hl; have hT:=lendX_T h.T; have hacc:=lendSs_rep h.T hw; obtain ⟨g1,g2,g3,g4,g5,g6,g7,g8,g9,g10⟩:=mat_sound (X:=lendX (vs.cx S0 env m)) (vs := { vs with bx := [] }) hT rfl rfl (av:=fun i=>ws.toArray.getD i undef) (fun p _=>accS_rep hacc p.1) hm (p:=True) (fun _=>trivial) (S0:=fun _=>False) (fun i w=>w) 0
  have hbars:Bars (ins.cx x (fun _=>False) ((lendX (vs.cx S0 env m)).env.sub q True) m):=by
   intro i w; rcases w with ⟨j,hj,_⟩|w
   ·have:(ins.inst 0 x).bx.length=0:=by rw [g4,hib]; rfl
    exact absurd (show j<(ins.inst 0 x).bx.length from hj) (by omega)
   ·exact w.2.elim
  obtain ⟨c,m1,env2,hcal,hend,hres⟩:=hok x y hy (fun _=>False) ((lendX (vs.cx S0 env m)).env.sub q True) m ws.toArray g1 hbars g2 (by have:=repSs_len hw; show ws.length=ins.sl.length; omega)
  have hWb : ∀i,Wb (ins.cx x (fun _=>False) ((lendX (vs.cx S0 env m)).env.sub q True) m) i→False:=by
   intro i w; rcases w with ⟨j,hj,_⟩|w
   ·have:(ins.inst 0 x).bx.length=0:=by rw [g4,hib]; rfl
    exact absurd (show j<(ins.inst 0 x).bx.length from hj) (by omega)
   ·exact w.2.elim
  have hWl : ∀i,Wl (ins.cx x (fun _=>False) ((lendX (vs.cx S0 env m)).env.sub q True) m) i→False:=by
   rintro i ⟨j,b,hb,_⟩
   have h1:(ins.inst 0 x).bf[j]? = some b:=hb; have h2:(ins.inst 0 x).bf.length=0:=by
    show (bfI ins.bf x.2.2).length=0; have : ∀{l:List Ty} {z:BfE l},l = []→bfI l z = []:=by intro l z hl; subst hl; rfl
    rw [this hif]; rfl
   have:=lt_of_get h1
   omega
  have hfr:Fr2 (fun _=>False) (fun _=>False) m m1:=hend.fr.mono (fun i w=>hWb i w) (fun i w=>(hWl i w).elim); have hle:CxLe (vs.cx S0 env m) (vs.cx S0 env m1):=
   ⟨hfr.mono_row h.T.free (fun _ w=>w.elim) (fun i w => .inl w),Nat.le_refl _,fun _ _=>rfl,fun j b hb=>⟨b.live,hb,rfl⟩,fun _ _ q=>q,fun _ _ _ q=>q,fun _ q=>q,fun _ q=>q,hfr.nxt,hfr.ty⟩
  have hs:Stp (vs.cx S0 env m) (vs.cx S0 env m1):=⟨hfr.mono (fun _ w=>w.elim) (fun _ w=>w.elim),hle,fun i w => .inl w,fun i w => .inl w⟩; have hT1:RelT P (vs.cx S0 env m1) vs.bx:=by
   refine ⟨hfr.free,by show m1.bar≤m1.nxt; rw [hfr.bar]; exact Nat.le_trans h.T.bar hfr.nxt,rfl,rfl,rfl,h.T.inS,fun i w=>Nat.lt_of_lt_of_le (h.T.slt i w) hfr.nxt,fun j b hb=>BufOK.le hfr hle.mono (fun _ w=>w.elim) rfl (h.T.bf j b hb) (fun _ _ _ w=>w),h.T.bfd,fun j cs hcs=>BoxOK.le h.T.free h.T.rts hfr hle (fun _=>rfl) (h.T.bx j cs hcs) (fun _ w=>w) (fun _ w=>w),h.T.bxd,h.T.φS,h.T.φd,hfr.rts h.T.rts,hfr.unq h.T.rts h.T.unq⟩
  refine ⟨c,m1,hcal,h.step hs hT1 rfl rfl rfl,hs,fun K r hv => ?_⟩; cases out with
  | ret t=>
   obtain ⟨v,rfl,hv2⟩:=hres; exact ⟨v,_,rfl,fogV_rep (Y:=vs.cx S0 env m1) hend.T (Nat.le_refl _) hv2,hv⟩
  | _=>cases hret
theorem vcallL_sound [Orc P] {k : Nat} {cs : List Con} (hC : ∀ c ∈ cs, Con.OK P k c) (h : Rel P S0 env m a vs) {low : Bool} (hbar : low = false → Bars (vs.cx S0 env m)) {args : List S1} {ws : List Value} (hw : repSs P (vs.cx S0 env m) args ws) {K : Sl → VS → Option ρ} {Kp : Value → VS → Option ρ} {r : ρ} (hv : vcallL low args vs K Kp cs = some r) :
  ∃c m1 env1 vs1,Cal P k ws.toArray m c m1∧Rel P S0 env1 m1 a vs1∧Stp (vs.cx S0 env m) (vs1.cx S0 env1 m1)∧((∃v x,c = .ret v∧repV P (vs1.cx S0 env1 m1) x v∧K x vs1=some r) ∨ ∃w,c = .pnc w∧Kp w vs1=some r):=by
 induction cs with
 | nil=>cases hv
 | cons con cs ihc =>
  have hok:=hC con (List.mem_cons_self ..); simp only [vcallL] at hv; generalize hp:prep con.ins.sl con.ins.bf args vs=pp at hv; obtain ⟨l,vs1⟩:=pp; dsimp only at hv; obtain ⟨env',h1,hs1,hl⟩:=prep_sound h hw hp; split at hv
  ·rename_i x q hm; obtain ⟨g1, g2, g3, g4, g5, g6, g7, g8, g9, g10⟩ := mat_sound (X := vs1.cx S0 env' m) h1.T rfl rfl (av := fun i => ws.toArray.getD i undef) (fun p _ => accS_rep hl p.1) hm (p := q.g ≠ []) (fun w => w) (S0 := vs1.S S0 env') (fun i w => w) 0; obtain ⟨f1, f2, f3, f4⟩ := mat_facts (p := q.g ≠ []) (S0 := S0) (env := env') (m := m) (vs := vs1) (x := undef) g3 g7 g5; cases hemp : Nat.beq con.ins.sl.length args.length with
   | false=>rw [hemp] at hv; cases hv
   | true=>
   rw [hemp] at hv; simp only [Bool.not_true,cond_false] at hv; have hnil:ws.toArray.size=con.ins.sl.length:=by
    have h1:=repSs_len hw; have h2:=Nat.eq_of_beq_eq_true hemp; show ws.length=_; omega
   cases hlow:(low && !q.g.isEmpty) with
   | true=>rw [hlow] at hv; cases hv
   | false=>
    rw [hlow] at hv; simp only [cond_false,Option.bind_eq_some_iff] at hv; obtain ⟨y,hy,hv⟩:=hv; have hbars:Bars (con.ins.cx x (vs1.S S0 env') (env'.sub q (q.g ≠ [])) m):=by
     intro i w; cases low with
     | false=>
      rcases f4 i w with ⟨k',j,h3,hh3,h4⟩|⟨_,h3⟩
      ·exact (hs1.bars h.T.bar (hbar rfl)) i (.inl ⟨j,(g8 k' j h3).1,show hasOf vs1.bx j=true by rw [←(g8 k' j h3).2.1]; exact hh3,h4⟩)
      ·exact (hs1.bars h.T.bar (hbar rfl)) i (.inr h3)
     | true=>
      simp only [Bool.true_and,Bool.not_eq_false',List.isEmpty_iff] at hlow; rcases f4 i w with ⟨k',j,h3,_⟩|⟨h3,_⟩
      ·rw [hlow] at h3; simp at h3
      ·exact absurd hlow h3
    obtain ⟨c,m1,env2,hcal,hend,hret⟩:=hok x y hy (vs1.S S0 env') (env'.sub q (q.g ≠ [])) m ws.toArray g1 hbars g2 hnil; obtain ⟨r1,r2,r3⟩:=merge (env1:=env2) h1.T (fun k j hk=>(g8 k j hk).1) f3 g9 (Xc:=con.ins.cx x (vs1.S S0 env') (env'.sub q (q.g ≠ [])) m) rfl f1 rfl (fun k j hk=>(g8 k j hk).2.1) (fun k j hk=>(g8 k j hk).2.2) f2 hend; have hR:=h1.step r2 r1 rfl rfl rfl; refine ⟨c,m1,_,_,hcal,hR,hs1.trans h.T.free r2, ?_⟩
    rcases vends_some hv with ⟨e1,e2⟩|⟨w,e1,e2⟩
    ·rw [e1] at hret; obtain ⟨v,rfl,hret⟩:=hret; exact .inl ⟨v,_,rfl,resSl_ren r3 hret,e2⟩
    ·rw [e1] at hret; exact .inr ⟨w,hret,e2⟩
  ·exact ihc (fun c hc=>hC c (List.mem_cons_of_mem _ hc)) hv
theorem vcallL_soundR [Orc P] {k : Nat} {cs : List Con} (hC : ∀ c ∈ cs, Con.OKR P k c) (h : Rel P S0 env m a vs) {args : List S1} {ws : List Value} (hw : repSs P (vs.cx S0 env m) args ws) {K : Sl → VS → Option ρ} {Kp : Value → VS → Option ρ} {r : ρ} (hv : vcallL false args vs K Kp cs = some r) :
  ∃c m1 env1 vs1,Cal P k ws.toArray m c m1∧Rel P S0 env1 m1 a vs1∧Stp (vs.cx S0 env m) (vs1.cx S0 env1 m1)∧((∃v x,c = .ret v∧repV P (vs1.cx S0 env1 m1) x v∧K x vs1=some r) ∨ ∃w,c = .pnc w∧Kp w vs1=some r):=by
 induction cs with
 | nil=>cases hv
 | cons con cs ihc=>
  have hok:=hC con (List.mem_cons_self ..); simp only [vcallL] at hv; generalize hp:prep con.ins.sl con.ins.bf args vs=pp at hv; obtain ⟨l,vs1⟩:=pp; dsimp only at hv; obtain ⟨env',h1,hs1,hl⟩:=prep_sound h hw hp; split at hv
  ·rename_i x q hm; obtain ⟨g1,g2,g3,g4,g5,g6,g7,g8,g9,g10⟩:=mat_sound (X:=vs1.cx S0 env' m) h1.T rfl rfl (av:=fun i=>ws.toArray.getD i undef) (fun p _=>accS_rep hl p.1) hm (p:=q.g ≠ []) (fun w=>w) (S0:=vs1.S S0 env') (fun i w=>w) 0; obtain ⟨f1,f2,f3,f4⟩:=mat_facts (p:=q.g ≠ []) (S0:=S0) (env:=env') (m:=m) (vs:=vs1) (x:=undef) g3 g7 g5; cases hemp:Nat.beq con.ins.sl.length args.length with
   | false=>rw [hemp] at hv; cases hv
   | true=>
   rw [hemp] at hv; simp only [Bool.not_true,cond_false] at hv; have hnil:ws.toArray.size=con.ins.sl.length:=by
    have h1:=repSs_len hw; have h2:=Nat.eq_of_beq_eq_true hemp; show ws.length=_; omega
   ·simp only [Bool.false_and,cond_false,Option.bind_eq_some_iff] at hv; obtain ⟨y,hy,hv⟩:=hv; obtain ⟨c,m1,env2,hcal,hend,hret⟩:=hok x y hy (vs1.S S0 env') (env'.sub q (q.g ≠ [])) m ws.toArray g1 g2 hnil; obtain ⟨r1,r2,r3⟩:=merge (env1:=env2) h1.T (fun k j hk=>(g8 k j hk).1) f3 g9 (Xc:=con.ins.cx x (vs1.S S0 env') (env'.sub q (q.g ≠ [])) m) rfl f1 rfl (fun k j hk=>(g8 k j hk).2.1) (fun k j hk=>(g8 k j hk).2.2) f2 hend
    have hR:=h1.step r2 r1 rfl rfl rfl; refine ⟨c,m1,_,_,hcal,hR,hs1.trans h.T.free r2, ?_⟩; rcases vends_some hv with ⟨e1,e2⟩|⟨w,e1,e2⟩
    ·rw [e1] at hret; obtain ⟨v,rfl,hret⟩:=hret; exact .inl ⟨v,_,rfl,resSl_ren r3 hret,e2⟩
    ·rw [e1] at hret; exact .inr ⟨w,hret,e2⟩
  ·exact ihc (fun c hc=>hC c (List.mem_cons_of_mem _ hc)) hv
theorem vlendL_sound [Orc P] {k:Nat} {cs:List Con} (hC : ∀c∈cs,Con.OK P k c) (h:Rel P S0 env m a vs) {args:List S1} {ws:List Value} (hw:repSs P (vs.cx S0 env m) args ws) {K:Sl→VS→Option ρ} {r:ρ} (hv:vlendL args vs K cs=some r) :
  ∃c m1 env1 vs1,Cal P k ws.toArray m c m1∧Rel P S0 env1 m1 a vs1∧Stp (vs.cx S0 env m) (vs1.cx S0 env1 m1) ∧ ∃v x,c = .ret v∧repV P (vs1.cx S0 env1 m1) x v∧K x vs1=some r:=by
 induction cs with
 | nil=>cases hv
 | cons con cs ihc=>
  have hok:=hC con (List.mem_cons_self ..); simp only [vlendL] at hv; split at hv
  ·rename_i x q hm; simp only [Option.bind_eq_some_iff] at hv; obtain ⟨y,hy,hv⟩:=hv; obtain ⟨c,m1,g1,g2,g3,g4⟩:=lend_sound hok h hw hm hy; obtain ⟨v,x',rfl,g5,g6⟩:=g4 K hv; exact ⟨_,m1,env,vs,g1,g2,g3,v,x',rfl,g5,g6⟩
  ·exact ihc (fun c hc=>hC c (List.mem_cons_of_mem _ hc)) hv
theorem vcall_sound [Orc P] (hC:TabOK P C) (h:Rel P S0 env m a vs) {low:Bool} (hbar:low=false→Bars (vs.cx S0 env m)) {k:Nat} {args:List S1} {ws:List Value} (hw:repSs P (vs.cx S0 env m) args ws) {K:Sl→VS→Option ρ} {Kp:Value→VS→Option ρ} {r:ρ} (hv:vcall C low k args vs K Kp=some r) :
  ∃c m1 env1 vs1,Cal P k ws.toArray m c m1∧Rel P S0 env1 m1 a vs1∧Stp (vs.cx S0 env m) (vs1.cx S0 env1 m1)∧((∃v x,c = .ret v∧repV P (vs1.cx S0 env1 m1) x v∧K x vs1=some r) ∨ ∃w,c = .pnc w∧Kp w vs1=some r):=
 by
 unfold vcall at hv; cases hk:Nat.blt k 1000000 with
 | false=>rw [hk] at hv; cases hv
 | true=>
  rw [hk] at hv; cases hq:(low && !(lookCs C (3000000+k)).isEmpty) with
  | true=>
   rw [hq] at hv; exact vcallL_soundR (hC.getsR hk) h hw hv
  | false=>
   rw [hq] at hv; exact vcallL_sound (hC.gets hk) h hbar hw hv
theorem argsL_rep (h:Rel P S0 env m a vs) : ∀l:List Operand,repSs P (vs.cx S0 env m) (argsL vs l) (l.map a.eval):=by
 intro l; induction l with
 | nil=>trivial
 | cons x l ih=>exact ⟨unV_rep (ev_rep h x),ih⟩
theorem fnOf_eq {x:Sl} {k:Nat} {w:Value} (h:fnOf x=some k) (hr:repV P X x w):w = .func (.func k) #[] #[]:=by
 unfold fnOf at h; split at h
 ·rename_i k' b c; cases hc:(b.isEmpty && c.isEmpty) with
  | false=>rw [hc] at h; cases h
  | true=>
   rw [hc] at h; cases h; simp only [Bool.and_eq_true,Array.isEmpty_iff] at hc; obtain ⟨rfl,rfl⟩:=hc; exact hr.1
 ·cases h
def OpE (P:Program) [Orc P] (S0:Nat→Prop) (env:Env) (m:M) (a:Act) (vs:VS) (o:Oper) (K:Sl→VS→Option ρ) (Kp:Value→VS→Option ρ) (r:ρ):Prop:=
 (∃v m1 env1 x vs1,Comes P a o m v m1∧Rel P S0 env1 m1 a vs1∧Stp (vs.cx S0 env m) (vs1.cx S0 env1 m1)∧repV P (vs1.cx S0 env1 m1) x v∧K x vs1=some r ∧ ∀y,srcOf o.op=some y→known1 x=true→known1 (vs.ev y)=true) ∨
 (∃d k l,iop P a.eval o m=some (.dfr d m)∧d.target = .fn (.func k) #[]∧repSs P (vs.cx S0 env m) l d.args.toList∧(∃c,o.op = .defer c)∧K undefS { vs with df:=(k,l)::vs.df }=some r) ∨
 (∃w m1 env1 vs1,(iop P a.eval o m=some (.pnc w m1) ∨ ∃f args,iop P a.eval o m=some (.call f args m)∧Cal P f args m (.pnc w) m1)∧Rel P S0 env1 m1 a vs1∧Stp (vs.cx S0 env m) (vs1.cx S0 env1 m1)∧Kp w vs1=some r)
theorem exS_known {s:Sl} {w:Value} (h:exS s=some w):known1 s=true:=by
 cases s with
 | t l=>rfl
 | v s=>cases s with
  | x=>cases h
  | a cs=>rfl
  | s c=>cases c <;> first | rfl | cases h
theorem lstOf_known {bf:List Bf} {x:Sl} {q:(e:Ty) × List e.El} (h:lstOf bf x=some q):known1 x=true:=by
 unfold lstOf at h; split at h
 ·rfl
 ·rfl
 ·cases h
theorem vop1_src {vs : VS} {o : Oper} {hot : Bool} {g : Option Bool} {x : Sl} {vs1 : VS} (h : vop1 P hot vs o = some (g, x, vs1)) {y : Operand} (hy : srcOf o.op = some y) (hx : known1 x = true) : known1 (vs.ev y) = true := by
 unfold vop1 at h; split at h
 ·rename_i r hr; cases h; cases hs : (isShift o.op || isEqS vs o.op) with
  | true=>rw [hs] at hr; cases hr
  | false=>
   rw [hs] at hr; simp only [cond_false] at hr; unfold vpure at hr; split at hr
   ·rename_i hc; simp only [Bool.and_eq_true] at hc; have hmem:y∈o.op.operands.toList:=by
     unfold srcOf at hy; split at hy <;> first | (cases hy; done) | skip
     all_goals rename_i hop
     all_goals cases hy
     all_goals simp [hop,Op.operands]
    obtain ⟨w,hw⟩:=Option.isSome_iff_exists.1 (allEx_all hc.2 y hmem); exact exS_known hw
   ·cases hr
 ·unfold srcOf at hy; split at hy <;> first | (cases hy; done) | skip
  ·rename_i s z f ho; cases hy; rw [ho] at h; dsimp only at h; unfold vfieldAddr at h; split at h
   ·split at h
    ·split at h
     ·split at h
      ·cases h
      ·split at h
       ·rename_i hz; rw [hz]; rfl
       ·rename_i hz; rw [hz]; rfl
       ·rename_i hz; rw [hz]; rfl
       ·cases h
     ·cases h
    ·cases h
   ·cases h
  ·rename_i t z ix ho; cases hy; rw [ho] at h; dsimp only at h; cases hb:isSgP vs (vs.ev y) with
   | true=>exact isSgP_known hb
   | false=>
   rw [hb] at h; simp only [cond_false] at h; unfold vindexAddr at h; split at h
   ·rename_i hz; rw [hz]; rfl
   ·rename_i hz; rw [hz]; rfl
   ·rename_i hz; rw [hz]; rfl
   ·rename_i hz; rw [hz]; rfl
   split at h
   ·rename_i hl _; exact lstOf_known hl
   ·cases h
  ·rename_i z ho; cases hy; rw [ho] at h; cases h; exact hx
  ·rename_i z ho; cases hy; rw [ho] at h; cases h; exact hx
  ·rename_i z ho; cases hy; rw [ho] at h; dsimp only at h; split at h
   ·rename_i hz; rw [hz]; rfl
   ·rename_i hz; rw [hz]; rfl
   ·rename_i hz; rw [hz]; rfl
   ·cases h
  ·rename_i t z lo hi mx ho; cases hy; rw [ho] at h; dsimp only at h; unfold vslice at h; split at h
   ·cases h
   ·split at h
    ·rename_i hz; rw [hz]; rfl
    ·rename_i hz; rw [hz]; rfl
    ·rename_i hz; rw [hz]; rfl
    ·split at h
     ·rename_i hl _ _ _; exact lstOf_known hl
     ·rename_i hl _ _ _; exact lstOf_known hl
     ·cases h
theorem both_some {x y:Option ρ} {r:ρ} (h:both x y=some r):x=some r∧y=some r:=by
 unfold both at h; split at h
 ·rename_i e; exact ⟨h,by rw [←e]; exact h⟩
 ·cases h
theorem nilBr_some {n:Nat} {x y:Option ρ} {r:ρ} (h:nilBr n x y=some r):y=some r∧(n=0→x=some r):=by
 unfold nilBr at h; cases hd:decide (0<n) with
 | true=>rw [hd] at h; exact ⟨h,fun e=>by rw [e] at hd; cases hd⟩
 | false=>rw [hd] at h; obtain ⟨h1,h2⟩:=both_some h; exact ⟨h2,fun _=>h1⟩
theorem nilCmp_sound {bx : List (List Cl)} {t : TypeId} {x y : Sl} {w u : Value} {n : Nat} (hx : repV P X x w) (hy : repV P X y u) (hT : RelT P X bx) (h : nilCmp P t X.bf x y = some n) : ∃ b, ieqNil P t w u = some b ∧ (b = true → n = 0) := by
 have hnil : ∀{x:Sl} {w:Value},repV P X x w→nilC x=true→w = .slice none 0 0:=by
  intro x w hx hn; unfold nilC at hn; split at hn
  ·obtain ⟨rfl,_⟩:=hx; exact nilSl_eq hn
  ·cases hn
 have hsl : ∀{x:Sl} {w:Value} {q:(e:Ty) × List e.El},repV P X x w→lstOf X.bf x=some q → ∃b n c,w = .slice b n c∧(b=none→q.2.length=0):=by
  intro x w q hx hq; obtain ⟨e,xs⟩:=q; rcases lstOf_rep hT hq hx with ⟨rfl,rfl⟩|⟨i,o,sp,c,rfl,_⟩
  ·exact ⟨none,0,0,rfl,fun _=>rfl⟩
  ·exact ⟨_,_,_,rfl,fun h=>by cases h⟩
 unfold nilCmp at h; split at h
 ·rename_i e hu; cases hnx : nilC x with
  | true=>
   rw [hnx] at h; simp only [cond_true] at h; split at h
   ·rename_i e' xs hl; cases h; obtain rfl:=hnil hx hnx
    obtain ⟨b,n,c,rfl,hb⟩:=hsl hy hl; refine ⟨b.isNone,by unfold ieqNil; rw [hu],fun q=>hb (by cases b with | none=>rfl | some _=>cases q)⟩
   ·cases h
  | false=>
   rw [hnx] at h; simp only [cond_false] at h; cases hny:nilC y with
   | false=>rw [hny] at h; cases h
   | true=>
    rw [hny] at h; simp only [cond_true] at h; split at h
    ·rename_i e' xs hl; cases h; obtain rfl:=hnil hy hny
     obtain ⟨b,n,c,rfl,hb⟩:=hsl hx hl; cases b with
     | none=>exact ⟨true,by unfold ieqNil; rw [hu]; rfl,fun _=>hb rfl⟩
     | some q=>exact ⟨false,by unfold ieqNil; rw [hu],fun q=>by cases q⟩
    ·cases h
 ·cases h
theorem coolW_sound : ∀{pl:List (Nat × Pt)} {env:Env} {vs vs1:VS},Rel P S0 env m a vs→coolW pl vs=vs1 → ∃env1,Rel P S0 env1 m a vs1∧Stp (vs.cx S0 env m) (vs1.cx S0 env1 m):=by
 intro pl; induction pl with
 | nil=>intro env vs vs1 h hp; cases hp; exact ⟨env,h,Stp.refl h.T.free⟩
 | cons p pl ih=>
  intro env vs vs1 h hp; obtain ⟨k,p⟩:=p; simp only [coolW] at hp; split at hp
  ·split at hp
   ·rename_i j e xs hc; obtain ⟨env1,k1,k2,_⟩:=h.cool (coolAt_some hc); obtain ⟨env2,g1,g2⟩:=ih k1 hp; exact ⟨env2,g1,k2.trans h.T.free g2⟩
   ·exact ih h hp
  ·exact ih h hp
theorem coolC_known {j q:Nat} (c:Cl):known1 (.v (.s (coolC j q c)))=known1 (.v (.s c)):=by
 unfold coolC; split
 ·rename_i e j'; cases Nat.beq j' j <;> rfl
 ·rfl
theorem coolV_known {j q:Nat} (x:Sl):known1 (coolV j q x)=known1 x:=by
 cases x with
 | t l=>rfl
 | v s=>cases s with
  | x=>rfl
  | a cs=>rfl
  | s c=>exact coolC_known c
theorem coolW_known : ∀ (pl : List (Nat × Pt)) (vs : VS) (y : Operand), known1 ((coolW pl vs).ev y) = known1 (vs.ev y) := by
 intro pl; induction pl with
 | nil=>intro vs y; rfl
 | cons p pl ih=>
  intro vs y; obtain ⟨k,p⟩:=p; simp only [coolW]; split
  ·split
   ·rename_i j e xs hc; rw [ih]; cases y with
    | tmp t=>exact coolV_known _
    | _=>rfl
   ·exact ih vs y
  ·exact ih vs y
theorem vopD_sound [Orc P] {o:Oper} {low:Bool} (ht1 : ∀t x y,o.op = .store t x y→low=false) (h:Rel P S0 env m a vs) (hbar:low=false→Bars (vs.cx S0 env m)) {K:Sl→VS→Option ρ} {Kp:Value→VS→Option ρ} {r:ρ}
  (plain:(match vop1 P (hotOf C o) vs o with
   | some (none,x,vs1)=>K x vs1
   | some (some g,x,vs1)=>cond g (K x vs1) none
   | none=>none)=some r→(isWr o.op=true→low=false)→OpE P S0 env m a vs o K Kp r) (hv:vopD P C low vs o K=some r):OpE P S0 env m a vs o K Kp r:=by
 unfold vopD at hv; cases hlc:(low && isCopy o.op) with
 | true=>rw [hlc] at hv; cases hv
 | false=>
  rw [hlc] at hv; refine plain hv (fun hw => ?_); cases low with
  | false=>rfl
  | true=>
   simp only [Bool.true_and] at hlc; unfold isWr at hw; split at hw
   ·rename_i t x y ho; exact ht1 t x y ho
   ·rw [hlc] at hw; cases hw
theorem vop_sound [Orc P] (hC : TabOK P C) {o : Oper} (h : Rel P S0 env m a vs) {low : Bool} (hbar : low = false → Bars (vs.cx S0 env m)) {K : Sl → VS → Option ρ} {Kp : Value → VS → Option ρ} {r : ρ} (hv : vop P C low vs o K Kp = some r) : OpE P S0 env m a vs o K Kp r := by
 have plain : ∀{env:Env} {vs:VS},Rel P S0 env m a vs→(low=false→Bars (vs.cx S0 env m))→(match vop1 P (hotOf C o) vs o with
   | some (none,x,vs1)=>K x vs1
   | some (some g,x,vs1)=>cond g (K x vs1) none
   | none=>none)=some r→(isWr o.op=true→low=false)→OpE P S0 env m a vs o K Kp r:=by
  intro env vs h hbar hv hst; have fin : ∀{g x vs1},vop1 P (hotOf C o) vs o=some (g,x,vs1)→Holds' g→K x vs1=some r→OpE P S0 env m a vs o K Kp r:=by
   intro g x vs1 h1 hg hK; obtain ⟨v,m1,env1,h2,h3,h4,h5⟩:=vop1_sound h (fun hs=>hbar (hst hs)) h1 hg; refine .inl ⟨v,m1,env1,x,vs1, ?_,h3,h4,h5,hK,fun y hy hx=>vop1_src h1 hy hx⟩; rcases h2 with h2|⟨h2,rfl⟩
   ·exact .inl h2
   ·exact .inr (.inl ⟨h2,rfl⟩)
  split at hv
  ·rename_i x vs1 h1; exact fin h1 (fun b hb=>by cases hb) hv
  ·rename_i g x vs1 h1; cases g with
   | false=>cases hv
   | true=>exact fin h1 (fun b hb=>by cases hb; rfl) hv
  ·cases hv
 unfold vop at hv; split at hv
 ·rename_i c x y ho; have hc:=ev_rep h c; split at hv
  ·rename_i t hct; rw [hct] at hc; have hc':a.eval c = .bool t:=hc.1
   have hi:iop P a.eval o m=some (.val (if t then a.eval x else a.eval y) m):=by unfold iop; rw [ho]; dsimp only; rw [hc']
   cases t with
   | true=>exact .inl ⟨_,m,env,vs.ev x,vs,.inl hi,h,Stp.refl h.T.free,ev_rep h x,hv,fun y hy=>by rw [ho] at hy; cases hy⟩
   | false=>exact .inl ⟨_,m,env,vs.ev y,vs,.inl hi,h,Stp.refl h.T.free,ev_rep h y,hv,fun y hy=>by rw [ho] at hy; cases hy⟩
  ·cases hv
 ·rename_i x ho; split at hv
  ·rename_i t v hx; have:=exS_eq hx (ev_rep h x)
   exact .inr (.inr ⟨_,m,env,vs,.inl (by unfold iop; rw [ho]; dsimp only; rw [this]),h,Stp.refl h.T.free,hv⟩)
  ·cases hv
 ·rename_i c ho; split at hv
  ·rename_i f hc; split at hv
   ·rename_i k hk; have hf:=fnOf_eq hk (ev_rep h f); refine .inr (.inl ⟨{ target := .fn (.func k) #[],args := #[]++c.args.map a.eval },k,_, ?_,rfl, ?_,⟨c,ho⟩,hv⟩)
    ·unfold iop; rw [ho]; dsimp only; unfold idefer; rw [hc]; dsimp only; rw [hf]
    ·have:=argsL_rep h c.args.toList
     simpa using this
   ·cases hv
  ·cases hv
 ·rename_i f args ats ho; split at hv
  ·rename_i k hk; split at hv
   case isFalse hnok =>
    split at hv
    ·rename_i v mm hi; split at hi
     case isFalse=>cases hi
     rename_i hall; have hf:=fnOf_eq hk (ev_rep h f); have hcong : ∀m,iop P a.eval o m=iop P (evV vs) o m:=fun m=>iop_congr fun y hy=>by
      have hsome:=allEx_all hall y (by simpa using hy); obtain ⟨w,hw⟩:=Option.isSome_iff_exists.1 hsome; have:=exS_eq hw (ev_rep h y)
      rw [this]; unfold evV; rw [hw]; rfl
     rw [←hcong] at hi; have hncl : ∀fn,P.funcs[k]? = some fn → ¬(isClone fn=true):=by
      intro fn hfn hcl; unfold iop at hi; rw [ho] at hi; dsimp only at hi; unfold icall at hi; dsimp only at hi; rw [hf] at hi; dsimp only at hi; unfold okFn at hnok; rw [hfn] at hnok hi; dsimp only at hnok hi; rw [if_neg hnok,if_pos hcl,iclone_M0] at hi; cases hi
     have hfl : ∀m,iop P a.eval o m=iflat P a.eval o m∨iop P a.eval o m=none:=by
      intro m; unfold iop; rw [ho]; dsimp only; unfold icall; dsimp only; rw [hf]; dsimp only; unfold okFn at hnok; cases hfn:P.funcs[k]? with
      | none=>exact .inr rfl
      | some fn=>
       have hq:=hncl fn hfn; rw [hfn] at hnok; dsimp only at hnok ⊢; rw [if_neg hnok,if_neg hq]; exact .inl rfl
     rcases hfl M0 with q | q
     ·rw [q] at hi; obtain ⟨v', h1, h2⟩ := flat_any hi; cases h1; have hne : iop P a.eval o m = some (.val v m) := by
       rcases hfl m with q2 | q2
       ·rw [q2]; exact h2 m
       ·exfalso
        have q3:iop P a.eval o M0=none:=by
         unfold iop at q2 ⊢; rw [ho] at q2 ⊢; dsimp only at q2 ⊢; unfold icall at q2 ⊢; dsimp only at q2 ⊢; rw [hf] at q2 ⊢; dsimp only at q2 ⊢; unfold okFn at hnok; cases hfn:P.funcs[k]? with
         | none=>rfl
         | some fn=>
          have hq:=hncl fn hfn; rw [hfn] at hnok q2; dsimp only at hnok q2 ⊢; rw [if_neg hnok,if_neg hq] at q2; rw [h2 m] at q2; cases q2
        rw [q,h2 M0] at q3; cases q3
      exact .inl ⟨v,m,env,ofV v,vs,.inl hne,h,Stp.refl h.T.free,ofV_rep v,hv,fun y hy=>by rw [ho] at hy; cases hy⟩
     ·rw [q] at hi; cases hi
    ·cases hv
   ·rename_i hokf; have hf:=fnOf_eq hk (ev_rep h f); have hcl : ∃c m1 env1 vs1,Cal P k (args.toList.map a.eval).toArray m c m1∧Rel P S0 env1 m1 a vs1∧Stp (vs.cx S0 env m) (vs1.cx S0 env1 m1)∧((∃v x,c = .ret v∧repV P (vs1.cx S0 env1 m1) x v∧K x vs1=some r) ∨ ∃w,c = .pnc w∧Kp w vs1=some r):=by
     cases hle:(lendOf C o.dst && Nat.blt k 1000000) with
     | false=>rw [hle] at hv; exact vcall_sound hC h hbar (argsL_rep h args.toList) hv
     | true=>
      rw [hle] at hv; obtain ⟨c,m1,env1,vs1,h1,h2,h3,h4⟩:=vlendL_sound (hC.gets ((Bool.and_eq_true _ _).mp hle).2) h (argsL_rep h args.toList) hv; exact ⟨c,m1,env1,vs1,h1,h2,h3,.inl h4⟩
    obtain ⟨c,m1,env1,vs1,h1,h2,h3,h4⟩:=hcl; have hi:iop P a.eval o m=some (.call k (args.toList.map a.eval).toArray m):=by
     unfold iop; rw [ho]; dsimp only; unfold icall; dsimp only; rw [hf]; dsimp only; unfold okFn at hokf; split at hokf
     ·rename_i fn hfn; rw [hfn]; dsimp only; rw [if_pos hokf]; simp [List.map_toArray]
      apply Array.ext'; simp
     ·cases hokf
    rcases h4 with ⟨v,x,rfl,h5,h6⟩|⟨w,rfl,h5⟩
    ·exact .inl ⟨v,m1,env1,x,vs1,.inr (.inr ⟨_,_,_,hi,h1⟩),h2,h3,h5,h6,fun y hy=>by rw [ho] at hy; cases hy⟩
    ·exact .inr (.inr ⟨w,m1,env1,vs1,.inr ⟨_,_,hi,h1⟩,h2,h3,h5⟩)
  ·cases hv
 ·rename_i rv name args ats ho; split at hv
  ·rename_i t j off hx; have hrv:=ev_rep h rv; rw [hx] at hrv; obtain ⟨u1,i,u2,u3,u4⟩:=hrv; have fin : ∀{k:FuncId} {s:S1} {w:Value},iop P a.eval o m=some (.call k (#[w]++args.map a.eval) m)→repS P (vs.cx S0 env m) s w→vcall C low k (s::argsL vs args.toList) vs K Kp=some r→OpE P S0 env m a vs o K Kp r:=fun {k s w} hi hs hv=>by
    obtain ⟨c,m1,env1,vs1,h1,h2,h3,h4⟩:=vcall_sound hC h hbar (args:=s::argsL vs args.toList) (ws:=w::args.toList.map a.eval) ⟨hs,argsL_rep h args.toList⟩ hv; have hi':iop P a.eval o m=some (.call k (w::args.toList.map a.eval).toArray m):=by
     rw [hi]; have:(#[w]++args.map a.eval:Array Value)=(w::args.toList.map a.eval).toArray:=by apply Array.ext'; simp
     rw [this]
    rcases h4 with ⟨v,x,rfl,h5,h6⟩|⟨w,rfl,h5⟩
    ·exact .inl ⟨v,m1,env1,x,vs1,.inr (.inr ⟨_,_,_,hi',h1⟩),h2,h3,h5,h6,fun y hy=>by rw [ho] at hy; cases hy⟩
    ·exact .inr (.inr ⟨w,m1,env1,vs1,.inr ⟨_,_,hi',h1⟩,h2,h3,h5⟩)
   split at hv
   ·rename_i k e him; refine fin (s := .s (.p j off)) (w := .pointer (some ⟨i,off,none⟩)) ?_ ⟨u1,i,rfl,u3,u4⟩ hv; unfold iop; rw [ho]; dsimp only; unfold icall; dsimp only; unfold iinvoke; rw [u2]; dsimp only; rw [him]
   ·rename_i k e him; split at hv
    ·rename_i g s vs2 hl; obtain ⟨_,_,v,h1,h2⟩:=vload_sound h (x := .v (.s (.p j off))) (w := .pointer (some ⟨i,off,none⟩)) ⟨u1,i,rfl,u3,u4⟩ hl; refine fin ?_ h2 hv; unfold iop; rw [ho]; dsimp only; unfold icall; dsimp only; unfold iinvoke; rw [u2]; dsimp only; rw [him]; dsimp only; rw [h1]; rfl
    ·cases hv
   ·cases hv
  ·cases hv
 ·rename_i t x y u ho; split at hv
  ·rename_i n hn; obtain ⟨h1,h2⟩:=nilBr_some hv; obtain ⟨b,hb,hb0⟩:=nilCmp_sound (ev_rep h x) (ev_rep h y) h.T hn; have hi:iop P a.eval o m=some (.val (.bool b) m):=by unfold iop; rw [ho]; dsimp only; rw [hb]
   refine .inl ⟨_,m,env,.v (.s (.c (.bool b))),vs,.inl hi,h,Stp.refl h.T.free,⟨rfl,rfl⟩, ?_,fun y hy=>by rw [ho] at hy; cases hy⟩
   cases b with
   | true=>exact h2 (hb0 rfl)
   | false=>exact h1
  ·exact plain h hbar hv (fun ho'=>by rw [ho] at ho'; cases ho')
 ·rename_i t x y u ho; split at hv
  ·rename_i n hn; obtain ⟨h1,h2⟩:=nilBr_some hv; obtain ⟨b,hb,hb0⟩:=nilCmp_sound (ev_rep h x) (ev_rep h y) h.T hn; have hi:iop P a.eval o m=some (.val (.bool (!b)) m):=by unfold iop; rw [ho]; dsimp only; rw [hb]
   refine .inl ⟨_,m,env,.v (.s (.c (.bool (!b)))),vs,.inl hi,h,Stp.refl h.T.free,⟨rfl,rfl⟩, ?_,fun y hy=>by rw [ho] at hy; cases hy⟩
   cases b with
   | true=>exact h2 (hb0 rfl)
   | false=>exact h1
  ·exact plain h hbar hv (fun ho'=>by rw [ho] at ho'; cases ho')
 ·rename_i t x y ho; cases low with
  | true=>cases hv
  | false=>exact plain h hbar hv (fun _=>rfl)
 ·rename_i h1 h2 h3 h4 h5 h6 h7 h8; cases hmo : isMapO o.op with
  | true =>
   rw [hmo] at hv; simp only [cond_true] at hv; unfold vmapO at hv; cases hll:(low && !isLook o.op) with
   | true=>rw [hll] at hv; cases hv
   | false =>
    rw [hll] at hv; simp only [cond_false] at hv; split at hv
    ·rename_i x vs1 hx; have hg:(∀g,guardO vs o.op=some g→g=true)∧K x vs1=some r:=by
      split at hv
      ·rename_i hn; exact ⟨(fun g q=>by rw [hn] at q; cases q),hv⟩
      ·rename_i g hn; cases g with
       | true=>exact ⟨(fun g q=>by rw [hn] at q; cases q; rfl),hv⟩
       | false=>cases hv
     obtain ⟨hg,hv⟩:=hg; obtain ⟨v,m1,env1,g1,g2,g3,g4⟩:=vmap_sound hmo h (fun hl=>hbar (by rw [hl] at hll; cases low <;> first | rfl | cases hll)) hx hg
     refine .inl ⟨v,m1,env1,x,vs1, ?_,g2,g3,g4,hv,fun y hy=>by rw [isMapO_src hmo] at hy; cases hy⟩
     rcases g1 with g1|⟨g1,rfl⟩
     ·exact .inl g1
     ·exact .inr (.inl ⟨g1,rfl⟩)
    ·cases hv
  | false=>
  rw [hmo] at hv; simp only [cond_false] at hv; cases hstat:statOf C o with
  | true=>
   rw [hstat] at hv; simp only [cond_true] at hv; unfold vstatO at hv; split at hv
   ·rename_i t l c ho; split at hv
    ·rename_i x vs1 hx; obtain ⟨v,m1,env1,g1,g2,g3,g4⟩:=vstat_sound h (ev_rep h l) (ev_rep h c) hx; refine .inl ⟨v,m1,env1,x,vs1,.inl ?_,g2,g3,g4,hv,fun y hy=>by rw [ho] at hy; cases hy⟩
     unfold iop; rw [ho]; dsimp only; rw [g1]; rfl
    ·cases hv
   ·cases hv
  | false=>
  rw [hstat] at hv; simp only [cond_false] at hv; cases hcd:coldOf C o with
  | false=>
   rw [hcd] at hv; exact vopD_sound (fun t x y ho=>absurd ho (h8 t x y)) h hbar (plain h hbar) hv
  | true=>
   rw [hcd] at hv; obtain ⟨env1,k1,k2⟩:=coolW_sound h (rfl:coolW (opPl o.op.operands.toList) vs=_); have hb2:low=false→Bars ((coolW (opPl o.op.operands.toList) vs).cx S0 env1 m):=fun hl=>k2.bars h.T.bar (hbar hl)
   rcases vopD_sound (fun t x y ho=>absurd ho (h8 t x y)) k1 hb2 (plain k1 hb2) hv with ⟨v,m1,env2,x,vs1,g1,g2,g3,g4,g5,g6⟩|⟨d,k,l,g1,g2,g3,⟨c,g4⟩,g5⟩|⟨w,m1,env2,vs1,g1,g2,g3,g4⟩
   ·exact .inl ⟨v,m1,env2,x,vs1,g1,g2,k2.trans h.T.free g3,g4,g5,fun y hy hx=>by have:=g6 y hy hx; rwa [coolW_known] at this⟩
   ·exact absurd g4 (h3 c)
   ·exact .inr (.inr ⟨w,m1,env2,vs1,g1,g2,k2.trans h.T.free g3,g4⟩)
theorem Rel.put (h:Rel P S0 env m a vs) {d:Option Tmp} (hf:vs.fits d=true) {x:Sl} {v:Value} (hx:repV P (vs.cx S0 env m) x v):Rel P S0 env m (a.put d v) (vs.put d x):=by
 cases d with
 | none=>exact h
 | some d=>
  have hd:d<vs.N:=Nat.le_of_ble_eq_true hf; refine ⟨h.T,by show vs.N≤(a.tmps.setIfInBounds d v).size; rw [Array.size_setIfInBounds]; exact h.size,fun i => ?_,h.df⟩
  show repV P _ (bif Nat.beq i d then x else vs.sl i) ((a.tmps.setIfInBounds d v).getD i undef); cases hb:Nat.beq i d with
  | true=>
   have:=Nat.eq_of_beq_eq_true hb
   subst this; rw [Array.getD_eq_getD_getElem?, Array.getElem?_setIfInBounds,if_pos rfl,if_pos (Nat.lt_of_lt_of_le hd h.size)]; exact hx
  | false=>
   have hne:=Nat.ne_of_beq_eq_false hb; rw [Array.getD_eq_getD_getElem?, Array.getElem?_setIfInBounds,if_neg (Ne.symm hne),←Array.getD_eq_getD_getElem?]; exact h.sl i
theorem undefS_rep:repV P X undefS undef:=⟨#[],rfl,trivial⟩
theorem Rel.setB (h:Rel P S0 env m a vs) {d:Nat} {b:Bool} (hd:vs.sl d = .v (.s (.c (.bool b)))):Rel P S0 env m a (vs.setB d b):=by
 refine ⟨h.T,h.size,fun i => ?_,h.df⟩; show repV P _ (bif Nat.beq i d then _ else vs.sl i) _; cases hb:Nat.beq i d with
 | true=>
  have:=Nat.eq_of_beq_eq_true hb
  subst this; have h2:=h.sl i; rw [hd] at h2; exact h2
 | false=>exact h.sl i
def Same1 (vs vs1:VS):Prop:=vs1.bf=vs.bf∧vs1.bx=vs.bx∧vs1.N=vs.N ∧ ∀t,vs1.sl t=vs.sl t ∨ ∃b,vs1.sl t = .v (.s (.c (.bool b)))
theorem Same1.refl (vs:VS):Same1 vs vs:=⟨rfl,rfl,rfl,fun _ => .inl rfl⟩
theorem Same1.setB (vs:VS) (d:Nat) (b:Bool):Same1 vs (vs.setB d b):=⟨rfl,rfl,rfl,fun t=>by
 show (bif Nat.beq t d then _ else vs.sl t)=_∨_; cases hb:Nat.beq t d with
 | true=>exact .inr ⟨b,by show (bif Nat.beq t d then _ else vs.sl t)=_; rw [hb]; rfl⟩
 | false=>exact .inl rfl⟩
theorem Same1.cx {vs vs1:VS} (h:Same1 vs vs1) (S0:Nat→Prop) (env:Env) (m:M):vs1.cx S0 env m=vs.cx S0 env m:=by
 unfold VS.cx VS.S; rw [h.1,h.2.1]
theorem vguard_sound (h : Rel P S0 env m a vs) {ops : Array Oper} {o : Oper} {run skip : VS → Option ρ} {r : ρ} (hv : vguard vs ops o run skip = some r) :
  ∃vs1,Rel P S0 env m a vs1∧Same1 vs vs1∧((Region.wanted o (yielded ops a.tmps)=true∧run vs1=some r)∨(Region.wanted o (yielded ops a.tmps)=false∧skip vs1=some r)):=by
 unfold vguard at hv; unfold Region.wanted; split at hv
 ·rename_i hg; rw [hg]; exact ⟨vs,h,Same1.refl vs,.inl ⟨rfl,hv⟩⟩
 ·rename_i j want hg; rw [hg]; dsimp only; split at hv
  ·rename_i d hd; cases hb : Nat.blt d vs.N with
   | false=>rw [hb] at hv; cases hv
   | true=>
    rw [hb] at hv; simp only [cond_true] at hv; have hd':d<a.tmps.size:=Nat.lt_of_lt_of_le (Nat.le_of_ble_eq_true hb) h.size
    have hsl:=h.sl d; have hget:a.tmps[d]? = some (a.tmps.getD d undef):=by
     rw [Array.getD_eq_getD_getElem?, Array.getElem?_eq_getElem hd']; rfl
    have hy : ∀v,a.tmps.getD d undef=v→yielded ops a.tmps j=(match v with | .bool b=>some b | _=>none):=by
     intro v hv; unfold yielded; rw [hd]; simp only [Option.bind_some]; rw [hget,hv]; cases v <;> rfl
    split at hv
    ·rename_i b hsb; rw [hsb] at hsl; have hv2:=hy _ hsl.1; rw [hv2]; cases want with
     | true=>cases b with
      | true=>exact ⟨_,h.setB hsb,Same1.setB _ _ _,.inl ⟨rfl,hv⟩⟩
      | false=>exact ⟨_,h.setB hsb,Same1.setB _ _ _,.inr ⟨rfl,hv⟩⟩
     | false=>cases b with
      | true=>exact ⟨_,h.setB hsb,Same1.setB _ _ _,.inr ⟨rfl,hv⟩⟩
      | false=>exact ⟨_,h.setB hsb,Same1.setB _ _ _,.inl ⟨rfl,hv⟩⟩
    ·rename_i hsb; rw [hsb] at hsl; obtain ⟨b,hb2,_⟩:=hsl; have hv2:=hy _ hb2; rw [hv2]; exact ⟨vs,h,Same1.refl vs,.inr ⟨rfl,hv⟩⟩
    ·cases hv
  ·cases hv
end Go.IM.V
namespace Go.IM.V
open Go Go.IM
variable {P:Program} {m m1:M} {S0:Nat→Prop} {env env1:Env} {a:Act} {vs:VS} {X Y:Cx} {ρ:Type} {C:Tab}
theorem eval_defers (tm:Array Value) (ds ds':List Deferred):(⟨tm,ds⟩:Act).eval=(⟨tm,ds'⟩:Act).eval:=by funext x; cases x <;> rfl
theorem put_defers (tm:Array Value) (ds ds':List Deferred) (d:Option Tmp) (v:Value):(⟨tm,ds⟩:Act).put d v=⟨((⟨tm,ds'⟩:Act).put d v).tmps,ds⟩:=by cases d <;> rfl
theorem put_size (a:Act) (d:Option Tmp) (v:Value):(a.put d v).tmps.size=a.tmps.size:=by
 cases d with
 | none=>rfl
 | some d=>exact Array.size_setIfInBounds
theorem Comes.defers [Orc P] {tm:Array Value} {ds ds':List Deferred} {o:Oper} {v:Value} (h:Comes P ⟨tm,ds⟩ o m v m1):Comes P ⟨tm,ds'⟩ o m v m1:=by
 unfold Comes at h ⊢; rw [eval_defers tm ds' ds]; exact h
theorem Rel.slots {vs1:VS} (h:Rel P S0 env1 m1 a vs1) (h0:Rel P S0 env m a vs) (hs:Stp (vs.cx S0 env m) (vs1.cx S0 env1 m1)):Rel P S0 env1 m1 a { vs1 with sl:=vs.sl }:=
 ⟨h.T,h.size,fun i=>(h0.sl i).le hs.le,h.df⟩
theorem cond_some {b:Bool} {x:Option ρ} {r:ρ} (h:cond b x none=some r):b=true∧x=some r:=by
 cases b with
 | true=>exact ⟨rfl,h⟩
 | false=>cases h
theorem splitN_some {x:Int} {K:Int→Option ρ} {r:ρ} : ∀{n lo:Nat},splitN x K lo n=some r→K x=some r:=by
 intro n; induction n with
 | zero=>intro lo h; cases h
 | succ n ih=>
  intro lo h; simp only [splitN] at h; by_cases hx:x = .ofNat lo
  ·rw [decide_eq_true hx] at h; rw [hx]; exact h
  ·rw [decide_eq_false hx] at h; exact ih h
theorem splitS_some {x:ByteArray} {K:ByteArray→Option ρ} {r:ρ} : ∀{ks:List ByteArray},splitS x K ks=some r→K x=some r:=by
 intro ks; induction ks with
 | nil=>intro h; cases h
 | cons q ks ih=>
  intro h; simp only [splitS] at h; cases hq:(x == q) with
  | true=>rw [hq] at h; rw [(MapKept.bytes_beq _ _).1 hq]; exact h
  | false=>rw [hq] at h; exact ih h
theorem splitK_some {s:Option (Nat × Nat × List ByteArray)} {x:Sl} {K:Sl→Option ρ} {r:ρ} (h:splitK s x K=some r):K x=some r:=by
 unfold splitK at h; split at h
 ·exact h
 ·split at h
  ·exact splitN_some (K:=fun y=>K (.v (.s (.c (.int _ y))))) h
  ·rename_i ks _ x; cases hk:ks.isEmpty with
   | true=>rw [hk] at h; exact h
   | false=>rw [hk] at h; exact splitS_some (K:=fun y=>K (.v (.s (.c (.string y))))) h
  ·exact h
theorem vops_sound [Orc P] (hC : TabOK P C) {ops : Array Oper} (D : List Deferred) {K : VS → Option ρ} {Kp : Value → VS → Option ρ} {r : ρ} {lo : Bool} : ∀ (l : List Nat) {env : Env} {m : M} {tm : Array Value} {ds : List Deferred} {vs : VS}, vops P C false (fun _ => lo) ops l vs K Kp = some r → Rel P S0 env m ⟨tm, ds⟩ vs → (lo = false → Bars (vs.cx S0 env m)) →
  ∃e tm1 ds1 m1 env1 vs1,Ops P ops l ⟨tm,ds++D⟩ m e ⟨tm1,ds1++D⟩ m1∧Rel P S0 env1 m1 ⟨tm1,ds1⟩ vs1∧Stp (vs.cx S0 env m) (vs1.cx S0 env1 m1)∧tm1.size=tm.size∧((e = .normal∧K vs1=some r) ∨ ∃w,e = .pnc w∧Kp w vs1=some r):=by
 intro l; induction l with
 | nil=>intro env m tm ds vs hv h hb; exact ⟨.normal,tm,ds,m,env,vs,Ops.nil,h,Stp.refl h.T.free,rfl,.inl ⟨rfl,hv⟩⟩
 | cons i rest ih =>
  intro env m tm ds vs hv h hb; simp only [vops] at hv; split at hv
  ·cases hv
  ·rename_i o ho; obtain ⟨hok, hv⟩ := cond_some hv; obtain ⟨vs', h', hsame, hv⟩ := vguard_sound h hv; have hcx' := hsame.cx S0 env m
   rw [←hcx'] at hb ⊢; clear h hsame hcx'; have h:=h'; rcases hv with ⟨hw,hv⟩|⟨hw,hv⟩
   ·rcases vop_sound hC h (low:=lo) hb hv with ⟨v,m1,env1,x,vs1,h1,h2,h3,h4,h5,_⟩|⟨d,k,l,h1,h2,h3,_,h5⟩|⟨w,m1,env1,vs1,h1,h2,h3,h5⟩
    ·obtain ⟨hfit1,h5⟩:=cond_some (splitK_some h5); have h6:=h2.put hfit1 h4; have h5:vops P C false (fun _=>lo) ops rest (vs1.put o.dst x) K Kp=some r:=h5; rw [put_defers tm ds ds] at h6; have hcx:(vs1.put o.dst x).cx S0 env1 m1=vs1.cx S0 env1 m1:=by cases o.dst <;> rfl
     have hb1:=fun q=>h3.bars h.T.bar (hb q)
     obtain ⟨e,tm2,ds2,m2,env2,vs2,g1,g2,g3,g4,g5⟩:=ih h5 h6 (by rw [hcx]; exact hb1)
     rw [hcx] at g3; refine ⟨e,tm2,ds2,m2,env2,vs2, ?_,g2,h3.trans h.T.free g3,by rw [g4]; exact put_size _ _ _,g5⟩
     have hp2:(⟨tm,ds++D⟩:Act).put o.dst v=⟨((⟨tm,ds⟩:Act).put o.dst v).tmps,ds++D⟩:=put_defers _ _ _ _ _; rw [←hp2] at g1; rcases Comes.defers (ds':=ds++D) h1 with h7|⟨h7,rfl⟩|⟨f,args,m0,h7,h8⟩
     ·exact Ops.val ho hw hok h7 g1
     ·exact Ops.skip ho hw hok h7 g1
     ·exact Ops.call' ho hw hok h7 h8 g1
    ·obtain ⟨hfit1,h5⟩:=cond_some (splitK_some h5); have h5:vops P C false (fun _=>lo) ops rest (({ vs' with df:=(k,l)::vs'.df }:VS).put o.dst undefS) K Kp=some r:=h5; have h6:Rel P S0 env m ⟨tm,d::ds⟩ { vs' with df:=(k,l)::vs'.df }:=⟨h.T,h.size,h.sl,h2,h3,h.df⟩; have h7:Rel P S0 env m ⟨((⟨tm,d::ds⟩:Act).put o.dst undef).tmps,d::ds⟩ (({ vs' with df:=(k,l)::vs'.df }:VS).put o.dst undefS):=by
      have:=h6.put (d:=o.dst) (x:=undefS) (v:=undef) hfit1 undefS_rep
      rw [put_defers tm (d::ds) (d::ds)] at this; exact this
     have hcx:(({ vs' with df:=(k,l)::vs'.df }:VS).put o.dst undefS).cx S0 env m=vs'.cx S0 env m:=by cases o.dst <;> rfl
     obtain ⟨e,tm2,ds2,m2,env2,vs2,g1,g2,g3,g4,g5⟩:=ih h5 h7 (by rw [hcx]; exact hb)
     rw [hcx] at g3; refine ⟨e,tm2,ds2,m2,env2,vs2, ?_,g2,g3,by rw [g4]; exact put_size _ _ _,g5⟩
     refine Ops.dfr (m1:=m) (d:=d) ho hw hok (by rw [eval_defers tm (ds++D) ds]; exact h1) ?_
     have hp2:(⟨tm,d::(ds++D)⟩:Act).put o.dst undef=⟨((⟨tm,d::ds⟩:Act).put o.dst undef).tmps,(d::ds)++D⟩:=put_defers _ _ _ _ _; rw [←hp2] at g1; exact g1
    ·refine ⟨.pnc w,tm,ds,m1,env1,vs1, ?_,h2,h3,rfl,.inr ⟨w,rfl,h5⟩⟩; rcases h1 with h1|⟨f,args,h1,h6⟩
     ·exact Ops.pnc ho hw hok (by rw [eval_defers tm (ds++D) ds]; exact h1)
     ·exact Ops.call_pnc ho hw hok (by rw [eval_defers tm (ds++D) ds]; exact h1) h6
   ·obtain ⟨hfit,hv⟩:=cond_some hv; have h6:=h.put hfit undefS_rep; rw [put_defers tm ds ds] at h6; have hcx:(vs'.put o.dst undefS).cx S0 env m=vs'.cx S0 env m:=by cases o.dst <;> rfl
    obtain ⟨e,tm2,ds2,m2,env2,vs2,g1,g2,g3,g4,g5⟩:=ih hv h6 (by rw [hcx]; exact hb)
    rw [hcx] at g3; refine ⟨e,tm2,ds2,m2,env2,vs2, ?_,g2,g3,by rw [g4]; exact put_size _ _ _,g5⟩
    have hp2:(⟨tm,ds++D⟩:Act).put o.dst undef=⟨((⟨tm,ds⟩:Act).put o.dst undef).tmps,ds++D⟩:=put_defers _ _ _ _ _; rw [←hp2] at g1; exact Ops.unwanted ho hw g1
theorem CxLe.rebar (X:Cx) (b:Nat):CxLe X { X with m:=X.m.rebar b }:=⟨fun i r hr hS=>⟨hr,hS⟩,Nat.le_refl _,fun _ _=>rfl,fun j b hb=>⟨b.live,hb,rfl⟩,fun _ _ h=>h,fun _ _ _ h=>h,fun _ h=>h,fun _ h=>h,Nat.le_refl _,fun _ _ h=>h⟩
theorem RelT.rebar {bx : List (List Cl)} (h : RelT P X bx) {b : Nat} (hb : b ≤ X.m.nxt) : RelT P { X with m := X.m.rebar b } bx := by
 have hle:=CxLe.rebar X b; refine ⟨h.free,hb,h.nb,h.has,h.len,h.inS,h.slt,fun j c hj => ?_,h.bfd,fun j cs hj => ?_,h.bxd,h.φS,h.φd,h.rts,⟨h.unq.one,h.unq.le⟩⟩
 ·obtain ⟨h1,h2⟩:=h.bf j c hj; refine ⟨h1, ?_⟩; show (match X.env.τ j with | none=>_ | some i=>_); cases hq:X.env.τ j with
  | none=>rw [hq] at h2; exact h2
  | some i=>
   rw [hq] at h2; obtain ⟨g1,k,c',e,fr,g2,g3,g4,g5,g6,g7,g8⟩:=h2; exact ⟨g1,k,c',e,fr,g2,g3,g4,g5,g6,fun q x hx=>repE.mono hle.mono (g7 q x hx),g8⟩
 ·have hB := h.bx j cs hj; have runle : ∀ {arr : Bool} {e : Ty} {xs : List e.El}, RunOK P X j arr e xs → RunOK P { X with m := X.m.rebar b } j arr e xs := by
   intro arr e xs hr; refine ⟨hr.1,fun hne => ?_⟩; obtain ⟨k,c,eo,fr,g1,g2,g3,g4,g5,g6,g7,g8,g9⟩:=hr.2 hne; exact ⟨k,c,eo,fr,g1,g2,g3,g4,g5,g6,g7,fun q x hx=>repE.mono hle.mono (g8 q x hx),g9⟩
  cases hrun:isRun cs with
  | false=>
   obtain ⟨k,c',e,fr,g2,g3,g4,g5,g6,g7⟩:=hB.cel hrun; exact BoxOK.of hrun ⟨k,c',e,fr,g2,g3,g4,g5,g6,g7.le hle⟩
  | true=>
   unfold BoxOK at hB ⊢; split at hB
   ·trivial
   ·exact runle hB
   ·exact ⟨runle hB.1,hB.2⟩
   ·obtain ⟨k,es,g2,g3,g4,g5,g6,g7⟩:=hB; exact ⟨k,es,g2,g3,g4,g5,g6,g7.le hle⟩
   ·exact hB
   ·obtain ⟨k,es,ck,g2,g3,g4,g5,g6,g7⟩:=hB; exact ⟨k,es,ck,g2,g3,g4,g5,g6,g7.mono hle.mono⟩
   ·cases hs:cs.any isSg with
    | true=>
     rw [hs] at hB; obtain ⟨k,ws,g2,g4,g5,g6,g7,g8⟩:=hB; exact ⟨k,ws,g2,g4,g5,g6,g7.le hle,g8⟩
    | false=>
     rw [hs] at hB; obtain ⟨k,c',e,fr,g2,g3,g4,g5,g6,g7⟩:=hB; exact ⟨k,c',e,fr,g2,g3,g4,g5,g6,g7.le hle⟩
theorem Rel.rebar (h:Rel P S0 env m a vs) {b:Nat} (hb:b≤m.nxt):Rel P S0 env (m.rebar b) a vs:=
 ⟨h.T.rebar hb,h.size,fun i=>(h.sl i).le (CxLe.rebar _ b),h.df.le (CxLe.rebar _ b)⟩
theorem Stp.rebar {vs1:VS} {b:Nat} (h:Stp (vs.cx S0 env (m.rebar b)) (vs1.cx S0 env1 m1)):Stp (vs.cx S0 env m) (vs1.cx S0 env1 (m1.rebar m.bar)):=
 ⟨⟨rfl,h.fr.nxt,h.fr.free,h.fr.al,h.fr.old,h.fr.new,h.fr.get,h.fr.rts,fun r u=>⟨(h.fr.unq r ⟨u.one,u.le⟩).one,(h.fr.unq r ⟨u.one,u.le⟩).le⟩,h.fr.ty⟩,⟨h.le.mono,h.le.nb,h.le.β,h.le.bf,h.le.has,h.le.len,h.le.s0,h.le.φ,h.le.nxt,h.le.ty⟩,h.wb,h.wl⟩
theorem touch1 (h : Rel P S0 env m a vs) {o : Oper} {hot : Bool} {g : Option Bool} {x : Sl} {vs1 : VS} (h1 : vop1 P hot vs o = some (g, x, vs1)) {j : Nat} (ht : touch a.eval o = some j) : ∃ x, lookAt o = some x ∧ known1 (vs.ev x) = true := by
 have hnf : ∀{x:Operand} {w:Value},exS (vs.ev x)=some w→a.eval x=w:=fun hx=>exS_eq hx (ev_rep h _)
 have pure : ∀ {g x vs1}, vpure P vs o = some (g, x, vs1) → False := by
  intro g x vs1 hp; unfold vpure at hp; split at hp
  ·rename_i hc; simp only [Bool.and_eq_true] at hc; have hk : kindOf P o = .p ∨ isFlatB o.op = true := by
    have:=hc.1
    rw [Bool.or_eq_true] at this; rcases this with q | q
    ·exact .inl (isP_eq q)
    ·exact .inr q
   have hall:=allEx_all hc.2; unfold touch at ht; split at ht
   ·rename_i t y ho; unfold kindOf at hk; rw [ho] at hk; rcases hk with hk | hk <;> cases hk
   ·rename_i t y lo hi mx ho; unfold kindOf at hk; rw [ho] at hk; rcases hk with hk | hk <;> cases hk
   ·rename_i s d y ho; unfold kindOf at hk; rw [ho] at hk; rcases hk with hk | hk
    case inr=>cases hk
    dsimp only at hk; split at hp
    ·rename_i v mm hi; unfold iop at hi; rw [ho] at hi; dsimp only at hi; have hy : a.eval y = evV vs y := by
      obtain ⟨w,hw⟩:=Option.isSome_iff_exists.1 (hall y (by rw [ho]; simp [Op.operands]))
      rw [hnf hw]; unfold evV; rw [hw]; rfl
     rw [hy] at ht; split at ht
     ·rename_i q n c hq; rw [hq] at hi; unfold iconvert at hi; split at hi
      ·rename_i hx; cases hx
      ·split at hi
       ·exfalso; simp [*] at hk
       ·cases hi
      ·exfalso; simp [*] at hk
      ·unfold iflat opFlat at hi; rw [ho] at hi; split at hi
       ·rename_i hq2; simp only [Op.operands,Array.all_eq_true'] at hq2; have:=hq2 y (by simp)
        rw [hq] at this; cases this
       ·cases hi
     ·cases ht
    ·cases hp
   ·rename_i ho; unfold kindOf at hk; rw [ho] at hk; rcases hk with hk | hk <;> cases hk
   ·cases ht
  ·cases hp
 ·unfold vop1 at h1; split at h1
  ·rename_i rr hr; cases hs:(isShift o.op || isEqS vs o.op) with
   | true=>rw [hs] at hr; cases hr
   | false=>
    rw [hs] at hr; obtain ⟨g',x',vs'⟩:=rr; exact (pure hr).elim
  ·unfold touch at ht; split at ht
   ·rename_i t y ho; rw [ho] at h1; refine ⟨y,by unfold lookAt; rw [ho], ?_⟩
    dsimp only at h1; cases hb:isSgP vs (vs.ev y) with
    | true=>exact isSgP_known hb
    | false=>
    rw [hb] at h1; simp only [cond_false] at h1; unfold vloadA at h1; split at h1
    ·rename_i hy; rw [hy]; rfl
    unfold vload at h1; split at h1
    ·rename_i hy; rw [hy]; rfl
    ·rename_i hy; rw [hy]; rfl
    ·cases h1
   ·rename_i t y lo hi mx ho; rw [ho] at h1; refine ⟨y, by unfold lookAt; rw [ho], ?_⟩
    dsimp only at h1; have hry:=ev_rep h y; unfold vslice at h1; split at h1
    ·cases h1
    ·split at h1
     ·rename_i v hy; rw [hy] at hry; obtain ⟨h2,_⟩:=hry; cases hn:nilSl v with
      | false=>rw [hn] at h1; cases h1
      | true=>
       rw [h2,nilSl_eq hn] at ht; cases ht
     ·rename_i hy; rw [hy]; rfl
     ·rename_i hy; rw [hy]; rfl
     ·have : ∀{q},lstOf vs.bf (vs.ev y)=some q→known1 (vs.ev y)=true:=by
       intro q hq; unfold lstOf at hq; split at hq
       ·rename_i hy; rw [hy]; rfl
       ·rename_i hy; rw [hy]; rfl
       ·cases hq
      split at h1
      ·rename_i hl _ _ _; exact this hl
      ·rename_i hl _ _ _; exact this hl
      ·cases h1
   ·rename_i s d y ho; rw [ho] at h1; refine ⟨y,by unfold lookAt; rw [ho], ?_⟩
    dsimp only at h1; have hry:=ev_rep h y; unfold vconvert at h1; split at h1
    ·rename_i e s' _ _ hy; rw [hy] at hry; have h2:a.eval y = .string s':=hry.1; rw [h2] at ht; cases ht
    ·rename_i e c _ _ hy; rw [hy] at hry ⊢; cases c with
     | l=>rfl
     | o=>rfl
     | p=>rfl
     | e=>rfl
     | m=>rfl
     | w=>rfl
     | c v=>
      split at h1
      ·rename_i xs _ hg; simp only [peekL,getL] at hg; obtain ⟨hn,_⟩:=cond_some hg; have h2:a.eval y=v:=hry.1; rw [h2,nilSl_eq hn] at ht; cases ht
      ·cases h1
     | _=>split at h1 <;> first | (rename_i hg; cases hg; done) | (rename_i hg _; cases hg; done) | cases h1
    ·rename_i hy; rw [hy]; rfl
    ·cases h1
   ·rename_i ho; rw [ho] at h1; cases h1
   ·cases ht
theorem touch_place (h : Rel P S0 env m a vs) {o : Oper} {low : Bool} (hlow : low = true) {K : Sl → VS → Option ρ} {Kp : Value → VS → Option ρ} {r : ρ} (hv : vop P C low vs o K Kp = some r) {j : Nat} (ht : touch a.eval o = some j) : (∃ x, lookAt o = some x ∧ known1 (vs.ev x) = true) ∨ (isLook o.op = true ∧ j < m.nxt) := by
 unfold vop at hv; split at hv
 ·rename_i ho; unfold touch at ht; rw [ho] at ht; cases ht
 ·rename_i ho; unfold touch at ht; rw [ho] at ht; cases ht
 ·rename_i ho; unfold touch at ht; rw [ho] at ht; cases ht
 ·rename_i ho; unfold touch at ht; rw [ho] at ht; cases ht
 ·rename_i ho; unfold touch at ht; rw [ho] at ht; cases ht
 ·rename_i ho; unfold touch at ht; rw [ho] at ht; cases ht
 ·rename_i ho; unfold touch at ht; rw [ho] at ht; cases ht
 ·rename_i ho; unfold touch at ht; rw [ho] at ht; cases ht
 ·have key : ∀ {vs : VS}, vopD P C low vs o K = some r → ∃ g x vs1, vop1 P (hotOf C o) vs o = some (g, x, vs1) := by
   intro vs hv; unfold vopD at hv; cases hlc:(low && isCopy o.op) with
   | true=>rw [hlc] at hv; cases hv
   | false=>
   rw [hlc] at hv; simp only [cond_false] at hv; split at hv
   ·rename_i x vs1 h1; exact ⟨_,_,_,h1⟩
   ·rename_i g x vs1 h1; exact ⟨_,_,_,h1⟩
   ·cases hv
  cases hmo:isMapO o.op with
  | true =>
   rw [hmo] at hv; simp only [cond_true] at hv; unfold vmapO at hv; cases hlk:isLook o.op with
   | false=>rw [hlow,hlk] at hv; cases hv
   | true =>
    refine .inr ⟨rfl, ?_⟩; rw [hlow,hlk] at hv; simp only [Bool.not_true,Bool.and_false,cond_false] at hv; split at hv
    ·rename_i x vs1 hx; unfold isLook at hlk; split at hlk
     ·rename_i t y k ok ho; unfold touch at ht; rw [ho] at ht; dsimp only at ht; unfold vmap at hx; rw [ho] at hx; dsimp only at hx; have hr := ev_rep h y; obtain ⟨jj, hj⟩ : ∃ jj, vs.ev y = .v (.s (.mv jj)) := by
       cases hc:isMt vs (vs.ev y) with
       | true=>unfold isMt at hc; split at hc <;> first | exact ⟨_,by assumption⟩|cases hc
       | false=>
        rw [hc] at hx; cases hb:isMs vs (vs.ev y) with
        | true=>unfold isMs at hb; split at hb <;> first | exact ⟨_,by assumption⟩|cases hb
        | false=>
         rw [hb] at hx; simp only [cond_false] at hx; unfold vlookup at hx; split at hx
         ·rename_i h1 h2 _; exact ⟨_,by assumption⟩
         ·cases hx
      rw [hj] at hr; obtain ⟨_,i,h2,h3,_⟩:=hr; rw [h2] at ht; cases ht; exact h3
     ·cases hlk
    ·cases hv
  | false=>
  rw [hmo] at hv; simp only [cond_false] at hv; cases hstat:statOf C o with
  | true=>
   rw [hstat] at hv; simp only [cond_true] at hv; unfold vstatO at hv; split at hv
   ·rename_i ho; unfold touch at ht; rw [ho] at ht; cases ht
   ·cases hv
  | false=>
  rw [hstat] at hv; simp only [cond_false] at hv; cases hcd:coldOf C o with
  | false=>
   rw [hcd] at hv; obtain ⟨g,x,vs1,h1⟩:=key hv; exact .inl (touch1 h h1 ht)
  | true=>
   rw [hcd] at hv; obtain ⟨g,x,vs1,h1⟩:=key hv; obtain ⟨env1,k1,k2⟩:=coolW_sound h (rfl:coolW (opPl o.op.operands.toList) vs=_); obtain ⟨y,g1,g2⟩:=touch1 k1 h1 ht; exact .inl ⟨y,g1,by rwa [coolW_known] at g2⟩
end Go.IM.V