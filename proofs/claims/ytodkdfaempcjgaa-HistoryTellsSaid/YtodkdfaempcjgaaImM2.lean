/- An ideal machine, and a machine of values: part 2 of 5. Lemmas alone; no conditions. -/
import Derived.ProofKit
import Derived.JoinedCond
import Derived.Test.YtodkdfaempcjgaaImM1
set_option linter.unusedVariables false
set_option linter.unusedSimpArgs false
namespace Go.IM
open Go Go.RowKit
variable {P:Program} {ev ev':Operand→Value} {o:Oper}
theorem Jfd {ps:Array (Nat × Operand)} (hp : ∀x∈ps.map (·.2),ev x=ev' x):(ps.map fun (i,x)=>(i,ev x))=(ps.map fun (i,x)=>(i,ev' x)):=
 Array.map_congr_left fun p hm=>by
  obtain ⟨i,x⟩:=p;simp only [hp x (Array.mem_map.2 ⟨(i,x),hm,rfl⟩)]
theorem Jfu {m:M} (hs : ∀cs b,o.op ≠ .select cs b) (h : ∀x∈o.op.operands,ev x=ev' x):QT P ev o m=QT P ev' o m:=by
 unfold QT XW;rw [execOp_congr o hs h];have:(o.op.operands.all fun x=>flat 4 (ev x))=(o.op.operands.all fun x=>flat 4 (ev' x)):=by
  rw [Bool.eq_iff_iff,Array.all_eq_true',Array.all_eq_true'];exact ⟨fun q x hx=>by rw [←h x hx];exact q x hx,fun q x hx=>by rw [h x hx];exact q x hx⟩
 rw [this]
theorem JkS {m:M} {c:Call} (hop:o.op = .call c) (h : ∀x∈o.op.operands,ev x=ev' x):JaT P ev o c m=JaT P ev' o c m:=by
 have hf:=Jfu (P:=P) (m:=m) (o:=o) (by rw [hop];intro cs b;simp) h
 rw [hop] at h;simp only [Op.operands,Call.operands] at h;unfold JaT;rw [hf];cases hc:c.callee with
 | value f=>
  rw [hc] at h;dsimp only at h ⊢;rw [h f (by simp),Array.map_congr_left (f:=ev) (g:=ev') (xs:=c.args) fun x hx=>h x (by simp [hx])]
 | invoke r n=>
  rw [hc] at h;dsimp only at h ⊢;rw [h r (by simp),Array.map_congr_left (f:=ev) (g:=ev') (xs:=c.args) fun x hx=>h x (by simp [hx])]
 | builtin b=>
  rw [hc] at h;have h0 : ∀i:Nat,(c.args[i]?).map ev=(c.args[i]?).map ev':=by
   intro i;cases hi:c.args[i]? with
   | none=>rfl
   | some x=>simp only [JU];rw [h x (by simp [J2 hi])]
  cases b <;> simp only [h0]
theorem Ji5 {m:M} {c:Call} (hop:o.op = .defer c) (h : ∀x∈o.op.operands,ev x=ev' x):Jfw ev c m=Jfw ev' c m:=by
 rw [hop] at h;simp only [Op.operands,Call.operands] at h;unfold Jfw;cases hc:c.callee with
 | value f=>
  rw [hc] at h;dsimp only at h ⊢;rw [h f (by simp),Array.map_congr_left (f:=ev) (g:=ev') (xs:=c.args) fun x hx=>h x (by simp [hx])]
 | _=>rfl
theorem Jfq {m:M} (h : ∀x∈o.op.operands,ev x=ev' x):iop P ev o m=iop P ev' o m:=by
 have hf:(∀cs b,o.op ≠ .select cs b)→QT P ev o m=QT P ev' o m:=fun hs=>Jfu hs h
 unfold iop;cases hop:o.op
 case call c=>exact JkS hop h
 case defer c=>exact Ji5 hop h
 all_goals rw [hop] at h hf
 all_goals simp only [Op.operands] at h
 all_goals try rw [hf (by intro cs b;simp)]
 all_goals dsimp only
 case build t ps=>rw [Jfd fun x hx=>h x (by simpa using hx)]
 case buildSlice t n ps=>rw [Jfd fun x hx=>h x (by simpa using hx)]
 case makeFunc fn first captured=>
  rw [Array.map_congr_left (f:=ev) (g:=ev') (xs:=first) fun x hx=>h x (by simp [hx]),Array.map_congr_left (f:=ev) (g:=ev') (xs:=captured) fun x hx=>h x (by simp [hx])]
 case makeMap t q=>cases q <;> simp_all
 case slice t x lo hi mx=>cases lo <;> cases hi <;> cases mx <;> simp_all
 case binOp op t x y u=>
  have h1:=h x (by simp);have h2:=h y (by simp);cases op <;> simp only [h1,h2]
 case convert s d x=>
  have h1:=h x (by simp);unfold Q9;rw [h1,hf (by intro cs b;simp)]
 all_goals (first | rfl | (simp_all;done))
theorem JcO (h : ∀x∈o.op.operands,ev x=ev' x):Jah ev o=Jah ev' o:=by
 unfold Jah;cases hop:o.op <;> rw [hop] at h <;> simp only [Op.operands] at h
 case load t a=>dsimp only;rw [h a (by simp)]
 case slice t x lo hi mx=>dsimp only;rw [h x (by simp)]
 case convert s d x=>dsimp only;rw [h x (by simp)]
 case lookup t x q ok=>dsimp only;rw [h x (by simp)]
theorem JmR {av:List Nat} {t:Tr} (h : ∀x∈o.op.operands,ev x=ev' x):JjJ av ev o t=JjJ av ev' o t:=by
 unfold JjJ;cases hop:o.op <;> rw [hop] at h <;> simp only [Op.operands] at h
 case store t a x=>dsimp only;rw [h a (by simp)]
theorem JiS {C:JbL} {av:List Nat} {n0 β k:Nat} {fl wd:Bool} {t:Tr} (h : ∀x∈o.op.operands,ev x=ev' x):opD P C av n0 β fl wd o ev k t=opD P C av n0 β fl wd o ev' k t:=by
 unfold opD JbX;rw [JcO h,Jfq h,JmR h]
theorem Xq {m:M} {r:Res} (h:QT P ev o m=some r) : ∃v,r = .val v m ∧ ∀m2,QT P ev o m2=some (.val v m2):=Ji8 h
theorem Jh6 {f:M→Option Value} {m:M} {r:Res} (h:(f m).map (fun v=>Res.val v m)=some r) (hf : ∀m2,f m2=f m) : ∃v,r = .val v m ∧ ∀m2,(f m2).map (fun v=>Res.val v m2)=some (.val v m2):=by
 simp only [Ja] at h;obtain ⟨v,h1,rfl⟩:=h;exact ⟨v,rfl,fun m2=>by rw [hf,h1];rfl⟩
theorem Jur {m:M} {r:Res} (hk:JS P o = .p) (h:iop P ev o m=some r) : ∃v,r = .val v m ∧ ∀m2,iop P ev o m2=some (.val v m2):=by
 unfold JS at hk;unfold iop at h ⊢;cases hop:o.op <;> rw [hop] at hk h <;> dsimp only at hk h ⊢ <;> first | (cases hk;done) | skip
 case move x=>cases h;exact ⟨_,rfl,fun _=>rfl⟩
 case assign x=>cases h;exact ⟨_,rfl,fun _=>rfl⟩
 case pick c a b=>
  split at h
  ·cases h;exact ⟨_,rfl,fun _=>rfl⟩
  ·cases h
 case build t ps=>
  simp only [Jp] at h;obtain ⟨v,hb,h⟩:=h;split at h
  ·cases h;exact ⟨_,rfl,fun _=>by rw [hb];rfl⟩
  ·cases h
 case nilCheck x=>
  split at h
  ·cases h
  ·cases h
  ·cases h
  ·cases h
  ·cases h;exact ⟨_,rfl,fun _=>rfl⟩
 case binOp op t x y u=>
  cases op <;> dsimp only at h ⊢
  case eql=>
   split at h
   ·cases h;exact ⟨_,rfl,fun _=>rfl⟩
   ·exact Xq h
  case neq=>
   split at h
   ·cases h;exact ⟨_,rfl,fun _=>rfl⟩
   ·exact Xq h
  all_goals exact Xq h
 case unOp=>exact Xq h
 case convert s d x=>
  unfold Q9 at h ⊢;split at h
  ·exfalso;simp [*] at hk
  ·exfalso;simp [*] at hk
  ·exfalso;simp [*] at hk
  ·exact Xq h
 case makeInterface t x=>
  split at h
  ·cases h
  ·cases h
  ·cases h;exact ⟨_,rfl,fun _=>rfl⟩
 case makeFunc=>
  split at h
  ·rename_i q;cases h;exact ⟨_,rfl,fun _=>by rw [Jf q]⟩
  ·cases h
 case fieldAddr=>exact Jh6 (f:=fun _=>Q1 P _ _ _) h fun _=>rfl
 case field=>exact Jh6 (f:=fun _=>Jfv P _ _ _) h fun _=>rfl
 case indexAddr=>exact Jh6 (f:=fun _=>Ql P _ _ _) h fun _=>rfl
 case index=>exact Jh6 (f:=fun _=>Jft P _ _ _) h fun _=>rfl
 case typeAssert x t t2 ok=>
  split at h
  ·cases h
  ·split at h
   ·rename_i q;cases h;exact ⟨_,rfl,fun _=>by rw [Jf q]⟩
   ·rename_i q;split at h
    ·rename_i q2;simp only [Ja] at h;obtain ⟨z,hz,rfl⟩:=h;exact ⟨_,rfl,fun _=>by rw [Jd q,Jf q2,hz];rfl⟩
    ·cases h
  ·split at h
   ·rename_i q2;simp only [Ja] at h;obtain ⟨z,hz,rfl⟩:=h;exact ⟨_,rfl,fun _=>by rw [Jf q2,hz];rfl⟩
   ·cases h
  ·cases h
 case extract x ix=>
  split at h
  ·simp only [Ja] at h;obtain ⟨z,hz,rfl⟩:=h;exact ⟨_,rfl,fun _=>by rw [hz];rfl⟩
  ·cases h
 case call c=>
  unfold JaT at h ⊢;split at hk
  ·rename_i hc;simp only [hc] at h ⊢;split at h
   ·cases h;exact ⟨_,rfl,fun _=>rfl⟩
   ·exact Xq h
  ·rename_i hc;simp only [hc] at h ⊢;exact Xq h
  ·rename_i hc;simp only [hc] at h ⊢;exact Xq h
  ·cases hk
theorem JnM {m m2:M} {i:Nat} {b:Blk} (hl:m2.look i=m.look i) (h:m.alive i=some b) : ∃b2,m2.alive i=some b2∧b2.obj=b.obj∧b2.ro=b.ro:=by
 unfold M.look at hl;rw [h] at hl;cases h2:m2.alive i with
 | none=>rw [h2] at hl;cases hl
 | some b2=>
  rw [h2] at hl;simp only [JU,Jg,Jm] at hl;exact ⟨b2,rfl,hl.1,hl.2⟩
theorem Jnm {m m2 : M} {t : TypeId} {x v : Value} {lo hi mx : Option Value} (hrow : ∀ q n c, x = .slice (some q) n c → c ≠ 0 → m2.row q.block = m.row q.block) (h : QD P t x lo hi mx m = some v) : QD P t x lo hi mx m2 = some v := by
 unfold QD at h ⊢;split at h
 ·rename_i a len cap h1;split at h
  ·rename_i h2 h3;split at h
   ·cases h
   ·rename_i h4;rw [Jd h4];split at h
    ·rename_i h5;split at h
     ·rename_i h6;split at h
      ·rename_i h7;rw [Jf h7];split at h
       ·exact h
       ·split at h
        ·rename_i hc0;rw [Jf hc0];exact h
        ·rename_i hc0;have:=hrow _ _ _ rfl hc0
         dsimp only at this;rw [Jd hc0];split at h
         ·rename_i hr;rw [this,hr];exact h
         ·cases h
      ·cases h
     ·cases h
    ·cases h
  ·cases h
 ·cases h
theorem Jnf {m m2:M} {i:Nat} (h:m2.look i=m.look i):m2.mapOf i=m.mapOf i:=by
 unfold M.look at h;unfold M.mapOf;cases h1:m2.alive i with
 | none=>
  rw [h1] at h;cases h2:m.alive i with
  | none=>rfl
  | some b=>rw [h2] at h;cases h
 | some b1=>
  rw [h1] at h;cases h2:m.alive i with
  | none=>rw [h2] at h;cases h
  | some b2=>
   rw [h2] at h;simp only [JU,Jg,Jm] at h;dsimp only;rw [h.1]
theorem iop_l {m : M} {r : Res} (hk : JS P o = .l) (h : iop P ev o m = some r) : ∃ v, r = .val v m ∧ ∀ m2, (∀ i, Jah ev o = some i → m2.look i = m.look i) → iop P ev o m2 = some (.val v m2) := by
 unfold JS at hk;unfold iop Jah at *;cases hop:o.op <;> rw [hop] at hk h <;> dsimp only at hk h ⊢ <;> first | (cases hk;done) | skip
 case load t a=>
  simp only [Ja] at h;obtain ⟨v,h1,rfl⟩:=h;refine ⟨v,rfl,fun m2 hl => ?_⟩;have:Ja5 P t (ev a) m2=some v:=by
   unfold Ja5 at h1 ⊢;split at h1
   ·rename_i i off ha;rw [ha] at hl;have hr:=JeC (hl i rfl);split at h1
    ·unfold M.cells at h1 ⊢;rw [hr];exact h1
    ·unfold M.cell at h1 ⊢;rw [hr];exact h1
    ·cases h1
   ·cases h1
  rw [this];rfl
 case lookup t x q ok=>
  simp only [Ja] at h;obtain ⟨v,h1,rfl⟩:=h;refine ⟨v,rfl,fun m2 hl => ?_⟩;have:Q8 P t (ev x) (ev q) ok m2=some v:=by
   unfold Q8 at h1 ⊢;split at h1
   ·exact h1
   ·rename_i d e i _ hx;rw [hx] at hl;simp only [Jnf (hl i rfl)];exact h1
   ·cases h1
  rw [this];rfl
 case slice t x lo hi mx=>
  split at h
  ·rename_i v hv;cases h;refine ⟨v,rfl,fun m2 hl => ?_⟩;have:QD P t (ev x) (lo.map ev) (hi.map ev) (mx.map ev) m2=some v:=by
    refine Jnm (fun q n c hx hc => ?_) hv;rw [hx] at hl;dsimp only at hl;rw [Jd hc] at hl;exact JeC (hl q.block rfl)
   rw [this]
  ·rename_i hv;have hfl:=h;obtain ⟨v,rfl,h2⟩:=Xq h;refine ⟨v,rfl,fun m2 hl => ?_⟩;unfold QT at hfl;split at hfl
   ·rename_i hq;unfold XW at hq;rw [Array.all_eq_true'] at hq;rw [Jfl m _ (hq _ (by rw [hop];simp [Op.operands])),hv]
    exact h2 m2
   ·cases hfl
 case convert s d x =>
  unfold Q9 at h ⊢;split at h
  ·exfalso;simp [*] at hk
  ·split at h
   ·rename_i h1;simp only [Ja] at h;obtain ⟨v, hv, rfl⟩ := h;refine ⟨v, rfl, fun m2 hl => ?_⟩;have : QO (ev x) m2 = some v := by
     unfold QO at hv ⊢;split at hv
     ·exact hv
     ·rename_i i off sp n c hx;rw [hx] at hl;dsimp only at hl;by_cases hz : n = 0 ∧ c = 0
      ·obtain ⟨rfl, rfl⟩ := hz;have key : ∀ (m' : M) (z : Value), (match m'.cells i off 0 with
         | some cs=>match JbI cs.toList with
          | some l=>some (Value.string ⟨l.toArray⟩)
          | none=>none
         | none=>if 0=0 then some (Value.string .empty) else none)=some z→z = .string .empty:=by
        intro m' z hz;cases hq:m'.cells i off 0 with
        | none=>rw [hq] at hz;cases hz;rfl
        | some cs=>
         have:cs = #[]:=by
          unfold M.cells at hq;split at hq
          ·split at hq
           ·cases hq;simp;omega
           ·cases hq
          ·cases hq
         subst this;rw [hq] at hz;cases hz;rfl
       have key2 : ∀ m' : M, (match m'.cells i off 0 with
         | some cs=>match JbI cs.toList with
          | some l=>some (Value.string ⟨l.toArray⟩)
          | none=>none
         | none=>if 0=0 then some (Value.string .empty) else none)=some (Value.string .empty):=by
        intro m';cases hq:m'.cells i off 0 with
        | none=>rfl
        | some cs=>
         have:cs = #[]:=by
          unfold M.cells at hq;split at hq
          ·split at hq
           ·cases hq;simp;omega
           ·cases hq
          ·cases hq
         subst this;rfl
       have:=key m _ hv
       subst this;exact key2 m2
      ·rw [Jd hz] at hl;have hr:=JeC (hl i rfl);unfold M.cells at hv ⊢;rw [hr];exact hv
     ·cases hv
    simp only [h1,this,JU]
   ·cases h
  ·rename_i a n c hs hd hx;rw [hx];split at h
   ·rename_i bb h1 h2 h3;split at h
    ·rename_i c1 e1 fr ho;split at h
     ·cases h
     ·rename_i h5;cases h;refine ⟨_,rfl,fun m2 hl => ?_⟩;have hz : ¬(n=0∧c=0):=fun hz=>h5 (.inr (.inl hz.2))
      simp only [hx] at hl;rw [Jd hz] at hl;obtain ⟨b2,g1,g2,g3⟩:=JnM (hl _ rfl) h3;simp only [h1,h2,g1,g2,ho,g3];rw [Jd h5]
    ·cases h
   ·cases h
  ·obtain ⟨v,rfl,h2⟩:=Xq h;exact ⟨v,rfl,fun m2 _=>h2 m2⟩
 case call c=>
  split at hk <;> cases hk
def Draws (P:Program) (ev:Operand→Value) (o:Oper) (m:M) (r:Res):Prop:=
 (∃v,r = .val v m ∧ ∀m2,iop P ev o m2=some (.val v m2)) ∨
 (∃v obj,r = .val v (m.mk1 obj)∧m.get m.nxt=none ∧ ∀m2:M,m2.nxt=m.nxt→m2.get m.nxt=none→iop P ev o m2=some (.val v (m2.mk1 obj)))
theorem Jb6 {m m1:M} {c:Array Value} {e:TypeId} {a:Addr} (h:m.new c e=some (a,m1)):m1=m.mk1 (.cells c e)∧m.get m.nxt=none ∧ ∀m2:M,m2.nxt=m.nxt→m2.get m.nxt=none→m2.new c e=some (a,m2.mk1 (.cells c e)):=by
 obtain ⟨_,h1,h2,h3⟩:=JaP h;refine ⟨h1,h2,fun m2 hn hg => ?_⟩;unfold M.new;rw [hn,hg,h3]
theorem iop_a {m : M} {r : Res} (hk : JS P o = .a) (h : iop P ev o m = some r) : Draws P ev o m r := by
 unfold JS at hk;unfold Draws;unfold iop at *;cases hop:o.op <;> rw [hop] at hk h <;> dsimp only at hk h ⊢ <;> first | (cases hk;done) | skip
 case alloc t=>
  split at h
  ·rename_i z hz;simp only [Ja] at h;obtain ⟨⟨a,m1⟩,hn,rfl⟩:=h;obtain ⟨rfl,h2,h3⟩:=Jb6 hn;exact .inr ⟨_,_,rfl,h2,fun m2 k1 k2=>by rw [h3 m2 k1 k2];rfl⟩
  ·cases h
 case box t x=>
  simp only [Ja] at h;obtain ⟨⟨a,m1⟩,hn,rfl⟩:=h;obtain ⟨rfl,h2,h3⟩:=Jb6 hn;exact .inr ⟨_,_,rfl,h2,fun m2 k1 k2=>by rw [h3 m2 k1 k2];rfl⟩
 case buildSlice t n ps =>
  simp only [Ja] at h;obtain ⟨⟨a,m1⟩,hb,rfl⟩:=h;unfold XB at hb ⊢;split at hb
  ·split at hb
   ·split at hb
    ·rename_i g1;split at hb
     ·rename_i g2;split at hb
      ·rename_i a m2 hn;split at hb
       ·rename_i g3;cases hb;obtain ⟨rfl,h2,h3⟩:=Jb6 hn;refine .inr ⟨_,_,rfl,h2,fun m2 k1 k2 => ?_⟩;rw [Jf g1,h3 m2 k1 k2];dsimp only;rw [Jf g3];rfl
       ·cases hb
      ·cases hb
     ·cases hb
    ·cases hb
   ·cases hb
  ·cases hb
 case makeSlice t l c =>
  simp only [Ja] at h;obtain ⟨⟨a,m1⟩,hb,rfl⟩:=h;unfold Xn at hb ⊢;split at hb
  ·split at hb
   ·split at hb
    ·rename_i g1;split at hb
     ·rename_i a m2 hn;cases hb;obtain ⟨rfl,h2,h3⟩:=Jb6 hn;refine .inr ⟨_,_,rfl,h2,fun m2 k1 k2 => ?_⟩;rw [Jf g1,h3 m2 k1 k2];rfl
     ·cases hb
    ·cases hb
   ·cases hb
  ·cases hb
 case convert s d x =>
  unfold Q9 at h ⊢;split at h
  ·split at h
   ·rename_i g1;split at h
    ·rename_i g2;simp only [Ja] at h;obtain ⟨⟨v,m1⟩,hb,rfl⟩:=h;unfold Jav at hb;split at hb
     ·rename_i hn;cases hb;obtain ⟨rfl,h2,h3⟩:=Jb6 hn;refine .inr ⟨_,_,rfl,h2,fun m2 k1 k2 => ?_⟩;simp only [g1];rw [Jf g2];unfold Jav;rw [h3 m2 k1 k2];rfl
     ·cases hb
    ·cases h
   ·cases h
  ·exfalso;simp [*] at hk
  ·exfalso;simp [*] at hk
  ·obtain ⟨v,rfl,h2⟩:=Xq h;exact .inl ⟨v,rfl,h2⟩
 case call c=>
  split at hk <;> cases hk
variable {C:JbL} {av:List Nat} {n0 β:Nat} {fl wd:Bool}
def lookT (t:Tr) (i:Nat):Option (Obj × Bool):=(⟨t,0,0⟩:M).look i
theorem Jhj {ev:Operand→Value} {o:Oper} {t t2:Tr} (hk:JS P o ≠ .s):JjJ av ev o t=JjJ av ev o t2:=by
 unfold JjJ;cases hop:o.op <;> first | rfl | skip
 case store t a x=>exact absurd (by unfold JS;rw [hop]) hk
theorem JoV {k e : Nat} {t t' : Tr} {v : Value} (hk : wd = true → JS P o = .p) (h : opD P C av n0 β fl wd o ev k t = some (v, t', e)) :
  t'=t∧e=k ∧ ∀t2 k2,opD P C av n0 β fl wd o ev k2 t2=some (v,t2,k2):=by
 unfold opD at h ⊢;split at h
 ·rename_i hw;split at h
  ·rename_i hok;cases hi:iop P ev o ⟨t,k,if fl then k else β⟩ with
   | none=>rw [hi] at h;cases h
   | some r=>
    obtain ⟨v2,rfl,h2⟩:=Jur (hk hw) hi;rw [hi] at h;cases h;exact ⟨rfl,rfl,fun t2 k2=>by rw [Jf hw,Jf (by rw [Jhj (P:=P) (t2:=t) (by rw [hk hw];intro q;cases q)];exact hok),h2]⟩
  ·cases h
 ·rename_i hw;cases h;exact ⟨rfl,rfl,fun t2 k2=>by rw [Jd hw]⟩
theorem Jre {k e : Nat} {t t' : Tr} {v : Value} (hk : JS P o = .l) (h : opD P C av n0 β fl wd o ev k t = some (v, t', e)) :
  t'=t∧e=k ∧ ∀t2 k2,(∀i,(fl=true→i<n0)→Jah ev o=some i→lookT t2 i=lookT t i)→opD P C av n0 β fl wd o ev k2 t2=some (v,t2,k2):=by
 unfold opD at h ⊢;split at h
 ·rename_i hw;split at h
  ·rename_i hok;cases hi:iop P ev o ⟨t,k,if fl then k else β⟩ with
   | none=>rw [hi] at h;cases h
   | some r=>
    obtain ⟨v2,rfl,h2⟩:=iop_l hk hi;rw [hi] at h;cases h;refine ⟨rfl,rfl,fun t2 k2 hl => ?_⟩;rw [Jf hw,Jf (by rw [Jhj (P:=P) (t2:=t) (by rw [hk];intro q;cases q)];exact hok),h2 ⟨t2,k2,_⟩ fun i hti => ?_]
    refine hl i (fun hfl => ?_) hti;simp only [Jh,Bool.or_eq_true,Bool.not_eq_true',hfl,Bool.true_eq_false,false_or] at hok;have:=hok.1.2
    unfold JbX at this;rw [hti] at this;simpa using this
  ·cases h
 ·rename_i hw;cases h;exact ⟨rfl,rfl,fun t2 k2 _=>by rw [Jd hw]⟩
theorem opD_a {k e : Nat} {t t' : Tr} {v : Value} (hk : JS P o = .a) (h : opD P C av n0 β fl wd o ev k t = some (v, t', e)) :
  (t'=t∧e=k ∧ ∀t2 k2,opD P C av n0 β fl wd o ev k2 t2=some (v,t2,k2)) ∨
  (∃b,t'=t.put k b∧e=k+1∧t.get (k+1) k=none ∧ ∀t2:Tr,t2.get (k+1) k=none→opD P C av n0 β fl wd o ev k t2=some (v,t2.put k b,k+1)):=by
 unfold opD at h ⊢;split at h
 ·rename_i hw;split at h
  ·rename_i hok;cases hi:iop P ev o ⟨t,k,if fl then k else β⟩ with
   | none=>rw [hi] at h;cases h
   | some r=>
    rw [hi] at h;rcases iop_a hk hi with ⟨v2,rfl,h2⟩|⟨v2,obj,rfl,h1,h2⟩
    ·cases h;exact .inl ⟨rfl,rfl,fun t2 k2=>by rw [Jf hw,Jf (by rw [Jhj (P:=P) (t2:=t) (by rw [hk];intro q;cases q)];exact hok),h2]⟩
    ·cases h;refine .inr ⟨{ obj,root:=k },rfl,rfl,h1,fun t2 hg => ?_⟩;rw [Jf hw,Jf (by rw [Jhj (P:=P) (t2:=t) (by rw [hk];intro q;cases q)];exact hok),h2 ⟨t2,k,_⟩ rfl hg]
     rfl
  ·cases h
 ·rename_i hw;cases h;exact .inl ⟨rfl,rfl,fun t2 k2=>by rw [Jd hw]⟩
theorem Jo4 {t:Tr} {k i:Nat} {b:Blk} (hw:Wf ⟨t,0,0⟩) (hi:i<k):lookT (t.put k b) i=lookT t i:=by
 refine JdR (m:=⟨t,0,0⟩) (m':=⟨t.put k b,0,0⟩) ?_ fun y hy => ?_
 ·change ((⟨t,0,0⟩:M).set k b).get i=_
  rw [M.get_set,Jd (by omega)]
 ·obtain ⟨hle,rb,hrb⟩:=hw i y hy;refine ⟨rb,rb,hrb, ?_,rfl⟩
  change ((⟨t,0,0⟩:M).set k b).get y.root=_
  rw [M.get_set,Jd (by omega)];exact hrb
theorem Fr.lookT {t t':Tr} {k e γ i:Nat} (h:Fr ⟨t,k,γ⟩ ⟨t',e,γ⟩) (hw:Wf ⟨t,0,0⟩) (hk:γ≤k) (hi:i<γ):lookT t' i=lookT t i:=h.look hw hk i hi
theorem JmM {k e : Nat} {t t' : Tr} {v : Value} (hwf : Wf ⟨t, 0, 0⟩) (hk : JS P o = .s) (hav : av.isEmpty = false) (h : opD P C av n0 β fl wd o ev k t = some (v, t', e)) {i : Nat} (hi : av.contains i = true) : lookT t' i = lookT t i := by
 obtain ⟨tt,a,x,hop⟩ : ∃tt a x,o.op = .store tt a x:=by
  unfold JS at hk;split at hk <;> first | (cases hk;done) | skip
  all_goals first | exact ⟨_,_,_,by assumption⟩ | (split at hk <;> first | (cases hk;done) | (split at hk <;> cases hk))
 unfold opD at h;split at h
 ·split at h
  ·rename_i hok;rw [Jh] at hok;have hs := hok.2;unfold JjJ at hs;rw [hav, hop] at hs;simp only [Bool.false_or] at hs;generalize hmm : (⟨t, k, if fl then k else β⟩ : M) = mm at h;have hget : ∀ q, mm.get q = (⟨t, 0, 0⟩ : M).get q := fun q => by rw [← hmm];rfl
   have htr : ∀q y,(mm.set q y).tr=((⟨t,0,0⟩:M).set q y).tr:=fun q y=>by rw [←hmm];rfl
   unfold iop at h;rw [hop] at h;dsimp only at h;split at hs
   ·rename_i q hq;simp only [Jh, Bool.not_eq_true'] at hs;have hne : q.block ≠ i := fun e => by rw [e, hi] at hs;cases hs.1
    unfold JmU at hs;split at hs
    ·rename_i y hy;have hroot : y.root = q.block := Jr hs.2;cases hst : XO P tt (ev a) (ev x) mm with
     | none=>rw [hst] at h;cases h
     | some m1 =>
      rw [hst] at h;simp only [JU] at h;cases h;rw [hq] at hst;unfold XO at hst;split at hst
      ·rename_i i0 o0 ti he _;cases he;split at hst
       ·unfold M.store at hst;split at hst
        ·rename_i b hb;have hgb : (⟨t, 0, 0⟩ : M).get i0 = some b := by rw [← hget];exact JO hb
         have hyb:y=b:=by
          have hy':(⟨t,0,0⟩:M).get i0=some y:=hy
          rw [hy'] at hgb;cases hgb;rfl
         subst hyb;split at hst
         ·split at hst
          ·cases hst;have hroot' : y.root = i0 := hroot
           unfold M.put;rw [Jf hroot',htr];refine JdR (m:=⟨t,0,0⟩) (m':=⟨_,0,0⟩) ?_ fun z hz => ?_
           ·change ((⟨t,0,0⟩:M).set i0 _).get i=_
            rw [M.get_set,Jd hne]
           ·obtain ⟨_,r,hr⟩:=hwf i z hz;refine ⟨r, ?_⟩;by_cases hz0:i0=z.root
            ·rw [←hz0,hgb] at hr;cases hr;have hsame : ∀w,(∃r',(⟨((⟨t,0,0⟩:M).set i0 w).tr,0,0⟩:M).get z.root=some r'∧r'.dead=w.dead):=fun w=>by
              refine ⟨w, ?_,rfl⟩
              change ((⟨t,0,0⟩:M).set i0 w).get z.root=_
              rw [M.get_set,Jf hz0]
             obtain ⟨r',h1,h2⟩:=hsame _;exact ⟨r',by rw [←hz0];exact hgb,h1,h2⟩
            ·refine ⟨r,hr, ?_,rfl⟩
             change ((⟨t,0,0⟩:M).set i0 _).get z.root=_
             rw [M.get_set,Jd hz0];exact hr
          ·cases hst
         ·cases hst
        ·cases hst
       ·cases hst
      ·cases hst
    ·cases hs.2
   ·cases hs
  ·cases h
 ·cases h;rfl
theorem Jrd (hC:Jd2 C) {ox oy:Oper} {evx evy:Operand→Value} {wx wy flx fly:Bool} {avx avy:List Nat} {limx limy kx ky ex ey:Nat} {t t1 t2:Tr} {vx vy:Value}
  (hx:opD P C avx limx β flx wx ox evx kx t=some (vx,t1,ex)) (hy:opD P C avy limy β fly wy oy evy ky t1=some (vy,t2,ey)) (hwf:Wf ⟨t,0,0⟩) (hle:ex≤ky)
  (hlx:JS P ox = .l→limx≤kx) (hly:Jet (JS P oy) (JS P ox)=true→JS P oy = .l→limy≤kx)
  (hkinds:JhF (JS P ox) (JS P oy)=true) (hflx:Jet (JS P ox) (JS P oy)=true→flx=true) (hfly:Jet (JS P oy) (JS P ox)=true→fly=true) (hav:wx=true→JS P ox = .l→JS P oy = .s → ∀i,Jah evx ox=some i→avy.contains i=true) :
  ∃t1',opD P C avy limy β fly wy oy evy ky t=some (vy,t1',ey)∧opD P C avx limx β flx wx ox evx kx t1'=some (vx,t2,ex):=by
 have gx:=Jdb hC hx;have gy:=Jdb hC hy;have hn2:kx≤ky:=by have:kx≤ex:=gx.1.nxt;omega
 cases hky:JS P oy with
 | p=>
  obtain ⟨rfl,rfl,h⟩:=JoV (fun _=>hky) hy;exact ⟨t,h _ _,hx⟩
 | a=>
  rcases opD_a hky hy with ⟨rfl,rfl,h⟩|⟨b,rfl,rfl,hg,h⟩
  ·exact ⟨t,h _ _,hx⟩
  ·exact ⟨t.put ky b,h t (gx.1.dom ky hg),gx.2 ky b hg hle⟩
 | l=>
  obtain ⟨rfl,rfl,h⟩:=Jre hky hy;refine ⟨t,h t _ fun i hi hti => ?_,hx⟩;cases hkx:JS P ox with
  | p=>obtain ⟨rfl,_⟩:=JoV (fun _=>hkx) hx;rfl
  | l=>obtain ⟨rfl,_⟩:=Jre hkx hx;rfl
  | a=>
   have hin:=hi (hfly (by rw [hky,hkx];rfl))
   have hl:=hly (by rw [hky,hkx];rfl) hky
   rcases opD_a hkx hx with ⟨rfl,rfl,_⟩|⟨b,rfl,rfl,hg,_⟩
   ·rfl
   ·exact (Jo4 hwf (by omega)).symm
  | x=>
   have hin:=hi (hfly (by rw [hky,hkx];rfl))
   have hl:=hly (by rw [hky,hkx];rfl) hky
   have hf:=hflx (by rw [hky,hkx];rfl)
   subst hf;exact (gx.1.lookT hwf (by simp) (by simp;omega)).symm
  | s=>rw [hky,hkx] at hkinds;cases hkinds
 | s=>
  rw [hky] at hkinds;cases wx with
  | false=>
   obtain ⟨rfl,rfl,h⟩:=JoV (P:=P) (fun q=>by cases q) hx;exact ⟨t2,hy,h _ _⟩
  | true=>
  cases hkx:JS P ox with
  | p=>
   obtain ⟨rfl,rfl,h⟩:=JoV (fun _=>hkx) hx;exact ⟨t2,hy,h _ _⟩
  | l=>
   obtain ⟨rfl,rfl,h⟩:=Jre hkx hx;refine ⟨t2,hy,h _ _ fun i hi hti => ?_⟩;have hc:=hav rfl hkx hky i hti;exact JmM hwf hky (by cases avy with | nil=>cases hc | cons=>rfl) hy hc
  | a=>rw [hkx] at hkinds;cases hkinds
  | x=>rw [hkx] at hkinds;cases hkinds
  | s=>rw [hkx] at hkinds;cases hkinds
 | x=>
  rw [hky] at hkinds hflx hfly;cases hkx:JS P ox with
  | p=>
   obtain ⟨rfl,rfl,h⟩:=JoV (fun _=>hkx) hx;exact ⟨t2,hy,h _ _⟩
  | l=>
   obtain ⟨rfl,rfl,h⟩:=Jre hkx hx;refine ⟨t2,hy,h _ _ fun i hi hti => ?_⟩;have hin:=hi (hflx (by rw [hkx];rfl))
   have hl:=hlx hkx;have hf:=hfly (by rw [hkx];rfl)
   subst hf;exact gy.1.lookT hwf (by simp) (by simp;omega)
  | a=>rw [hkx] at hkinds;cases hkinds
  | x=>rw [hkx] at hkinds;cases hkinds
  | s=>rw [hkx] at hkinds;cases hkinds
section seq
variable {ops:Array Oper} {fls:Nat→Bool} {st en lim:Nat→Nat} {tb:Nat→Option Nat} {avs:Nat→List Nat}
def Jc9 (P:Program) (C:JbL) (ops:Array Oper) (β:Nat) (fls:Nat→Bool) (tb:Nat→Option Nat) (avs:Nat→List Nat) (lim st en:Nat→Nat) (i:Nat) (a:Act) (t:Tr):Option (Act × Tr):=
 match ops[i]? with
 | none=>none
 | some o=>match opD P C (avs i) (lim i) β (fls i) (Region.wanted o (yielded ops a.tmps)) o a.eval (st i) t with
  | some (v,t1,e)=>if e=en i∧JcD ops a o=tb i then some (a.put o.dst v,t1) else none
  | none=>none
def Jlz (P:Program) (C:JbL) (ops:Array Oper) (β:Nat) (fls:Nat→Bool) (tb:Nat→Option Nat) (avs:Nat→List Nat) (lim st en:Nat→Nat):List Nat→Act→Tr→Option (Act × Tr)
 | [],a,t=>some (a,t)
 | i::l,a,t=>match Jc9 P C ops β fls tb avs lim st en i a t with
  | some (a1,t1)=>Jlz P C ops β fls tb avs lim st en l a1 t1
  | none=>none
theorem Jco {i:Nat} {a a1:Act} {t t1:Tr} (h:Jc9 P C ops β fls tb avs lim st en i a t=some (a1,t1)) :
  ∃o v,ops[i]? = some o∧opD P C (avs i) (lim i) β (fls i) (Region.wanted o (yielded ops a.tmps)) o a.eval (st i) t=some (v,t1,en i)∧a1=a.put o.dst v∧JcD ops a o=tb i:=by
 unfold Jc9 at h;split at h
 ·cases h
 ·rename_i o ho;split at h
  ·rename_i v t2 e hd;split at h
   ·rename_i he;cases h;exact ⟨o,v,ho,by rw [hd,he.1],rfl,he.2⟩
   ·cases h
  ·cases h
theorem Jhi {i:Nat} {a:Act} {t t1:Tr} {o:Oper} {v:Value} (ho:ops[i]? = some o) (h:opD P C (avs i) (lim i) β (fls i) (Region.wanted o (yielded ops a.tmps)) o a.eval (st i) t=some (v,t1,en i)) (htw:JcD ops a o=tb i) :
  Jc9 P C ops β fls tb avs lim st en i a t=some (a.put o.dst v,t1):=by
 unfold Jc9;rw [ho];dsimp only;rw [h];dsimp only;rw [Jf ⟨rfl,htw⟩]
structure Sw (P:Program) (ops:Array Oper) (fls:Nat→Bool) (tb:Nat→Option Nat) (avs:Nat→List Nat) (lim st en:Nat→Nat) (i j:Nat):Prop where
 op : ∀x y,ops[i]? = some x→ops[j]? = some y→x.apart ops y=true∧JhF (JS P x) (JS P y)=true∧(Jet (JS P x) (JS P y)=true→fls i=true)∧(Jet (JS P y) (JS P x)=true→fls j=true)
 le:en i≤st j
 limx : ∀x,ops[i]? = some x→JS P x = .l→lim i≤st i
 limy : ∀x y,ops[i]? = some x→ops[j]? = some y→Jet (JS P y) (JS P x)=true→JS P y = .l→lim j≤st i
 av : ∀x y,ops[i]? = some x→ops[j]? = some y→JS P x = .l→JS P y = .s → ∀b,tb i=some b→(avs j).contains b=true
theorem eval_put (o:Oper) (a:Act) (dst:Option Tmp) (v:Value) (h : ∀d,dst=some d→d∉o.looksAt ops) : ∀x∈o.op.operands,(a.put dst v).eval x=a.eval x:=
 fun x hx=>Act.eval_put fun d hd hxd=>h d hd (by
  subst hxd;exact List.mem_append_left _ (List.mem_filterMap.2 ⟨.tmp d,by simpa using hx,rfl⟩))
theorem JmN (hC:Jd2 C) {i j:Nat} (hs:Sw P ops fls tb avs lim st en i j) {a a1 a2:Act} {t t1 t2:Tr} (hwf:Wf ⟨t,0,0⟩)
  (h1:Jc9 P C ops β fls tb avs lim st en i a t=some (a1,t1)) (h2:Jc9 P C ops β fls tb avs lim st en j a1 t1=some (a2,t2)) :
  ∃a1' t1',Jc9 P C ops β fls tb avs lim st en j a t=some (a1',t1')∧Jc9 P C ops β fls tb avs lim st en i a1' t1'=some (a2,t2):=by
 obtain ⟨x,vx,hx,dx,rfl,twx⟩:=Jco h1;obtain ⟨y,vy,hy,dy,rfl,twy⟩:=Jco h2;obtain ⟨hap,hk,f1,f2⟩:=hs.op x y hx hy;obtain ⟨p1,p2,p3⟩:=Oper.apart_spec hap;rw [wanted_put y a x.dst vx p1,JiS (eval_put y a x.dst vx p1)] at dy;obtain ⟨t1',e1,e2⟩:=Jrd hC dx dy hwf hs.le (hs.limx x hx) (hs.limy x y hx hy) hk f1 f2 (fun hw kx ky b hb=>hs.av x y hx hy kx ky b (by rw [←twx];unfold JcD;rw [Jf hw];exact hb))
 refine ⟨a.put y.dst vy,t1',Jhi hy e1 (by rw [←twy];unfold JcD;rw [wanted_put y a x.dst vx p1,JcO (eval_put y a x.dst vx p1)]), ?_⟩
 rw [Act.put_comm a vx vy p2];refine Jhi hx ?_ (by rw [←twx];unfold JcD;rw [wanted_put x a y.dst vy p3,JcO (eval_put x a y.dst vy p3)])
 rw [wanted_put x a y.dst vy p3,JiS (eval_put x a y.dst vy p3)];exact e2
theorem Jlu (hC:Jd2 C) {i:Nat} {a a1:Act} {t t1:Tr} (hwf:Wf ⟨t,0,0⟩) (h:Jc9 P C ops β fls tb avs lim st en i a t=some (a1,t1)):Wf ⟨t1,0,0⟩:=by
 obtain ⟨x,vx,hx,dx,rfl,_⟩:=Jco h;exact (Jdb hC dx).1.wf hwf
theorem JmT (hC:Jd2 C) {j:Nat} {r:Act × Tr} : ∀(l1 l2:List Nat) {a:Act} {t:Tr},Wf ⟨t,0,0⟩→(∀i∈l1,Sw P ops fls tb avs lim st en i j)→Jlz P C ops β fls tb avs lim st en (l1++j::l2) a t=some r →
  Jlz P C ops β fls tb avs lim st en (j::(l1++l2)) a t=some r:=by
 intro l1;induction l1 with
 | nil=>intro l2 a t _ _ h;exact h
 | cons i l1 ih=>
  intro l2 a t hwf hs h;simp only [List.cons_append,Jlz] at h;split at h
  ·rename_i a1 t1 h1;have h2:=ih l2 (Jlu hC hwf h1) (fun k hk=>hs k (by simp [hk])) h;simp only [Jlz] at h2;split at h2
   ·rename_i a2 t2 h3;obtain ⟨a1',t1',g1,g2⟩:=JmN hC (hs i (by simp)) hwf h1 h3;simp only [List.cons_append,Jlz,g1,g2];exact h2
   ·cases h2
  ·cases h
theorem JlZ {α β:Type} {f g:α→Option β} : ∀(l:List α),(∀j∈l,f j=g j)→l.filterMap f=l.filterMap g
 | [],_=>rfl
 | x::l,h=>by
  rw [List.filterMap_cons,List.filterMap_cons,h x (by simp),JlZ l fun j hj=>h j (by simp [hj])]
theorem JiC (hC : Jd2 C) {ff : Nat → Option Nat} (hff : ∀ i j, ff i = some j → j < i) {lf : Nat → List Nat} (hlf : ∀ i j, j ∈ lf i → j < i) : ∀ (l : List Nat) {ss : Nat → Nat} {tt : Nat → Option Nat} {a a1 : Act} {k k1 : Nat} {t t1 : Tr}, l.Pairwise (· < ·) → JjK P C ops β fls ff lf l ss tt a k t = some (a1, k1, t1) →
  ∃(tb:Nat→Option Nat) (avs:Nat→List Nat) (lim st en:Nat→Nat),(∀i∈l,avs i=(lf i).filterMap tb)∧(∀j,j∉l→tb j=tt j)∧Jlz P C ops β fls tb avs lim st en l a t=some (a1,t1)∧(∀i∈l,k≤st i)∧(∀i∈l,st i≤en i)∧(∀i∈l,∀j∈l,i<j→en i≤st j) ∧
   (∀i∈l,∀j,ff i=some j→(j∈l→lim i=st j)∧(j∉l→lim i=ss j))∧(∀i∈l,ff i=none→lim i=st i):=by
 intro l;induction l with
 | nil=>
  intro ss tt a a1 k k1 t t1 _ h;simp only [JjK,Jg,Jm] at h;obtain ⟨rfl,rfl,rfl⟩:=h;exact ⟨tt,fun _ => [],fun _=>0,fun _=>0,fun _=>0,fun i hi=>(by cases hi),fun _ _=>rfl,rfl,fun i hi=>(by cases hi),fun i hi=>(by cases hi),fun i hi=>(by cases hi),fun i hi=>(by cases hi),fun i hi=>(by cases hi)⟩
 | cons i l ih =>
  intro ss tt a a1 k k1 t t1 hp h;simp only [JjK] at h;split at h
  ·cases h
  ·rename_i o ho;split at h
   ·rename_i v t2 k2 hd;obtain ⟨hlt, hp2⟩ := List.pairwise_cons.1 hp;obtain ⟨tb, avs, lim, st, en, hav, htb, h1, h2, h3, h4, h5, h6⟩ := ih hp2 h;have hk : k ≤ k2 := (Jdb hC hd).1.nxt;have hil : i ∉ l := fun hq => by have := hlt i hq;omega
    have htbi:tb i=JcD ops a o:=by rw [htb i hil];unfold setT;rw [Nat.beq_refl];rfl
    have htbo : ∀j,j≠i→j∉l→tb j=tt j:=fun j hj hjl=>by
     rw [htb j hjl];unfold setT;cases hb:Nat.beq j i with
     | true=>exact absurd (Jr hb) hj
     | false=>rfl
    have hfm:(lf i).filterMap tt=(lf i).filterMap tb:=by
     refine JlZ _ fun j hj => ?_
     have:=hlf i j hj
     exact (htbo j (by omega) (fun hq=>by have:=hlt j hq;omega)).symm
    refine ⟨tb,fun j=>if j=i then (lf i).filterMap tb else avs j,fun j=>if j=i then Jes ff ss i k else lim j,fun j=>if j=i then k else st j,fun j=>if j=i then k2 else en j, ?_, ?_, ?_, ?_, ?_, ?_, ?_, ?_⟩
    ·intro j hj;dsimp only;split
     ·rename_i e;rw [e]
     ·rename_i hne;exact hav j (by simpa [hne] using hj)
    ·intro j hj;simp only [JJ,not_or] at hj;exact htbo j hj.1 hj.2
    ·simp only [Jlz];have hstep : Jc9 P C ops β fls tb (fun j => if j = i then (lf i).filterMap tb else avs j) (fun j => if j = i then Jes ff ss i k else lim j) (fun j => if j = i then k else st j) (fun j => if j = i then k2 else en j) i a t = some (a.put o.dst v, t2) :=
      Jhi ho (by rw [hfm] at hd;simpa using hd) htbi.symm
     rw [hstep];dsimp only;rw [←h1];have : ∀(l':List Nat) (a:Act) (t:Tr),(∀j∈l',j≠i)→Jlz P C ops β fls tb (fun j=>if j=i then (lf i).filterMap tb else avs j) (fun j=>if j=i then Jes ff ss i k else lim j) (fun j=>if j=i then k else st j) (fun j=>if j=i then k2 else en j) l' a t=Jlz P C ops β fls tb avs lim st en l' a t:=by
      intro l';induction l' with
      | nil=>intro a t _;rfl
      | cons j l' ih2=>
       intro a t hj;have hne:=hj j (by simp);have e1:Jc9 P C ops β fls tb (fun j=>if j=i then (lf i).filterMap tb else avs j) (fun j=>if j=i then Jes ff ss i k else lim j) (fun j=>if j=i then k else st j) (fun j=>if j=i then k2 else en j) j a t=Jc9 P C ops β fls tb avs lim st en j a t:=by
        unfold Jc9;simp only [Jd hne]
       simp only [Jlz,e1];split
       ·exact ih2 _ _ fun q hq=>hj q (by simp [hq])
       ·rfl
     exact this l _ _ fun j hj=>by have:=hlt j hj;omega
    ·intro j hj;dsimp only;split
     ·exact Je _
     ·rename_i hne;exact Jy hk (h2 j (by simpa [hne] using hj))
    ·intro j hj;dsimp only;split
     ·exact hk
     ·rename_i hne;exact h3 j (by simpa [hne] using hj)
    ·intro p hp' q hq hpq;dsimp only;by_cases e1:p=i
     ·rw [Jf e1,Jd (by omega)];exact h2 q ((JJ.1 hq).resolve_left (by omega))
     ·have hpl:p∈l:=by simpa [e1] using hp'
      have:=hlt p hpl
      rw [Jd e1,Jd (by omega)];exact h4 p hpl q ((JJ.1 hq).resolve_left (by omega)) hpq
    ·intro p hp' j hj;have hjp := hff p j hj;dsimp only;by_cases e1 : p = i
     ·subst e1;rw [Jf rfl];unfold Jes;rw [hj];refine ⟨fun hjm => ?_,fun _=>rfl⟩;rcases JJ.1 hjm with h | h
      ·omega
      ·have:=hlt j h;omega
     ·have hpl : p ∈ l := by simpa [e1] using hp'
      rw [Jd e1];obtain ⟨q1,q2⟩:=h5 p hpl j hj;by_cases e2:j=i
      ·subst e2;refine ⟨fun _ => ?_,fun hn=>absurd (by simp) hn⟩;rw [Jf rfl,q2 hil];simp [Jox]
      ·refine ⟨fun hjm => ?_,fun hn => ?_⟩
       ·rw [Jd e2];exact q1 (by simpa [e2] using hjm)
       ·rw [q2 (fun hq=>hn (by simp [hq]))];unfold Jox;have:Nat.beq j i=false:=by
         cases hb:Nat.beq j i with
         | false=>rfl
         | true=>exact absurd (Jr hb) e2
        rw [this];rfl
    ·intro p hp' hj;dsimp only;by_cases e1:p=i
     ·subst e1;rw [Jf rfl,Jf rfl];unfold Jes;rw [hj]
     ·rw [Jd e1,Jd e1];exact h6 p (by simpa [e1] using hp') hj
   ·cases h
end seq
end Go.IM
namespace Go.IM
open Go Go.RowKit
variable {P:Program} {B:Nat} {w0:World}
def Jd1 (ρ:Ren):List Deferred→List Deferred→Prop
 | [], []=>True
 | d::l,d'::l'=>JjI ρ d d'∧Jd1 ρ l l'
 | _,_=>False
theorem Jd1.mono {ρ ρ':Ren} (hr:ρ.le ρ') : ∀{l l':List Deferred},Jd1 ρ l l'→Jd1 ρ' l l'
 | [], [],_=>trivial
 | _::_,_::_,h=>⟨h.1.mono hr,h.2.mono hr⟩
def Xv (ρ:Ren) (a a':Act):Prop:=JV ρ a.tmps a'.tmps∧Jd1 ρ a.defers a'.defers
theorem Xv.mono {ρ ρ':Ren} (hr:ρ.le ρ') {a a':Act} (h:Xv ρ a a'):Xv ρ' a a':=⟨h.1.mono hr,h.2.mono hr⟩
theorem Xv.put {ρ:Ren} {a a':Act} (h:Xv ρ a a') (d:Option Tmp) {v v':Value} (hv:JX ρ v v'):Xv ρ (a.put d v) (a'.put d v'):=by
 cases d with
 | none=>exact h
 | some d=>exact ⟨h.1.set d hv,h.2⟩
theorem Xv.eval {ρ:Ren} {a a':Act} (h:Xv ρ a a') {x:Operand} (hx:Jak x=true):JX ρ (a.eval x) (a'.eval x):=by
 cases x with
 | tmp t=>
  have:=h.1.getD t (JX.undef ρ)
  exact this
 | const v=>exact JaZ ρ 4 v hx
 | global g=>simp [Jak] at hx
 | func f=>exact .func _ rfl rfl rfl (fun i x y hx=>by simp at hx) (fun i x y hx=>by simp at hx)
inductive Jju (ρ:Ren):Out→Exit→Prop
 | normal:Jju ρ .normal .normal
 | exit (id:Nat):Jju ρ (.exit id) (.exit id)
 | ret:Jju ρ .ret .ret
 | pnc {v v':Value} (h:JX ρ v v'):Jju ρ (.pnc v) (.panic [{ v:=v',recovered:=false }])
inductive Jmx (ρ:Ren):Jn4→Ending→Prop
 | ret {v v':Value} (h:JX ρ v v'):Jmx ρ (.ret v) (.returned v')
 | pnc {v v':Value} (h:JX ρ v v'):Jmx ρ (.pnc v) (.panicked [{ v:=v',recovered:=false }])
def JgS (P:Program) (B:Nat) (w0:World) (C:JbL):Prop:=
 ∀(ρ:Ren) (m:M) (w:World) (f:FuncId) (args args':Array Value) (out:Jn4) (m1:M),Inv P B w0 ρ m w→Wf m→JV ρ args args'→C f args m=some (out,m1) →
  Calls P f args' w fun e w' => ∃ ρ',ρ.le ρ'∧Inv P B w0 ρ' m1 w'∧Jmx ρ' out e
def Jia (P:Program) (B:Nat) (w0:World) (ρ:Ren) (e:Out) (a1:Act) (m1:M) (Q:Exit→Act→World→Prop):Prop:=
 ∀(ρ':Ren) (x:Exit) (a1':Act) (w':World),ρ.le ρ'→Inv P B w0 ρ' m1 w'→Xv ρ' a1 a1'→Jju ρ' e x→Q x a1' w'
theorem Jia.mono {ρ ρ':Ren} (hr:ρ.le ρ') {e:Out} {a1:Act} {m1:M} {Q:Exit→Act→World→Prop} (h:Jia P B w0 ρ e a1 m1 Q):Jia P B w0 ρ' e a1 m1 Q:=
 fun ρ2 x a w hle=>h ρ2 x a w (Ren.le_trans hr hle)
theorem JeM {ρ : Ren} {a a' : Act} (h : Xv ρ a a') (ops : Array Oper) : yielded ops a'.tmps = yielded ops a.tmps := by
 funext j
 unfold yielded;cases hd:(ops[j]?).bind (·.dst) with
 | none=>rfl
 | some d=>
  simp only [Jb];cases hx:a.tmps[d]? with
  | none=>
   have:a'.tmps[d]? = none:=by
    rw [Array.getElem?_eq_none_iff] at hx ⊢;rw [←h.1.1];exact hx
   rw [this]
  | some x=>
   obtain ⟨y,hy,hv⟩:=h.1.get hx;rw [hy];cases hv <;> rfl
theorem JiE {C : JbL} (hC : JgS P B w0 C) (hCg : Jd2 C) (ops : Array Oper) : ∀ (l : List Nat) {ρ : Ren} {m : M} {w : World} {a a' : Act} {e : Out} {a1 : Act} {m1 : M} {Q : Exit → Act → World → Prop},
  Inv P B w0 ρ m w→Wf m→Xv ρ a a'→Q5 P C ops l a m=some (e,a1,m1)→Jia P B w0 ρ e a1 m1 Q→wpOps P ops Q l a' w:=by
 intro l;induction l with
 | nil=>
  intro ρ m w a a' e a1 m1 Q hI hW hA hr hQ;simp only [Q5,Jg,Jm] at hr;obtain ⟨rfl,rfl,rfl⟩:=hr;exact hQ ρ _ a' w (Ren.le_refl _) hI hA .normal
 | cons i rest ih =>
  intro ρ m w a a' e a1 m1 Q hI hW hA hr hQ;simp only [Q5] at hr;simp only [wpOps];cases ho:ops[i]? with
  | none=>rw [ho] at hr;cases hr
  | some o =>
   rw [ho] at hr;dsimp only at hr ⊢;rw [JeM hA];split at hr
   ·rename_i hw;rw [Jf hw];left;split at hr
    ·rename_i hok;have hev : ∀ x ∈ o.op.operands, JX ρ (a.eval x) (a'.eval x) := by
      intro x hx;unfold JjL at hok;rw [Array.all_eq_true'] at hok;exact hA.eval (hok x hx)
     cases hi:iop P a.eval o m with
     | none=>rw [hi] at hr;cases hr
     | some r=>
      rw [hi] at hr;have hs:=Ji1 hI hev hi;have hW1:Wf r.mem:=(Jad (k:=0) (b:=⟨.cells #[] 0,0,false,false,false⟩) hi).1.wf hW;unfold Oper.wp;cases r with
      | val v m2=>
       obtain ⟨v',w',ρ',h1,h2,h3,h4⟩:=hs;rw [h1,Oper.upon_value];exact ih h3 hW1 ((hA.mono h2).put _ h4) hr (hQ.mono h2)
      | skip m2=>
       obtain ⟨w',ρ',h1,h2,h3⟩:=hs;rw [h1,Oper.upon_skip];exact ih h3 hW1 ((hA.mono h2).put _ (JX.undef _)) hr (hQ.mono h2)
      | dfr d m2=>
       obtain ⟨d',h1,h3,h4⟩:=hs;rw [h1,Oper.upon_defer];exact ih h3 hW1 (Xv.put (a := { a with defers:=d::a.defers }) (a' := { a' with defers:=d'::a'.defers }) ⟨hA.1,h4,hA.2⟩ _ (JX.undef _)) hr hQ
      | call f args m2=>
       obtain ⟨args',h1,h3,h4⟩:=hs;rw [h1,Oper.upon_enter];dsimp only at hr;split at hr
       ·rename_i v m3 hc;have hW2:Wf m3:=(hCg _ _ _ _ _ hc).1.wf hW1;refine (hC ρ m2 w f args args' _ m3 h3 hW1 h4 hc).mono ?_
        rintro en w' ⟨ρ',k1,k2,k3⟩
        cases k3;exact ih k2 hW2 ((hA.mono k1).put _ ‹_›) hr (hQ.mono k1)
       ·rename_i v m3 hc;have hW2:Wf m3:=(hCg _ _ _ _ _ hc).1.wf hW1;refine (hC ρ m2 w f args args' _ m3 h3 hW1 h4 hc).mono ?_
        rintro en w' ⟨ρ',k1,k2,k3⟩
        cases k3;cases hr;exact hQ ρ' _ a' w' k1 k2 (hA.mono k1) (.pnc ‹_›)
       ·cases hr
      | pnc v m2=>
       obtain ⟨v',h1,h3,h4⟩:=hs;rw [h1,Oper.upon_panic];cases hr;exact hQ ρ _ a' w (Ren.le_refl _) h3 hA (.pnc h4)
    ·cases hr
   ·rename_i hw;rw [Jd hw];exact ih hI hW (hA.put _ (JX.undef _)) hr hQ
def EvOK (P:Program) (B:Nat) (w0:World) (ev:Ev):Prop:=
 ∀(ρ:Ren) (m:M) (w:World) (c:Code) (a a':Act) (e:Out) (a1:Act) (m1:M) (Q:Exit→Act→World→Prop),Inv P B w0 ρ m w→Wf m→Xv ρ a a'→ev c a m=some (e,a1,m1)→Jia P B w0 ρ e a1 m1 Q→c.wp P Q a' w
def Je4 (tmps':Array Value):ResultVar→Sem Value
 | .tmp t=>pure (tmps'.getD t undef)
 | .cell a t=>do loadVar t (←asAddr (tmps'.getD a undef))
theorem Jm0 (fn:Func) (tmps':Array Value):results fn tmps'=(do let vs ←fn.results.mapM (Je4 tmps');pure (if h:vs.size=1 then vs[0] else .tuple vs)):=by
 unfold results;have:(fun r=>match r with | .tmp t=>pure (tmps'.getD t undef) | .cell a t=>do loadVar t (←asAddr (tmps'.getD a undef)):ResultVar→Sem Value)=Je4 tmps':=by
  funext r;cases r <;> rfl
 rw [←this];rfl
theorem JhK {ρ:Ren} {m:M} {w:World} (hI:Inv P B w0 ρ m w) {tmps tmps':Array Value} (ht:JV ρ tmps tmps') (r:ResultVar) {v:Value} (h:JcX P tmps m r=some v) :
  ∃v',(Je4 tmps' r).run P w = .ok v' w∧JX ρ v v':=by
 cases r with
 | tmp t=>
  simp only [JcX,Jg] at h;subst h;exact ⟨_,rfl,ht.getD t (JX.undef ρ)⟩
 | cell a t=>
  simp only [JcX] at h;have hv:=ht.getD a (JX.undef ρ);obtain ⟨v',h1,h2⟩:=JdS hI hv h;refine ⟨v', ?_,h2⟩;rw [←h1];unfold Je4;dsimp only;unfold Ja5 at h;split at h
  ·rename_i i o hq;rw [hq] at hv;generalize tmps'.getD a undef=q at hv h1 ⊢;cases hv;simp [Instr.loadAt,Instr.sureAddr,asAddr]
  ·cases h
theorem Jhk {α β:Type} (f:α→Sem β) (w:World) : ∀(l:List α) (vs:List β),l.length=vs.length→(∀(i:Nat) (x:α) (v:β),l[i]? = some x→vs[i]? = some v→(f x).run P w = .ok v w) →
  (l.mapM f).run P w = .ok vs w:=by
 intro l;induction l with
 | nil=>intro vs hl h;cases vs with
  | nil=>simp [List.mapM_nil]
  | cons=>simp at hl
 | cons x l ih=>
  intro vs hl h;cases vs with
  | nil=>simp at hl
  | cons v vs=>
   simp only [List.mapM_cons,Sem.run_bind,h 0 x v rfl rfl,Result.andThen_ok];rw [ih vs (by simpa using hl) (fun i y u hy hu=>h (i+1) y u (by simpa using hy) (by simpa using hu))];rfl
theorem Jfp {ρ : Ren} {m : M} {w : World} (hI : Inv P B w0 ρ m w) {tmps tmps' : Array Value} (ht : JV ρ tmps tmps') : ∀ (l : List ResultVar) {vs : List Value}, Xg P tmps m l = some vs →
  ∃vs':List Value,l.length=vs'.length∧JV ρ vs.toArray vs'.toArray ∧ ∀(i:Nat) (r:ResultVar) (v:Value),l[i]? = some r→vs'[i]? = some v →
   (Je4 tmps' r).run P w = .ok v w:=by
 intro l;induction l with
 | nil=>intro vs h;simp [Xg] at h;subst h;exact ⟨[],rfl,JV.nil _,fun i r v h=>by simp at h⟩
 | cons r l ih=>
  intro vs h;simp only [Xg] at h;split at h
  ·rename_i v vs0 h1 h2;cases h;obtain ⟨v',k1,k2⟩:=JhK hI ht r h1;obtain ⟨vs',j1,j2,j3⟩:=ih h2;refine ⟨v'::vs',by simp [j1], ?_, ?_⟩
   ·have:=(JV.one k2).append j2
    simpa using this
   ·intro i x u hx hu;cases i with
    | zero=>simp at hx hu;subst hx;subst hu;exact k1
    | succ i=>exact j3 i x u (by simpa using hx) (by simpa using hu)
  ·cases h
theorem JcH {ρ : Ren} {m : M} {w : World} (hI : Inv P B w0 ρ m w) {fn : Func} {tmps tmps' : Array Value} (ht : JV ρ tmps tmps') {v : Value} (h : Qq P fn tmps m = some v) :
  ∃v',(results fn tmps').run P w = .ok v' w∧JX ρ v v':=by
 unfold Qq at h;cases hl:Xg P tmps m fn.results.toList with
 | none=>rw [hl] at h;cases h
 | some vs=>
  rw [hl] at h;obtain ⟨vs',j1,j2,j3⟩:=Jfp hI ht _ hl;have hm:(fn.results.mapM (Je4 tmps')).run P w = .ok vs'.toArray w:=by
   rw [Array.mapM_eq_mapM_toList,Sem.run_map,Jhk (P:=P) (Je4 tmps') w fn.results.toList vs' j1 j3];rfl
  have hlen:vs.length=vs'.length:=by have:=j2.1;simpa using this
  have hrun:(results fn tmps').run P w = .ok (if h:vs'.toArray.size=1 then vs'.toArray[0] else .tuple vs'.toArray) w:=by
   rw [Jm0,Sem.run_bind,hm];rfl
  match vs,h,hlen,j2 with
  | [],h,hlen,j2=>
   cases h;refine ⟨_,hrun, ?_⟩;have:vs' = []:=by cases vs' with | nil=>rfl | cons=>simp at hlen
   subst this;exact .tuple j2.1 j2.2
  | [u],h,hlen,j2=>
   cases h;refine ⟨_,hrun, ?_⟩;obtain ⟨u',rfl⟩ : ∃u',vs' = [u']:=by
    match vs',hlen with
    | [u'],_=>exact ⟨u',rfl⟩
   exact j2.2 0 v u' rfl rfl
  | u::u2::r,h,hlen,j2=>
   cases h;refine ⟨_,hrun, ?_⟩;have hne : ¬(vs'.toArray.size=1):=by simp;simp at hlen;omega
   rw [dif_neg hne];exact .tuple j2.1 j2.2
end Go.IM
namespace Go.IM
open Go Go.RowKit
variable {P:Program} {B:Nat} {w0:World} {C:JbL} {n0 β:Nat} {ops:Array Oper}
def JqH (ops:Array Oper) (listed:Array Bool):Prop := ∀d o,ops[d]? = some o→listed.getD d false=true → ∀e∈o.after,Region.binds .any e=true→listed.getD e.on false=true
theorem Jm5 {acc:List Nat} {i:Nat} : ∀{l:List Edge},(Jm6 acc l).testBit i=true → ∃e∈l,Region.binds .any e=true∧(i=e.on∨(acc.getD e.on 0).testBit i=true):=by
 intro l;induction l with
 | nil=>intro h;simp [Jm6] at h
 | cons e l ih=>
  intro h;simp only [Jm6] at h;split at h
  ·rename_i hb;simp only [Nat.testBit_or,Bool.or_eq_true] at h;rcases h with (h | h) | h
   ·refine ⟨e,by simp,hb,.inl ?_⟩;rw [Nat.one_shiftLeft,Nat.testBit_two_pow] at h;exact (by simpa using h:e.on=i).symm
   ·exact ⟨e,by simp,hb,.inr h⟩
   ·obtain ⟨e2,h1,h2⟩:=ih h;exact ⟨e2,by simp [h1],h2⟩
  ·obtain ⟨e2,h1,h2⟩:=ih h;exact ⟨e2,by simp [h1],h2⟩
def JtA (ops:Array Oper) (acc:List Nat):Prop := ∀j o,j<acc.length→ops[j]? = some o → ∀listed,JqH ops listed→(∀e∈o.after,Region.binds .any e=true→listed.getD e.on false=true) →
 ∀i,(acc.getD j 0).testBit i=true→listed.getD i false=true
theorem Jp5 : ∀ (rest pre : List Oper) (acc : List Nat), ops.toList = pre ++ rest → acc.length = pre.length → JtA ops acc → JtA ops (QH rest acc) ∧ (QH rest acc).length = ops.size := by
 intro rest;induction rest with
 | nil=>
  intro pre acc he hl h;refine ⟨h, ?_⟩;have:=congrArg List.length he
  simp at this;simp [QH,hl,this]
 | cons o rest ih =>
  intro pre acc he hl h;simp only [QH];refine ih (pre ++ [o]) _ (by simp [he]) (by simp [hl]) ?_;intro j o' hj ho' listed hc hd i hb;rcases JB j acc.length with hlt | hge
  ·refine h j o' hlt ho' listed hc hd i ?_;rw [Jo,JF hlt] at hb;rw [Jo];exact hb
  ·have hjl : j = acc.length := by simp at hj;omega
   subst hjl;have ho:ops[acc.length]? = some o:=by
    rw [←Array.getElem?_toList,he,hl];simp
   rw [ho] at ho';cases ho';rw [Jo,JN (Je _)] at hb;simp only [Nat.sub_self,List.getElem?_cons_zero,Option.getD_some] at hb;obtain ⟨e,he1,he2,he3⟩:=Jm5 hb;have hle:=hd e (by simpa using he1) he2;rcases he3 with rfl | he3
   ·exact hle
   ·rcases JB e.on acc.length with hlt | hge2
    ·have hex : ∃o2,ops[e.on]? = some o2:=by
      have:e.on<ops.size:=by
       have h1:=congrArg List.length he;simp at h1;omega
      exact ⟨ops[e.on],by simp [this]⟩
     obtain ⟨o2,ho2⟩:=hex;exact h e.on o2 hlt ho2 listed hc (fun e' h1 h2=>hc e.on o2 ho2 hle e' h1 h2) i he3
    ·rw [Jo,J1 hge2] at he3;simp at he3
theorem Jh4 {i:Nat} : ∀{l:List Edge},JeK i l=true → ∀e∈l,Region.binds .any e=true→e.on<i:=by
 intro l;induction l with
 | nil=>intro _ e he;cases he
 | cons x l ih=>
  intro h e he hb;simp only [JeK,Jh,Bool.or_eq_true,Bool.not_eq_true',decide_eq_true_eq] at h;rcases JJ.1 he with rfl | he
  ·rcases h.1 with h1 | h1
   ·rw [hb] at h1;cases h1
   ·exact h1
  ·exact ih h.2 e he hb
theorem Jjb {ms:List Nat} {i j:Nat} {x y:Oper} (hx:ops[i]? = some x) (hy:ops[j]? = some y) (hu:JbU ms i j=true) (hf:Jet (JS P x) (JS P y)=true):Jch P ops ms i=true:=by
 unfold Jch;rw [List.any_eq_true];refine ⟨j,List.mem_range.2 (Jv.1 hy).1, ?_⟩;rw [hu,hx,hy];simpa using hf
theorem JkE (h:Jfe P ops=true) {i j:Nat} (hij:i<j) {x y:Oper} (hx:ops[i]? = some x) (hy:ops[j]? = some y) (hm:((QH ops.toList []).getD j 0).testBit i=false) :
  x.apart ops y=true∧JhF (JS P x) (JS P y)=true∧(Jet (JS P x) (JS P y)=true→Jch P ops (QH ops.toList []) i=true)∧(Jet (JS P y) (JS P x)=true→Jch P ops (QH ops.toList []) j=true):=by
 unfold Jfe at h;simp only [List.all_eq_true,List.mem_range,Jh] at h;have h1:=(h j (Jv.1 hy).1).2 i hij;have hu:JbU (QH ops.toList []) i j=true:=by unfold JbU;rw [Jf hij,hm];rfl
 have hu2:JbU (QH ops.toList []) j i=true:=by unfold JbU;rw [Jd (by omega),Jf hij,hm];rfl
 unfold JsU at h1;rw [Jf hu,hx,hy] at h1;simp only [Jh] at h1;exact ⟨h1.1,h1.2,Jjb hx hy hu,Jjb hy hx hu2⟩
theorem JkF (h:Jfe P ops=true) {j:Nat} {y:Oper} (hy:ops[j]? = some y) : ∀e∈y.after,Region.binds .any e=true→e.on<j:=by
 unfold Jfe at h;simp only [List.all_eq_true,List.mem_range,Jh] at h;have h1:=(h j (Jv.1 hy).1).1;rw [hy] at h1;exact fun e he hb=>Jh4 h1 e (by simpa using he) hb
theorem Inv.tr {ρ:Ren} {m:M} {w:World} (h:Inv P B w0 ρ m w) (k γ:Nat):Inv P B w0 ρ ⟨m.tr,k,γ⟩ w:=
 ⟨h.below,h.size,h.dom,h.blk,h.holds,h.roots,h.tip,h.sep,h.top,h.rosup⟩
theorem JoU (hC : JgS P B w0 C) {fl : Bool} {av : List Nat} {ρ : Ren} {w : World} {a a' : Act} {t t1 : Tr} {j k e : Nat} {o : Oper} {v : Value} {Q : Exit → Act → World → Prop} {K : Act → World → Prop}
  (hI:Inv P B w0 ρ ⟨t,0,0⟩ w) (hW:Wf ⟨t,0,0⟩) (hA:Xv ρ a a') (ho:ops[j]? = some o) (h:opD P C av n0 β fl (Region.wanted o (yielded ops a.tmps)) o a.eval k t=some (v,t1,e))
  (hK : ∀ ρ' a2' w',ρ.le ρ'→Inv P B w0 ρ' ⟨t1,0,0⟩ w'→Xv ρ' (a.put o.dst v) a2'→K a2' w'):wpOp P ops Q j K a' w:=by
 unfold wpOp;rw [ho];dsimp only;rw [JeM hA];unfold opD at h;split at h
 ·rename_i hw;rw [Jf hw];left;split at h
  ·rename_i hok;have hev : ∀ x ∈ o.op.operands, JX ρ (a.eval x) (a'.eval x) := by
    intro x hx;simp only [Jh] at hok;have:=hok.1.1
    unfold JjL at this;rw [Array.all_eq_true'] at this;exact hA.eval (this x hx)
   cases hi:iop P a.eval o ⟨t,k,if fl then k else β⟩ with
   | none=>rw [hi] at h;cases h
   | some r=>
    rw [hi] at h;have hs:=Ji1 (hI.tr k (if fl then k else β)) hev hi;have hW1:Wf r.mem:=(Jad (k:=0) (b:=⟨.cells #[] 0,0,false,false,false⟩) hi).1.wf hW;unfold Oper.wp;cases r with
    | val v2 m2=>
     cases h;obtain ⟨v',w',ρ',h1,h2,h3,h4⟩:=hs;rw [h1,Oper.upon_value];exact hK ρ' _ w' h2 (h3.tr 0 0) ((hA.mono h2).put _ h4)
    | skip m2=>
     cases h;obtain ⟨w',ρ',h1,h2,h3⟩:=hs;rw [h1,Oper.upon_skip];exact hK ρ' _ w' h2 (h3.tr 0 0) ((hA.mono h2).put _ (JX.undef _))
    | dfr d m2=>cases h
    | call f args m2=>
     obtain ⟨args',h1,h3,h4⟩:=hs;rw [h1,Oper.upon_enter];dsimp only at h;split at h
     ·rename_i v2 m3 hc;cases h;refine (hC ρ m2 w f args args' _ m3 h3 hW1 h4 hc).mono ?_
      rintro en w' ⟨ρ',k1,k2,k3⟩
      cases k3;exact hK ρ' _ w' k1 (k2.tr 0 0) ((hA.mono k1).put _ ‹_›)
     ·cases h
    | pnc v m2=>cases h
  ·cases h
 ·rename_i hw;rw [Jd hw];cases h;exact hK ρ _ w (Ren.le_refl _) hI (hA.put _ (JX.undef _))
theorem Jeg {listed:Array Bool} {i:Nat} (hi:i<listed.size) (d:Bool):listed.getD i d=listed.getD i true:=by
 simp [hi]
theorem Jny {p:Nat→Bool} : ∀{l:List Nat},l.Pairwise (· < ·) → ∀{i:Nat},i∈l→p i=true → ∃q,l.find? p=some q∧q≤i:=by
 intro l;induction l with
 | nil=>intro _ i hi;cases hi
 | cons a l ih=>
  intro hp i hi hpi;obtain ⟨h1,h2⟩:=List.pairwise_cons.1 hp;rw [List.find?_cons];cases ha:p a with
  | true=>
   refine ⟨a,rfl, ?_⟩;rcases JJ.1 hi with h | h
   ·omega
   ·exact Nat.le_of_lt (h1 i h)
  | false=>
   rcases JJ.1 hi with h | h
   ·rw [h,ha] at hpi;cases hpi
   ·exact ih h2 h hpi
theorem Jeh {ms:List Nat} {i j:Nat} (h:XQ P ops ms i=some j):j<i:=by
 unfold XQ at h;split at h
 ·split at h
  ·have:=List.mem_of_find?_eq_some h
   exact List.mem_range.1 this
  ·cases h
 ·cases h
theorem Jjc {ms:List Nat} {i j:Nat} {x y:Oper} (hx:ops[i]? = some x) (hy:ops[j]? = some y) (hij:i<j) (hu:JbU ms i j=true) (hk:JS P y = .l) (hax:isAX (JS P x)=true) : ∃q,XQ P ops ms j=some q∧q≤i:=by
 unfold XQ;rw [hy];dsimp only;rw [hk];dsimp only;refine Jny List.pairwise_lt_range (List.mem_range.2 hij) ?_;rw [hu,hx];simpa using hax
theorem JiX {ms:List Nat} {i j:Nat} (h:j∈Jcc P ops ms i):j<i:=by
 unfold Jcc at h;split at h
 ·split at h
  ·exact List.mem_range.1 (List.mem_filter.1 h).1
  ·cases h
 ·cases h
theorem Jo7 {ms:List Nat} {i j:Nat} {x y:Oper} (hx:ops[i]? = some x) (hy:ops[j]? = some y) (hij:i<j) (hu:JbU ms i j=true) (kx:JS P x = .l) (ky:JS P y = .s):i∈Jcc P ops ms j:=by
 unfold Jcc;rw [hy];dsimp only;rw [ky];refine List.mem_filter.2 ⟨List.mem_range.2 hij, ?_⟩;rw [hu,hx];dsimp only;rw [kx];rfl
theorem Jp4 (hok : Jfe P ops = true) (hC : JgS P B w0 C) (hCg : Jd2 C) {tb : Nat → Option Nat} {avs : Nat → List Nat} {lim st en : Nat → Nat} {Q : Exit → Act → World → Prop} {a1 : Act} {t1 : Tr}
  (H1 : ∀i x,ops[i]? = some x→JS P x = .l→lim i≤st i)
  (H2 : ∀i j x y,ops[i]? = some x→ops[j]? = some y→i<j→JbU (QH ops.toList []) i j=true→Jet (JS P y) (JS P x)=true→JS P y = .l→lim j≤st i)
  (H3 : ∀i j x y,ops[i]? = some x→ops[j]? = some y→i<j→JbU (QH ops.toList []) i j=true→JS P x = .l→JS P y = .s → ∀b,tb i=some b→(avs j).contains b=true) :
  ∀(fuel:Nat) (l:List Nat) (listed:Array Bool) {ρ:Ren} {w:World} {a a':Act} {t:Tr},l.length=fuel→l.Pairwise (· < ·)→listed.size=ops.size→(∀i,i∈l↔(i<ops.size∧listed.getD i true=false))→JqH ops listed →
   Jlz P C ops β (Jch P ops (QH ops.toList [])) tb avs lim st en l a t=some (a1,t1)→(∀i∈l,∀j∈l,i<j→en i≤st j)→Wf ⟨t,0,0⟩→Inv P B w0 ρ ⟨t,0,0⟩ w→Xv ρ a a' →
   (∀ ρ' a1' w',ρ.le ρ'→Inv P B w0 ρ' ⟨t1,0,0⟩ w'→Xv ρ' a1 a1'→Q .normal a1' w')→wpAny P .any ops Q fuel listed a' w:=by
 obtain ⟨hmask,hmlen⟩:=Jp5 (ops:=ops) ops.toList [] [] rfl rfl (fun j o hj=>absurd hj (by simp));intro fuel;induction fuel with
 | zero=>
  intro l listed ρ w a a' t hlen hp hsz hmem hcl hseq hen hwf hI hA hQ;have hl:l = []:=JT hlen;subst hl;simp only [Jlz,Jg,Jm] at hseq;obtain ⟨rfl,rfl⟩:=hseq;refine ⟨?_,hQ ρ a' w (Ren.le_refl _) hI hA⟩;rw [List.eq_nil_iff_forall_not_mem];intro j hj;obtain ⟨h0,o,ho,_⟩:=mem_ready.1 hj;have:=(hmem j).2 ⟨(Jv.1 ho).1,h0⟩
  cases this
 | succ fuel ih =>
  intro l listed ρ w a a' t hlen hp hsz hmem hcl hseq hen hwf hI hA hQ;refine ⟨fun hr => ?_,fun j hj => ?_⟩
  ·
   exfalso
   cases l with
   | nil=>simp at hlen
   | cons i l=>
    obtain ⟨hi,hun⟩:=(hmem i).1 (by simp);have:i∈Region.ready .any ops listed:=by
     refine mem_ready.2 ⟨hun,ops[i],by simp [hi],fun e he hb => ?_⟩;have hlt:=JkF hok (j:=i) (y:=ops[i]) (by simp [hi]) e he hb;rw [Jeg (by omega)];cases hq:listed.getD e.on true with
     | true=>rfl
     | false=>
      have:=(hmem e.on).2 ⟨by omega,hq⟩
      rcases JJ.1 this with h1 | h1
      ·omega
      ·have:=(List.pairwise_cons.1 hp).1 _ h1;omega
    rw [hr] at this;cases this
  ·obtain ⟨hun, o, ho, hdeps⟩ := mem_ready.1 hj;have hjlt := (Jv.1 ho).1;have hjl : j ∈ l := (hmem j).2 ⟨hjlt, hun⟩;obtain ⟨l1, l2, rfl⟩ := List.append_of_mem hjl;have hp' := List.pairwise_append.1 hp
   have hsw : ∀i∈l1,Sw P ops (Jch P ops (QH ops.toList [])) tb avs lim st en i j:=by
    intro i hi;have hij:i<j:=hp'.2.2 i hi j (by simp);have hbit:((QH ops.toList []).getD j 0).testBit i=false:=by
     cases hb:((QH ops.toList []).getD j 0).testBit i with
     | false=>rfl
     | true=>
      have h1:=hmask j o (by rw [hmlen];exact hjlt) ho listed hcl hdeps i hb
      have h2:=((hmem i).1 (by simp [hi])).2;rw [Jeg (by rw [hsz];omega)] at h1
      rw [h1] at h2;cases h2
    have hu:JbU (QH ops.toList []) i j=true:=by unfold JbU;rw [Jf hij,hbit];rfl
    exact ⟨fun x y hx hy=>JkE hok hij hx hy hbit,hen i (by simp [hi]) j (by simp) hij,H1 i,fun x y hx hy hf hk=>H2 i j x y hx hy hij hu hf hk,fun x y hx hy kx ky=>H3 i j x y hx hy hij hu kx ky⟩
   have hfront:=JmT hCg l1 l2 hwf hsw hseq;simp only [Jlz] at hfront;split at hfront
   ·rename_i a2 t2 hstep;have hwf2:=Jlu hCg hwf hstep;obtain ⟨o',v,ho',hd,rfl,_⟩:=Jco hstep;rw [ho] at ho';cases ho';refine JoU hC hI hwf hA ho hd fun ρ' a2' w' hle hI' hA' => ?_
    have hpw:(l1++l2).Pairwise (· < ·):=by
     refine List.pairwise_append.2 ⟨hp'.1,(List.pairwise_cons.1 hp'.2.1).2,fun x hx y hy=>hp'.2.2 x hx y (by simp [hy])⟩
    have hnj1:j∉l1++l2:=by
     intro hq;rcases List.mem_append.1 hq with hq | hq
     ·have:=hp'.2.2 j hq j (by simp);omega
     ·have:=(List.pairwise_cons.1 hp'.2.1).1 j hq;omega
    refine ih (l1++l2) (listed.setIfInBounds j true) (by simp at hlen ⊢;omega) hpw (by simp [hsz]) (fun i => ?_) ?_ hfront
     (fun i hi k hk=>hen i (by simp at hi ⊢;rcases hi with h | h <;> simp [h]) k (by simp at hk ⊢;rcases hk with h | h <;> simp [h])) hwf2 hI' hA' (fun ρ2 b w2 h1=>hQ ρ2 b w2 (Ren.le_trans hle h1))
    ·by_cases hij:j=i
     ·subst hij;refine ⟨fun h=>absurd h hnj1,fun h => ?_⟩;have:=h.2
      simp [hsz,hjlt] at this
     ·rw [getD_set_ne true hij,←hmem i];simp [Ne.symm hij]
    ·intro d o2 hd2 hl2 e he hb;by_cases hdj:j=d
     ·subst hdj;rw [ho] at hd2;cases hd2;exact getD_set_true (hdeps e he hb)
     ·rw [getD_set_ne false hdj] at hl2;exact getD_set_true (hcl d o2 hd2 hl2 e he hb)
   ·cases hfront
theorem JnC (hC : JgS P B w0 C) (hCg : Jd2 C) {id : Nat} {ρ : Ren} {m m1 : M} {w : World} {a a' a1 : Act} {e : Out} {Q : Exit → Act → World → Prop} (hI : Inv P B w0 ρ m w) (hW : Wf m) (hA : Xv ρ a a')
  (h:Jb0 P C ops a m=some (e,a1,m1)) (hQ:Jia P B w0 ρ e a1 m1 Q):(Code.region id ops true).wp P Q a' w:=by
 unfold Jb0 at h;split at h
 ·rename_i hok;simp only [Jh, decide_eq_true_eq] at hok;obtain ⟨⟨hok, hmix⟩, hbar⟩ := hok;dsimp only at h;split at h
  ·rename_i a2 k1 t1 hr;cases h;have hpw:(List.range ops.size).Pairwise (· < ·):=List.pairwise_lt_range;obtain ⟨tb,avs,lim,st,en,hav,_,h1,_,h3,h4,h5,h6⟩:=JiC hCg (fun i j=>Jeh) (fun i j=>JiX) _ hpw hr;have inR : ∀{i:Nat} {x:Oper},ops[i]? = some x→i∈List.range ops.size:=fun hx=>List.mem_range.2 (Jv.1 hx).1
   have H1 : ∀i x,ops[i]? = some x→JS P x = .l→lim i≤st i:=by
    intro i x hx _;cases hf:XQ P ops (QH ops.toList []) i with
    | none=>rw [h6 i (inR hx) hf];exact Je _
    | some q=>
     have hqi:=Jeh hf;have hq:q∈List.range ops.size:=List.mem_range.2 (by have:=List.mem_range.1 (inR hx);omega)
     rw [(h5 i (inR hx) q hf).1 hq];exact Jy (h3 q hq) (h4 q hq i (inR hx) hqi)
   have H2 : ∀i j x y,ops[i]? = some x→ops[j]? = some y→i<j→JbU (QH ops.toList []) i j=true→Jet (JS P y) (JS P x)=true→JS P y = .l→lim j≤st i:=by
    intro i j x y hx hy hij hu hf hk;have hax:isAX (JS P x)=true:=by
     rw [hk] at hf;cases hkx:JS P x <;> rw [hkx] at hf <;> first | rfl | (cases hf)
    obtain ⟨q,hq1,hq2⟩:=Jjc hx hy hij hu hk hax;have hq:q∈List.range ops.size:=List.mem_range.2 (by have:=List.mem_range.1 (inR hx);omega)
    rw [(h5 j (inR hy) q hq1).1 hq];rcases JB q i with hlt | hge
    ·exact Jy (h3 q hq) (h4 q hq i (inR hx) hlt)
    ·have:q=i:=by omega
     rw [this];exact Je _
   have H3 : ∀i j x y,ops[i]? = some x→ops[j]? = some y→i<j→JbU (QH ops.toList []) i j=true→JS P x = .l→JS P y = .s → ∀b,tb i=some b→(avs j).contains b=true:=by
    intro i j x y hx hy hij hu kx ky b hb;rw [hav j (inR hy),List.contains_iff_mem];exact List.mem_filterMap.2 ⟨i,Jo7 hx hy hij hu kx ky,hb⟩
   refine wp_region_any hmix ?_;refine Jp4 hok hC hCg H1 H2 H3 ops.size (List.range ops.size) _ (by simp) hpw (by simp) (fun i => ?_) ?_ h1 h4 hW ((hI.tr 0 0).drew) hA fun ρ' b w' hle hI' hA' => ?_
   ·simp only [List.mem_range]
    constructor
    ·intro hi;exact ⟨hi,by simp [hi]⟩
    ·exact fun h=>h.1
   ·intro d o hd hl;have hdlt:=(Jv.1 hd).1;simp [hdlt] at hl
   ·exact hQ ρ' _ b w' hle (hI'.tr _ _) hA' .normal
  ·cases h
 ·cases h
end Go.IM
namespace Go.IM
open Go Go.RowKit
variable {P:Program} {B:Nat} {w0:World}
inductive JbK (ρ:Ren):DM→FrameMode→Prop
 | ret:JbK ρ .ret .returning
 | pan {v v':Value} (r:Bool) (h:JX ρ v v'):JbK ρ (.pan v r) (.panicking [{ v:=v',recovered:=r }])
theorem JbK.mono {ρ ρ':Ren} (hr:ρ.le ρ') {u:DM} {u':FrameMode} (h:JbK ρ u u'):JbK ρ' u u':=by
 cases h with
 | ret=>exact .ret
 | pan r h=>exact .pan r (h.mono hr)
theorem JbK.settle {ρ:Ren} {u:DM} {u':FrameMode} (h:JbK ρ u u'):JbK ρ (XJ u) (settle u'):=by
 cases h with
 | ret=>exact .ret
 | pan r h=>cases r with
  | true=>exact .ret
  | false=>exact .pan false h
theorem JbK.run_ne {ρ:Ren} {u:DM} {u':FrameMode} (h:JbK ρ u u'):u' ≠ .run:=by cases h <;> simp
theorem JiL {c rest : Code} {d : Tmp} (h : JaL c = some (d, rest)) :
  ∃id ops o c0,c = .seq (.region id ops false) rest∧ops = #[o]∧o.dst=some d∧o.op = .call c0∧o.guard=none∧c0.callee = .builtin .recover∧c0.args = #[]:=by
 unfold JaL at h;split at h
 ·rename_i id ops rest';split at h
  ·rename_i o hops;split at h
   ·rename_i d' c0 hd hop hg;split at h
    ·rename_i hcal;split at h
     ·rename_i hsz;cases h;refine ⟨id,ops,o,c0,rfl, ?_,hd,hop,hg,hcal,JY hsz⟩;rw [←Array.toArray_toList (xs:=ops),hops]
     ·cases h
    ·cases h
   ·cases h
  ·cases h
 ·cases h
theorem Ji7 {ρ:Ren} (fn:Func) {args args':Array Value} (h:JV ρ args args'):Xv ρ (frame fn args) { tmps:=args'++Array.replicate (fn.ntmps - args'.size) undef,defers := [] }:=by
 refine ⟨?_,trivial⟩;unfold frame;rw [←h.1];exact h.append (JV.replicate ρ _ (JX.undef ρ))
theorem Jlb {ev : Ev} (hev : EvOK P B w0 ev) {ρ : Ren} {m m1 : M} {w : World} {k : FuncId} {args args' : Array Value} {u u1 : DM} {u' : FrameMode} (hI : Inv P B w0 ρ m w) (hW : Wf m) (hu : JbK ρ u u') (ha : JV ρ args args')
  (h:Jji P ev k args u m=some (u1,m1)) :
  (∃ fn, P.funcs[k]? = some fn ∧ fn.body.isSome = true ∧ (fn.name == "runtime.NumGoroutine") = false) ∧
  CallsD P k args' u' w fun e u2 w' => ∃ ρ',ρ.le ρ'∧Inv P B w0 ρ' m1 w'∧(∃v,e = .returned v)∧JbK ρ' u1 (settle u2):=by
 unfold Jji at h;split at h
 ·rename_i fn hfn;split at h
  ·rename_i c hc;split at h
   ·cases h
   ·rename_i hname;refine ⟨⟨fn, hfn, by simp [hc], by simpa using hname⟩, ?_⟩;have hfr := Ji7 fn ha;have fin : ∀ (a : Act) (m2 : M) (e : Out), (e = .normal ∨ e = .ret) → ∀ (u2 : DM), (match a.defers, Qq P fn a.tmps m2 with | [], some _ => some (XJ u2, m2) | _, _ => none) = some (u1, m1) →
      a.defers = []∧m2=m1∧u1=XJ u2 ∧ ∃v,Qq P fn a.tmps m2=some v:=by
     intro a m2 e _ u2 hq;split at hq
     ·rename_i v hd hr;cases hq;exact ⟨hd,rfl,rfl,v,hr⟩
     ·cases hq
    have post : ∀(c₀:Frame) (cs:List Frame) (a:Act) (m2:M) (e:Out) (u2:DM) (u2':FrameMode),(e = .normal∨e = .ret)→JbK ρ u2 u2' →
      (match a.defers,Qq P fn a.tmps m2 with | [],some _=>some (XJ u2,m2) | _,_=>none)=some (u1,m1) →
      Jia P B w0 ρ e a m2 (fun x a' w'=>bodyPostS P fn c₀ cs (fun e u2 w' => ∃ ρ',ρ.le ρ'∧Inv P B w0 ρ' m1 w'∧(∃v,e = .returned v)∧JbK ρ' u1 (settle u2)) x a' ({ c₀ with mode:=u2' }::cs) w'):=by
     intro c₀ cs a m2 e u2 u2' he hu2 hq ρ' x a' w' hle hI' hA hx;obtain ⟨h1,rfl,rfl,v,hv⟩:=fin a m2 e he u2 hq;obtain ⟨v',hv',_⟩:=JcH hI' hA.1 hv;have hd:a'.defers = []:=by
      have:=hA.2
      rw [h1] at this;cases hq:a'.defers with
      | nil=>rfl
      | cons=>rw [hq] at this;exact this.elim
     rcases he with rfl | rfl <;> cases hx <;> exact ⟨hd,u2',rfl,v',hv',ρ',hle,hI',⟨v',rfl⟩,(hu2.mono hle).settle⟩
    refine callsD_of_wpS hfn hc fun c₀ cs hmode => ?_
    cases hrec:JaL c with
    | some p =>
     obtain ⟨d,rest⟩:=p;rw [hrec] at h;dsimp only at h;obtain ⟨id,ops,o,c0,rfl,rfl,hd,hop,hg,hcal,hargs⟩:=JiL hrec;apply wpS_seq
     apply wpS_region
     have hrange:List.range (#[o]:Array Oper).size = [0]:=rfl;rw [hrange];unfold wpOpsS;have hrun : ∀(a:Act),(execOp a.eval o).run P w = .ok .recover w:=by
      intro a;simp [execOp,hop,resolve,hcal,hargs,invoke,builtin]
     have ho0:(#[o]:Array Oper)[0]? = some o:=rfl;rw [ho0];dsimp only;rw [Jf (by simp [Region.wanted,hg]),hrun];dsimp only;obtain ⟨v',cs',hcs',hval,hu2⟩ : ∃v' u2',(match recoverD (c₀::cs) with | some (v,cs')=>(v,cs') | none=>(.nilIface,c₀::cs))=(v',{ c₀ with mode:=u2' }::cs)∧JX ρ (Q6 u).1 v'∧JbK ρ (Q6 u).2 u2':=by
      have hc0:({ c₀ with mode:=u' }:Frame)=c₀:=by rw [←hmode]
      cases hu with
      | ret=>exact ⟨.nilIface,.returning,by simp [recoverD,hmode];exact hc0.symm,.nilIface,.ret⟩
      | pan r hv=>
       rename_i v v';cases r with
       | true=>exact ⟨.nilIface,.panicking [{ v:=v',recovered:=true }],by simp [recoverD,hmode];exact hc0.symm,.nilIface,.pan true hv⟩
       | false=>exact ⟨v',.panicking [{ v:=v',recovered:=true }],by simp [recoverD,hmode],hv,.pan true hv⟩
     have hA2:=hfr.put (some d) hval;have goal : ∀(vv:Value) (css:List Frame),vv=v'→css = { c₀ with mode:=cs' }::cs →
       wpOpsS P #[o] (Exit.thenS (rest.wpS P (bodyPostS P fn c₀ cs fun e u2 w' => ∃ ρ',ρ.le ρ'∧Inv P B w0 ρ' m1 w'∧(∃v,e = .returned v)∧JbK ρ' u1 (settle u2)))
        (bodyPostS P fn c₀ cs fun e u2 w' => ∃ ρ',ρ.le ρ'∧Inv P B w0 ρ' m1 w'∧(∃v,e = .returned v)∧JbK ρ' u1 (settle u2))) []
        (({ tmps:=args'++Array.replicate (fn.ntmps - args'.size) undef,defers := [] }:Act).put o.dst vv) css w:=by
      intro vv css hvv hcss;subst hvv;subst hcss;simp only [wpOpsS,Exit.thenS];rw [hd];cases hr:ev rest ((frame fn args).put (some d) (Q6 u).1) m with
      | none=>rw [hr] at h;cases h
      | some p=>
       obtain ⟨e,a,m2⟩:=p;rw [hr] at h;refine wpS_of_wp (hev ρ m w rest _ _ e a m2 _ hI hW hA2 hr ?_);cases e with
       | normal=>exact post c₀ cs a m2 .normal _ cs' (.inl rfl) hu2 h
       | ret=>exact post c₀ cs a m2 .ret _ cs' (.inr rfl) hu2 h
       | exit id=>cases h
       | pnc v=>cases h
     split
     ·rename_i v2 cs2 hq;rw [hq] at hcs';simp only [Jm] at hcs';exact goal _ _ hcs'.1 hcs'.2
     ·rename_i hq;rw [hq] at hcs';simp only [Jm] at hcs';exact goal _ _ hcs'.1 hcs'.2
    | none =>
     rw [hrec] at h;dsimp only at h;cases hr:ev c (frame fn args) m with
     | none=>rw [hr] at h;cases h
     | some p=>
      obtain ⟨e,a,m2⟩:=p;rw [hr] at h;have hc0:({ c₀ with mode:=u' }:Frame)=c₀:=by rw [←hmode]
      have key : ∀e,(e = .normal∨e = .ret)→ev c (frame fn args) m=some (e,a,m2)→(match a.defers,Qq P fn a.tmps m2 with | [],some _=>some (XJ u,m2) | _,_=>none)=some (u1,m1) →
        c.wpS P (bodyPostS P fn c₀ cs fun e u2 w' => ∃ ρ',ρ.le ρ'∧Inv P B w0 ρ' m1 w'∧(∃v,e = .returned v)∧JbK ρ' u1 (settle u2)) { tmps:=args'++Array.replicate (fn.ntmps - args'.size) undef,defers := [] } (c₀::cs) w:=by
       intro e he hr h;refine wpS_of_wp (hev ρ m w c _ _ e a m2 _ hI hW hfr hr ?_);have:=post c₀ cs a m2 e u u' he hu h
       rw [hc0] at this;exact this
      cases e with
      | normal=>exact key .normal (.inl rfl) hr h
      | ret=>exact key .ret (.inr rfl) hr h
      | exit id=>cases h
      | pnc v=>cases h
  ·cases h
 ·cases h
theorem JcV {ev : Ev} (hev : EvOK P B w0 ev) (hg : JgR ev) {fn : Func} : ∀ (ds ds' : List Deferred) {ρ : Ren} {m m1 : M} {w : World} {tmps tmps' : Array Value} {u : DM} {u' : FrameMode} {out : Jn4} {R : Ending → World → Prop},
  Inv P B w0 ρ m w→Wf m→JV ρ tmps tmps'→Jd1 ρ ds ds'→JbK ρ u u'→Xu P ev fn tmps ds u m=some (out,m1) →
  (∀ ρ' e w',ρ.le ρ'→Inv P B w0 ρ' m1 w'→Jmx ρ' out e→R e w')→Leaves P fn tmps' R ds' u' w:=by
 intro ds;induction ds with
 | nil =>
  intro ds' ρ m m1 w tmps tmps' u u' out R hI hW ht hd hu h hR;cases ds' with
  | cons=>exact hd.elim
  | nil=>
   cases hu with
   | ret=>
    simp only [Xu,Ja,Jm] at h;obtain ⟨v,hv,rfl,rfl⟩:=h;obtain ⟨v',h1,h2⟩:=JcH hI ht hv;exact ⟨v',h1,hR ρ _ w (Ren.le_refl _) hI (.ret h2)⟩
   | pan r hv=>
    cases r with
    | true=>simp [Xu] at h
    | false=>
     simp only [Xu,Jg,Jm] at h;obtain ⟨rfl,rfl⟩:=h;exact hR ρ _ w (Ren.le_refl _) hI (.pnc hv)
 | cons d ds ih =>
  intro ds' ρ m m1 w tmps tmps' u u' out R hI hW ht hd hu h hR;cases ds' with
  | nil=>exact hd.elim
  | cons d' ds' =>
   obtain ⟨⟨k,cap,cap',t1,t2,hcap,hargs⟩,hds⟩:=hd;simp only [Xu] at h;rw [t1] at h;dsimp only at h;split at h
   ·rename_i u1 m2 hc;obtain ⟨⟨f, hf1, hf2, hf3⟩, hcd⟩ := Jlb hev hI hW hu (hargs.append hcap) hc;have hL : Leaves P fn tmps' R (d' :: ds') u' w ↔ (u' ≠ .run ∧ ∃ fv cap f args, d'.target = .fn fv cap ∧ (invoke d'.target d'.args).run P w = .ok (.enter f args) w ∧
      CallsD P f args u' w fun
       | .returned _,u',w'=>Leaves P fn tmps' R ds' (settle u') w'
       | .panicked chain,u',w'=>Leaves P fn tmps' R ds' (raised u' chain) w'
       | .outgrown,_,w'=>R .outgrown w'):=by
     cases u' <;> exact Iff.rfl
    rw [hL];refine ⟨hu.run_ne,.func k,cap',k,d'.args++cap',t2, ?_, ?_⟩
    ·have hnm : ¬ (f.name = "runtime.NumGoroutine") := by simpa using hf3
     have hbn : ¬(f.body=none):=by intro q;rw [q] at hf2;cases hf2
     simp [t2,invoke,callFunc,hf1,hnm,hbn]
    ·intro c cs hm;obtain ⟨e,u2,w',fr,⟨ρ',hle,hI',⟨v,rfl⟩,hu2⟩,rest⟩:=hcd c cs hm;exact ⟨.returned v,u2,w',fr,ih ds' hI' ((Jgx hg hc).1.wf hW) (ht.mono hle) (hds.mono hle) hu2 h (fun ρ2 e w2 h1=>hR ρ2 e w2 (Ren.le_trans hle h1)),rest⟩
   ·cases h
theorem Inv.grow {ρ:Ren} {m:M} {w w':World} (h:Inv P B w0 ρ m w) (hb:Below w.heap.size w w'):Inv P B w0 ρ m w':=by
 refine ⟨⟨hb.os.trans h.below.os,hb.tape.trans h.below.tape,hb.output.trans h.below.output,Jy h.below.size hb.size,fun k hk => ?_⟩,h.size,h.dom,h.blk, ?_,h.roots,h.tip,h.sep,h.top,h.rosup⟩
 ·rw [hb.block k (Jt hk (Jy h.size h.below.size))];exact h.below.block k hk
 ·intro i b r ha hr;have hh:=h.holds i b r ha hr;exact hh.of_block (hb.block _ (Jdm hh))
variable [Orc P]
theorem Jc0 {ev : Ev} (hev : EvOK P B w0 ev) (hg : JgR ev) : JgS P B w0 (Ja8 P ev) := by
 intro ρ m w f args args' out m1 hI hW ha h;unfold Ja8 at h;split at h
 ·rename_i v hv;cases h;obtain ⟨h0,h1,h2⟩:=Orc.ok f args v hv;have hz:args'=args:=by
   refine Array.ext ha.1.symm fun i hi hj => ?_
   exact JkW 4 (h0 _ (by simp)) (ha.2 i _ _ (by simp [hj]) (by simp [hi]))
  subst hz;refine (h2 w).mono ?_
  rintro e w' ⟨rfl,hb⟩
  exact ⟨ρ,Ren.le_refl _,hI.grow hb,.ret (JaZ ρ 4 v h1)⟩
 split at h
 ·rename_i fn hfn;split at h
  ·rename_i c hc;refine calls_of_wp_defers hfn hc ?_;have hfr:=Ji7 fn ha;split at h
   ·rename_i a m2 hr;refine hev ρ m w c _ _ _ a m2 _ hI hW hfr hr fun ρ' x a' w' hle hI' hA hx => ?_
    cases hx;exact JcV hev hg a.defers a'.defers hI' ((hg _ _ _ _ _ _ hr).1.wf hW) hA.1 hA.2 .ret h fun ρ2 e w2 h1 h2 h3=>⟨ρ2,Ren.le_trans hle h1,h2,h3⟩
   ·rename_i a m2 hr;refine hev ρ m w c _ _ _ a m2 _ hI hW hfr hr fun ρ' x a' w' hle hI' hA hx => ?_
    cases hx;exact JcV hev hg a.defers a'.defers hI' ((hg _ _ _ _ _ _ hr).1.wf hW) hA.1 hA.2 .ret h fun ρ2 e w2 h1 h2 h3=>⟨ρ2,Ren.le_trans hle h1,h2,h3⟩
   ·rename_i v a m2 hr;refine hev ρ m w c _ _ _ a m2 _ hI hW hfr hr fun ρ' x a' w' hle hI' hA hx => ?_
    cases hx;rename_i v' hv;exact JcV hev hg a.defers a'.defers hI' ((hg _ _ _ _ _ _ hr).1.wf hW) hA.1 hA.2 (.pan false hv) h fun ρ2 e w2 h1 h2 h3=>⟨ρ2,Ren.le_trans hle h1,h2,h3⟩
   ·cases h
  ·cases h
 ·cases h
end Go.IM
namespace Go.IM
open Go Go.RowKit
variable {P:Program} [Orc P] {B:Nat} {w0:World}
theorem JvI : ∀ (n : Nat), EvOK P B w0 (E P n) ∧
  ∀(ρ:Ren) (m:M) (w:World) (b:Code) (a a':Act) (e:Out) (a1:Act) (m1:M) (Q:Exit→Act→World→Prop),Inv P B w0 ρ m w→Wf m→Xv ρ a a'→E P n (.loop b) a m=some (e,a1,m1)→Jia P B w0 ρ e a1 m1 Q →
   Code.rounds P b Q n a' w:=by
 intro n;induction n with
 | zero=>exact ⟨fun ρ m w c a a' e a1 m1 Q _ _ _ h=>by simp [E] at h,fun ρ m w c a a' e a1 m1 Q _ _ _ h=>by simp [E] at h⟩
 | succ n ih =>
  obtain ⟨ih1,ih2⟩:=ih;have hloop : ∀(ρ:Ren) (m:M) (w:World) (b:Code) (a a':Act) (e:Out) (a1:Act) (m1:M) (Q:Exit→Act→World→Prop),Inv P B w0 ρ m w→Wf m→Xv ρ a a'→E P (n+1) (.loop b) a m=some (e,a1,m1)→Jia P B w0 ρ e a1 m1 Q →
    Code.rounds P b Q (n+1) a' w:=by
   intro ρ m w b a a' e a1 m1 Q hI hW hA h hQ;simp only [E] at h;rw [rounds_succ];split at h
   ·rename_i a2 m2 hb;refine ih1 ρ m w b a a' .normal a2 m2 _ hI hW hA hb fun ρ' x a2' w' hle hI' hA' hx => ?_
    cases hx;exact ih2 ρ' m2 w' b a2 a2' e a1 m1 Q hI' ((Jel n _ _ _ _ _ _ hb).1.wf hW) hA' h (hQ.mono hle)
   ·rename_i hn;refine ih1 ρ m w b a a' e a1 m1 _ hI hW hA h fun ρ' x a2' w' hle hI' hA' hx => ?_
    have:=hQ ρ' x a2' w' hle hI' hA' hx
    cases hx with
    | normal=>exact absurd h (hn a1 m1)
    | _=>exact this
  refine ⟨?_,hloop⟩;intro ρ m w c a a' e a1 m1 Q hI hW hA h hQ;cases c with
  | loop b=>exact wp_loop_rounds (n+1) (hloop ρ m w b a a' e a1 m1 Q hI hW hA h hQ)
  | skip=>simp only [E,Jg,Jm] at h;obtain ⟨rfl,rfl,rfl⟩:=h;exact wp_skip (hQ ρ _ a' w (Ren.le_refl _) hI hA .normal)
  | label l=>simp only [E,Jg,Jm] at h;obtain ⟨rfl,rfl,rfl⟩:=h;exact wp_label (hQ ρ _ a' w (Ren.le_refl _) hI hA .normal)
  | exit id=>simp only [E,Jg,Jm] at h;obtain ⟨rfl,rfl,rfl⟩:=h;exact wp_exit (hQ ρ _ a' w (Ren.le_refl _) hI hA (.exit id))
  | ret=>simp only [E,Jg,Jm] at h;obtain ⟨rfl,rfl,rfl⟩:=h;exact wp_ret (hQ ρ _ a' w (Ren.le_refl _) hI hA .ret)
  | region id ops draw=>
   simp only [E] at h;cases draw with
   | true=>exact JnC (Jc0 ih1 (Jel n)) (Jbs (Jel n)) hI hW hA h hQ
   | false=>exact wp_region (JiE (Jc0 ih1 (Jel n)) (Jbs (Jel n)) ops _ hI hW hA h hQ)
  | seq x y=>
   simp only [E] at h;refine wp_seq ?_;split at h
   ·rename_i a2 m2 hb;refine ih1 ρ m w x a a' .normal a2 m2 _ hI hW hA hb fun ρ' x' a2' w' hle hI' hA' hx => ?_
    cases hx;exact ih1 ρ' m2 w' y a2 a2' e a1 m1 Q hI' ((Jel n _ _ _ _ _ _ hb).1.wf hW) hA' h (hQ.mono hle)
   ·rename_i hn;refine ih1 ρ m w x a a' e a1 m1 _ hI hW hA h fun ρ' x' a2' w' hle hI' hA' hx => ?_
    have:=hQ ρ' x' a2' w' hle hI' hA' hx
    cases hx with
    | normal=>exact absurd h (hn a1 m1)
    | _=>exact this
  | cond c x y=>
   simp only [E] at h;split at h
   ·rename_i hok;have hv:=hA.eval hok;split at h
    ·rename_i b hb;rw [hb] at hv;have hb':a'.eval c = .bool b:=by generalize a'.eval c=q at hv;cases hv;rfl
     refine wp_cond hb' ?_;cases b <;> exact ih1 ρ m w _ a a' e a1 m1 Q hI hW hA h hQ
    ·cases h
   ·cases h
  | block id b=>
   simp only [E] at h;refine wp_block ?_;split at h
   ·rename_i id' a2 m2 hb;refine ih1 ρ m w b a a' (.exit id') a2 m2 _ hI hW hA hb fun ρ' x' a2' w' hle hI' hA' hx => ?_
    cases hx;simp only [Exit.inBlock];split at h
    ·rename_i hid;cases h;rw [Jf hid];exact hQ ρ' _ a2' w' hle hI' hA' .normal
    ·rename_i hid;cases h;rw [Jd hid];exact hQ ρ' _ a2' w' hle hI' hA' (.exit id')
   ·rename_i hn;refine ih1 ρ m w b a a' e a1 m1 _ hI hW hA h fun ρ' x' a2' w' hle hI' hA' hx => ?_
    have:=hQ ρ' x' a2' w' hle hI' hA' hx
    cases hx with
    | exit id'=>exact absurd h (hn id' a1 m1)
    | _=>exact this
  | _=>simp [E] at h
theorem JfK (n:Nat):JgS P B w0 (Ja8 P (E P n)):=Jc0 (JvI n).1 (Jel n)
end Go.IM
namespace Go.IM
open Go Go.RowKit
variable {P:Program} {W:World}
def JoG (c:Array Value) (e:TypeId) (i:Nat):Blk := { obj := .cells c e,root:=i,sup:=false,dead:=false,ro:=true }
def M.addRo (m:M) (c:Array Value) (e:TypeId):M:=(m.set m.nxt (JoG c e m.nxt)).bump
structure JbQ (m:M):Prop where
 blk : ∀i b,m.get i=some b → ∃c e,b=JoG c e i
 dense : ∀i,m.get i=none↔m.nxt≤i
 bar:m.bar=0
structure Ini (P:Program) (W:World) (ρ:Ren) (m:M):Prop where
 inv:Inv P W.heap.size W ρ m W
 ro:JbQ m
theorem JbQ.wf {m:M} (h:JbQ m):Wf m:=by
 intro i x hx;obtain ⟨c,e,rfl⟩:=h.blk i x hx;exact ⟨Je _,_,hx⟩
theorem JbQ.alive {m:M} (h:JbQ m) {i:Nat} {b:Blk} (hb:m.get i=some b):m.alive i=some b:=by
 obtain ⟨c,e,rfl⟩:=h.blk i b hb;exact QQ hb hb rfl
theorem Ini.nil:Ini P W (fun _=>none) ⟨.leaf,0,0⟩:=by
 have hg : ∀i,(⟨.leaf,0,0⟩:M).get i=none:=fun i=>Tr.get_leaf _ _
 refine ⟨⟨Below.refl _ _,Je _,fun _ _=>rfl,fun i b h => ?_,fun i b r h hr => ?_,fun i b h => ?_,fun i j bi bj h => ?_,fun i j bi bj ri rj h _ hr => ?_,fun i j bi bj ri rj h _ hr => ?_,fun i b h => ?_⟩,fun i b h => ?_,fun i => ?_,rfl⟩
 ·rw [hg] at h;cases h
 ·cases hr
 ·rw [hg] at h;cases h
 ·rw [hg] at h;cases h
 ·cases hr
 ·cases hr
 ·rw [hg] at h;cases h
 ·rw [hg] at h;cases h
 ·simp [hg]
theorem Jal (m:M) (c:Array Value) (e:TypeId) (i:Nat):(m.addRo c e).get i=if i=m.nxt then some (JoG c e m.nxt) else m.get i:=by
 unfold M.addRo;rw [M.get_bump,M.get_set];by_cases h:i=m.nxt
 ·rw [Jf h,Jf h.symm]
 ·rw [Jd h,Jd (Ne.symm h)]
theorem JbQ.addRo {m:M} (h:JbQ m) (c:Array Value) (e:TypeId):JbQ (m.addRo c e):=by
 refine ⟨fun i b hb => ?_,fun i => ?_,h.bar⟩
 ·rw [Jal] at hb;split at hb
  ·rename_i hi;cases hb;exact ⟨c,e,by rw [hi]⟩
  ·exact h.blk i b hb
 ·rw [Jal];have:(m.addRo c e).nxt=m.nxt+1:=rfl
  rw [this];split
  ·rename_i hi;simp;omega
  ·rename_i hi;rw [h.dense];omega
theorem Ini.add {ρ:Ren} {m:M} (h:Ini P W ρ m) {g base:Nat} {c c':Array Value} {e e':TypeId} {fr':Nat × Nat} (hg:W.heap[g]? = some (.cells c' e' fr')) (hsz:base+c.size≤c'.size)
  (hc : ∀(k:Nat) (x:Value),c[k]? = some x → ∃y,c'[base+k]? = some y∧JX ρ x y):Ini P W (ρ.upd m.nxt ⟨g,base,c.size,c.size,P.cellsOf e⟩) (m.addRo c e)∧ρ.le (ρ.upd m.nxt ⟨g,base,c.size,c.size,P.cellsOf e⟩):=by
 have hnone:m.get m.nxt=none:=(h.ro.dense _).2 (Je _);have hle:ρ.le (ρ.upd m.nxt ⟨g,base,c.size,c.size,P.cellsOf e⟩):=Ren.le_upd _ _ _ (h.inv.dom _ hnone);have hro:=h.ro.addRo c e;refine ⟨⟨⟨h.inv.below,h.inv.size,fun i hi => ?_,fun i b hb => ?_,fun i b r hb hr => ?_,fun i b hb => ?_,fun i j bi bj hi hj he _ _ => ?_,fun i j bi bj ri rj hi hj _ _ _ => ?_,fun i j bi bj ri rj hi hj h1 h2 _ he _ => ?_,fun i b hb _ => ?_⟩,hro⟩,hle⟩
 ·rw [Jal] at hi;split at hi
  ·cases hi
  ·rename_i hne;rw [Ren.upd_ne _ _ hne];exact h.inv.dom i hi
 ·by_cases hi:i=m.nxt
  ·subst hi;exact ⟨_,Ren.upd_same _ _ _⟩
  ·rw [Jal,Jd hi] at hb;rw [Ren.upd_ne _ _ hi];exact h.inv.blk i b hb
 ·have hb':=JO hb
  by_cases hi:i=m.nxt
  ·subst hi;rw [Jal,Jf rfl] at hb';cases hb';rw [Ren.upd_same] at hr;cases hr;unfold Qx JoG;dsimp only;refine ⟨rfl,rfl,c',e',fr',hg,hsz,fun k x hx => ?_,fun _=>⟨(Jv.1 hg).1,rfl⟩,fun q=>(by cases q)⟩;obtain ⟨y,h1,h2⟩:=hc k x hx;exact ⟨y,h1,h2.mono hle⟩
  ·rw [Jal,Jd hi] at hb';rw [Ren.upd_ne _ _ hi] at hr;exact (h.inv.holds i b r (h.ro.alive hb') hr).mono hle
 ·obtain ⟨c1,e1,rfl⟩:=hro.blk i b hb;exact ⟨_,hb,rfl,fun q=>absurd rfl q⟩
 ·obtain ⟨c1,e1,rfl⟩:=hro.blk i bi hi;obtain ⟨c2,e2,rfl⟩:=hro.blk j bj hj;exact he
 ·obtain ⟨c1,e1,rfl⟩:=hro.blk i bi (JO hi);obtain ⟨c2,e2,rfl⟩:=hro.blk j bj (JO hj);exact .inr ⟨rfl,rfl⟩
 ·obtain ⟨c1,e1,rfl⟩:=hro.blk i bi (JO hi);obtain ⟨c2,e2,rfl⟩:=hro.blk j bj (JO hj)
  change i=j at he
  subst he;rw [h1] at h2;cases h2;exact Je _
 ·obtain ⟨c1,e1,rfl⟩:=hro.blk i b hb;exact ⟨rfl,rfl⟩
def Jay (ok:TypeId→List Value→Prop) (sz:TypeId→Nat):List TypeId→List Value→Prop
 | [],cs=>cs = []
 | t::ts,cs=>ok t (cs.take (sz t))∧Jay ok sz ts (cs.drop (sz t))
def OkV (P:Program) (m:M) (L:Nat):Nat→TypeId→List Value→Prop
 | 0,_,_=>False
 | f+1,t,cs=>match P.underlying t with
  | some .bool => ∃b,cs = [.bool b]
  | some (.int k) => ∃n,cs = [.int k n]∧(Lit.int k n).wf=true
  | some (.float k) => ∃b,cs = [.float k b]∧(Lit.float k b).wf=true
  | some .string => ∃s,cs = [.string s]∧s.size≤maxLen
  | some (.slice e)=>cs = [.slice none 0 0]∨(∃i,cs = [.slice (some ⟨i,0,none⟩) 0 0]) ∨
   ∃i len cap c,cs = [.slice (some ⟨i,0,none⟩) len cap]∧0<cap∧len≤cap∧cap≤L∧m.get i=some (JoG c e i)∧Jay (OkV P m L f) P.cellsOf (List.replicate cap e) c.toList
  | some (.struct fs)=>Jay (OkV P m L f) P.cellsOf (fs.toList.map (·.type)) cs
  | some (.array n e)=>Jay (OkV P m L f) P.cellsOf (List.replicate n e) cs
  | _=>False
theorem Jax {ok ok':TypeId→List Value→Prop} {sz:TypeId→Nat} (h : ∀t cs,ok t cs→ok' t cs) : ∀{ts:List TypeId} {cs:List Value},Jay ok sz ts cs→Jay ok' sz ts cs:=by
 intro ts;induction ts with
 | nil=>intro cs hc;exact hc
 | cons t ts ih=>intro cs hc;exact ⟨h _ _ hc.1,ih hc.2⟩
def Ext (m m':M):Prop:=m.nxt≤m'.nxt ∧ ∀i b,m.get i=some b→m'.get i=some b
theorem Ext.refl (m:M):Ext m m:=⟨Je _,fun _ _ h=>h⟩
theorem Ext.trans {a b c:M} (h:Ext a b) (k:Ext b c):Ext a c:=⟨Jy h.1 k.1,fun i x hx=>k.2 i x (h.2 i x hx)⟩
theorem JbQ.ext {m:M} (h:JbQ m) (c:Array Value) (e:TypeId):Ext m (m.addRo c e):=by
 refine ⟨Nat.le_succ _,fun i b hb => ?_⟩;rw [Jal,Jd]
 ·exact hb
 ·intro hi;rw [hi,(h.dense _).2 (Je _)] at hb;cases hb
theorem JfR {m m':M} {L:Nat} (he:Ext m m') : ∀(f:Nat) {t:TypeId} {cs:List Value},OkV P m L f t cs→OkV P m' L f t cs:=by
 intro f;induction f with
 | zero=>intro t cs h;exact h
 | succ f ih=>
  intro t cs h;unfold OkV at h ⊢;split at h
  ·exact h
  ·exact h
  ·exact h
  ·exact h
  ·rcases h with h | h|⟨i,len,cap,c,h1,h2,h3,h4,h5,h6⟩
   ·exact .inl h
   ·exact .inr (.inl h)
   ·exact .inr (.inr ⟨i,len,cap,c,h1,h2,h3,h4,he.2 _ _ h5,Jax (fun _ _=>ih) h6⟩)
  ·exact Jax (fun _ _=>ih) h
  ·exact Jax (fun _ _=>ih) h
  ·cases h
def Jos (P:Program):List Field→Nat→Nat→Bool
 | [],off,tot=>decide (off=tot)
 | fd::r,off,tot=>decide (fd.offset=off) && Jos P r (off+P.cellsOf fd.type) tot
def Jht (P:Program):Nat→TypeId→Bool
 | 0,_=>false
 | f+1,t=>match P.underlying t with
  | some .bool | some (.int _) | some (.float _) | some .string=>decide (P.cellsOf t=1)
  | some (.slice e)=>decide (P.cellsOf t=1) && decide (0<P.cellsOf e) && Jht P f e
  | some (.struct fs)=>Jos P fs.toList 0 (P.cellsOf t) && fs.toList.all fun fd=>Jht P f fd.type
  | some (.array n e)=>decide (P.cellsOf t=n*P.cellsOf e) && Jht P f e
  | _=>false
def Jek (ρ:Ren):List Value→List Value→Prop
 | [], []=>True
 | x::l,y::r=>JX ρ x y∧Jek ρ l r
 | _,_=>False
theorem Jek.mono {ρ ρ':Ren} (hr:ρ.le ρ') : ∀{l l':List Value},Jek ρ l l'→Jek ρ' l l'
 | [], [],_=>trivial
 | _::_,_::_,h=>⟨h.1.mono hr,h.2.mono hr⟩
theorem Jek.append {ρ:Ren} : ∀{a a' b b':List Value},Jek ρ a a'→Jek ρ b b'→Jek ρ (a++b) (a'++b')
 | [], [],_,_,_,k=>k
 | _::_,_::_,_,_,h,k=>⟨h.1,h.2.append k⟩
theorem Jek.length {ρ:Ren} : ∀{l l':List Value},Jek ρ l l'→l.length=l'.length
 | [], [],_=>rfl
 | _::_,_::_,h=>by simp [h.2.length]
theorem Jek.get {ρ:Ren} : ∀{l l':List Value},Jek ρ l l' → ∀(k:Nat) (x:Value),l[k]? = some x → ∃y,l'[k]? = some y∧JX ρ x y
 | [], [],_,k,x,h=>by simp at h
 | _::_,b::_,h,0,x,hx=>⟨b,rfl,by simp at hx;subst hx;exact h.1⟩
 | _::_,_::_,h,k+1,x,hx=>by
  obtain ⟨y,h1,h2⟩:=h.2.get k x (by simpa using hx);exact ⟨y,by simpa using h1,h2⟩
theorem Jek.vs {ρ:Ren} {l l':List Value} (h:Jek ρ l l'):JV ρ l.toArray l'.toArray:=by
 refine ⟨by simp [h.length],fun i x y hx hy => ?_⟩;obtain ⟨z,h1,h2⟩:=h.get i x (by simpa using hx);simp at hy;rw [h1] at hy;cases hy;exact h2
theorem JlN {α β : Type} {f : α → Option β} : ∀ {l : List α} {r : List β}, l.mapM f = some r → ∀ x ∈ l, ∃ y, f x = some y := by
 intro l;induction l with
 | nil=>intro r _ x hx;cases hx
 | cons a l ih=>
  intro r h x hx;rw [List.mapM_cons] at h;cases ha:f a with
  | none=>rw [ha] at h;cases h
  | some b=>
   rw [ha] at h;cases hl:l.mapM f with
   | none=>rw [hl] at h;cases h
   | some r2=>
    rcases JJ.1 hx with rfl | hx
    ·exact ⟨b,ha⟩
    ·exact ih hl x hx
theorem Jdo (cs:List Value) (sz:Nat) : ∀n:Nat,(List.range n).flatMap (fun i=>(cs.drop (i*sz)).take sz)=cs.take (n*sz):=by
 intro n;induction n with
 | zero=>simp
 | succ n ih=>
  rw [List.range_succ,List.flatMap_append,ih];simp only [List.flatMap_cons,List.flatMap_nil,List.append_nil];rw [Nat.succ_mul,List.take_add]
theorem JhW (cs:List Value) {tot:Nat} : ∀(fs:List Field) (off:Nat),Jos P fs off tot=true→fs.flatMap (fun fd=>(cs.drop fd.offset).take (P.cellsOf fd.type))=(cs.drop off).take (tot - off)∧off≤tot ∧ ∀fd∈fs,fd.offset+P.cellsOf fd.type≤tot:=by
 intro fs;induction fs with
 | nil=>
  intro off h;simp only [Jos,decide_eq_true_eq] at h;subst h;simp
 | cons fd fs ih=>
  intro off h;simp only [Jos,Jh,decide_eq_true_eq] at h;obtain ⟨rfl,h⟩:=h;obtain ⟨h1,h2,h3⟩:=ih _ h;refine ⟨?_,by omega,fun x hx => ?_⟩
  ·rw [List.flatMap_cons,h1];have e:tot - fd.offset=P.cellsOf fd.type+(tot - (fd.offset+P.cellsOf fd.type)):=by omega
   rw [e,List.take_add,List.drop_drop]
  ·rcases JJ.1 hx with rfl | hx
   ·exact h2
   ·exact h3 x hx
def Opens (P:Program) (W:World) (L f:Nat) (t:TypeId) (cs:List Value):Prop:=
 ∀(ρ:Ren) (m:M),Ini P W ρ m → ∃ ρ' m' cs0,ρ.le ρ'∧Ext m m'∧Ini P W ρ' m'∧Jek ρ' cs0 cs∧OkV P m' L f t cs0
theorem Jb4 {L f:Nat} : ∀(l:List (TypeId × List Value)),(∀p∈l,p.2.length=P.cellsOf p.1∧Opens P W L f p.1 p.2) → ∀(ρ:Ren) (m:M),Ini P W ρ m →
  ∃ ρ' m' cs0,ρ.le ρ'∧Ext m m'∧Ini P W ρ' m'∧Jek ρ' cs0 (l.flatMap (·.2))∧Jay (OkV P m' L f) P.cellsOf (l.map (·.1)) cs0:=by
 intro l;induction l with
 | nil=>intro _ ρ m h;exact ⟨ρ,m, [],Ren.le_refl _,Ext.refl _,h,trivial,rfl⟩
 | cons p l ih=>
  intro hl ρ m h;obtain ⟨hlen,hop⟩:=hl p (by simp);obtain ⟨ρ1,m1,c1,a1,a2,a3,a4,a5⟩:=hop ρ m h;obtain ⟨ρ2,m2,c2,b1,b2,b3,b4,b5⟩:=ih (fun q hq=>hl q (by simp [hq])) ρ1 m1 a3;have hc1:c1.length=P.cellsOf p.1:=by rw [a4.length,hlen]
  refine ⟨ρ2,m2,c1++c2,Ren.le_trans a1 b1,a2.trans b2,b3, ?_, ?_, ?_⟩
  ·rw [List.flatMap_cons];exact (a4.mono b1).append b4
  ·rw [←hc1,List.take_left];exact JfR b2 f a5
  ·rw [←hc1,List.drop_left];exact b5
theorem JfJ {a : Addr} {n : Nat} {l : List Value} (hn : 0 < n) (h : W.cells? 0 a n = some l) : ∃ c e fr, W.heap[a.block]? = some (.cells c e fr) ∧ a.spot = none ∧ a.off + n ≤ c.size ∧ l = (c.toList.drop a.off).take n := by
 unfold World.cells? at h;rw [Jf (Nat.zero_le _)] at h;obtain ⟨v0,h0⟩:=JlN h 0 (by simp [hn]);have e0:a.add 0=a:=rfl;rw [e0] at h0;unfold World.cell? at h0;split at h0
 ·rename_i c e fr hb;split at h0
  ·cases h0
  ·rename_i hs;have hspot : a.spot = none := by
    cases hq:a.spot with
    | none=>rfl
    | some=>rw [hq] at hs;simp at hs
   have hcell : ∀i,W.cell? (a.add i)=c[a.off+i]? := by
    intro i;unfold World.cell? Addr.add;by_cases hi:i=0
    ·subst hi;rw [Jf rfl,hb];dsimp only;rw [hspot];simp
    ·rw [Jd hi];dsimp only;rw [hb];simp
   have hf:(fun i=>W.cell? (a.add i))=fun i=>c[a.off+i]? := by funext i;exact hcell i
   rw [hf] at h;have hfit:a.off+n≤c.size:=by
    obtain ⟨y,hy⟩:=JlN h (n - 1) (by simp;omega)
    have:=(Jv.1 hy).1
    omega
   refine ⟨c,e,fr,hb,hspot,hfit, ?_⟩;have key : ∀k,k≤n→(List.range k).mapM (fun i=>c[a.off+i]?)=some ((c.toList.drop a.off).take k):=by
    intro k;induction k with
    | zero=>intro _;rfl
    | succ k ih=>
     intro hk;rw [List.range_succ,List.mapM_append,ih (by omega)];have hlt:a.off+k<c.size:=by omega
     have hx:c[a.off+k]? = some c[a.off+k]:=by simp [hlt]
     simp only [List.mapM_cons,List.mapM_nil,hx];have:(c.toList.drop a.off).take (k+1)=(c.toList.drop a.off).take k ++ [c[a.off+k]]:=by
      rw [List.take_add_one]
      congr 1
      rw [List.getElem?_drop];simp [hlt]
     rw [this];rfl
   rw [key n (Je _)] at h;exact (Option.some.inj h).symm
 ·cases h0
end Go.IM
namespace Go.IM
open Go Go.RowKit
variable {P:Program} {W:World} {H:Type} {enc:TypeId × Value→H}
theorem Jek.one {ρ:Ren} {x y:Value} (h:JX ρ x y):Jek ρ [x] [y]:=⟨h,trivial⟩
theorem Jor {fuel:Nat} {t:TypeId} {cs:List Value} {x:DataW H × List MemPlace} (hu:P.underlying t=some .bool) (h:DataW.trod enc P W 0 (fun _=>true) true (fuel+1) t cs=some x) : ∃b,cs = [.bool b]:=by
 unfold DataW.trod at h;rw [hu] at h;split at h <;> first | (rename_i q _;cases q;done) | (rename_i q;cases q;done) | (cases h;done) | skip
 all_goals exact ⟨_,rfl⟩
theorem JqY {fuel:Nat} {t:TypeId} {k:IntKind} {cs:List Value} {x:DataW H × List MemPlace} (hu:P.underlying t=some (.int k)) (h:DataW.trod enc P W 0 (fun _=>true) true (fuel+1) t cs=some x) : ∃n,cs = [.int k n]∧(Lit.int k n).wf=true:=by
 unfold DataW.trod at h;rw [hu] at h;split at h <;> first | (rename_i q _;cases q;done) | (rename_i q;cases q;done) | (cases h;done) | skip
 all_goals rename_i q
 all_goals cases q
 all_goals split at h
 all_goals first | (cases h;done) | skip
 all_goals rename_i q
 all_goals obtain ⟨rfl,q2⟩:=q
 all_goals exact ⟨_,rfl,q2⟩
theorem JmK {fuel:Nat} {t:TypeId} {k:FloatKind} {cs:List Value} {x:DataW H × List MemPlace} (hu:P.underlying t=some (.float k)) (h:DataW.trod enc P W 0 (fun _=>true) true (fuel+1) t cs=some x) : ∃n,cs = [.float k n]∧(Lit.float k n).wf=true:=by
 unfold DataW.trod at h;rw [hu] at h;split at h <;> first | (rename_i q _;cases q;done) | (rename_i q;cases q;done) | (cases h;done) | skip
 all_goals rename_i q
 all_goals cases q
 all_goals split at h
 all_goals first | (cases h;done) | skip
 all_goals rename_i q
 all_goals obtain ⟨rfl,q2⟩:=q
 all_goals exact ⟨_,rfl,q2⟩
theorem Jka {fuel:Nat} {t:TypeId} {cs:List Value} {x:DataW H × List MemPlace} (hu:P.underlying t=some .string) (h:DataW.trod enc P W 0 (fun _=>true) true (fuel+1) t cs=some x) : ∃s,cs = [.string s]∧s.size≤maxLen:=by
 unfold DataW.trod at h;rw [hu] at h;split at h <;> first | (rename_i q _;cases q;done) | (rename_i q;cases q;done) | (cases h;done) | skip
 all_goals split at h
 all_goals first | (cases h;done) | skip
 all_goals rename_i q
 all_goals exact ⟨_,rfl,q⟩
structure Bulk (H:Type) where
 f:DataW H→Nat
 sl : ∀es sp,es.length+sp.length≤f (.slice es sp) ∧ ∀d,d∈es∨d∈sp→f d≤f (.slice es sp)
 ag : ∀ps d,d∈ps→f d≤f (.agg ps)
def Jf7 (L:Nat) (B:Option (Bulk H)) (d:DataW H):Prop:=
 match B with
 | none=>L=maxLen
 | some B=>B.f d≤L
theorem Jf7.sl {L:Nat} {B:Option (Bulk H)} {es sp:List (DataW H)} (h:Jf7 L B (.slice es sp)):(es.length+sp.length≤maxLen→es.length+sp.length≤L) ∧ ∀d,d∈es∨d∈sp→Jf7 L B d:=by
 cases B with
 | none=>exact ⟨fun q=>(show L=maxLen from h)▸q,fun _ _=>h⟩
 | some B=>
  have h':B.f (.slice es sp)≤L:=h
  have:=B.sl es sp
  exact ⟨fun _=>Jy this.1 h',fun d hd=>Jy (this.2 d hd) h'⟩
theorem Jf7.ag {L:Nat} {B:Option (Bulk H)} {ps:List (DataW H)} (h:Jf7 L B (.agg ps)) : ∀d,d∈ps→Jf7 L B d:=by
 cases B with
 | none=>exact fun _ _=>h
 | some B=>exact fun d hd=>Jy (B.ag ps d hd) h
theorem Jdd {α β:Type} {f:α→Option β} : ∀{l:List α} {r:List β},l.mapM f=some r → ∀x∈l,∃y,f x=some y∧y∈r:=by
 intro l;induction l with
 | nil=>intro r _ x hx;cases hx
 | cons a l ih=>
  intro r h x hx;simp only [List.mapM_cons,Option.pure_def,Option.bind_eq_bind,Jp,Jg] at h;obtain ⟨y,hy,r',hr',rfl⟩:=h;rcases JJ.1 hx with rfl | hx
  ·exact ⟨y,hy,by simp⟩
  ·obtain ⟨z,h1,h2⟩:=ih hr' x hx;exact ⟨z,h1,by simp [h2]⟩
theorem JlO {α β:Type} {f:α→Option β} : ∀{l:List α} {r:List β},l.mapM f=some r→r.length=l.length:=by
 intro l;induction l with
 | nil=>intro r h;simp only [List.mapM_nil,Option.pure_def,Jg] at h;subst h;rfl
 | cons a l ih=>
  intro r h;simp only [List.mapM_cons,Option.pure_def,Option.bind_eq_bind,Jp,Jg] at h;obtain ⟨y,hy,r',hr',rfl⟩:=h;simp [ih hr']
theorem Jj9 {fuel:Nat} {t:TypeId} {fs:Array Field} {cs:List Value} {x:DataW H × List MemPlace} (hu:P.underlying t=some (.struct fs)) (h:DataW.trod enc P W 0 (fun _=>true) true (fuel+1) t cs=some x) :
  cs.length=P.cellsOf t ∧ ∃ps,x.1 = .agg ps ∧ ∀fd∈fs.toList,∃y,DataW.trod enc P W 0 (fun _=>true) true fuel fd.type ((cs.drop fd.offset).take (P.cellsOf fd.type))=some y∧y.1∈ps:=by
 unfold DataW.trod at h;rw [hu] at h;split at h <;> first | (rename_i q _;cases q;done) | (rename_i q;cases q;done) | (cases h;done) | skip
 all_goals try (rename_i q;cases q)
 all_goals split at h
 all_goals first | (cases h;done) | skip
 all_goals rename_i q
 all_goals simp only [Ja] at h
 all_goals obtain ⟨r,hr,hx⟩:=h
 all_goals subst hx
 all_goals exact ⟨q,_,rfl,fun z hz=>(Jdd hr z hz).imp fun y hy=>⟨hy.1,List.mem_map.2 ⟨y,hy.2,rfl⟩⟩⟩
theorem JmL {fuel:Nat} {t:TypeId} {n:Nat} {e:TypeId} {cs:List Value} {x:DataW H × List MemPlace} (hu:P.underlying t=some (.array n e)) (h:DataW.trod enc P W 0 (fun _=>true) true (fuel+1) t cs=some x) :
  cs.length=P.cellsOf t ∧ ∃ps,x.1 = .agg ps ∧ ∀i∈List.range n,∃y,DataW.trod enc P W 0 (fun _=>true) true fuel e ((cs.drop (i*P.cellsOf e)).take (P.cellsOf e))=some y∧y.1∈ps:=by
 unfold DataW.trod at h;rw [hu] at h;split at h <;> first | (rename_i q _;cases q;done) | (rename_i q;cases q;done) | (cases h;done) | skip
 all_goals try (rename_i q;cases q)
 all_goals split at h
 all_goals first | (cases h;done) | skip
 all_goals rename_i q
 all_goals simp only [Ja] at h
 all_goals obtain ⟨r,hr,hx⟩:=h
 all_goals subst hx
 all_goals exact ⟨q,_,rfl,fun z hz=>(Jdd hr z hz).imp fun y hy=>⟨hy.1,List.mem_map.2 ⟨y,hy.2,rfl⟩⟩⟩
theorem JmJ {fuel : Nat} {t e : TypeId} {cs : List Value} {x : DataW H × List MemPlace} (hu : P.underlying t = some (.slice e)) (h : DataW.trod enc P W 0 (fun _ => true) true (fuel + 1) t cs = some x) :
  cs = [.slice none 0 0] ∨ ∃a len cap es sp,cs = [.slice (some a) len cap]∧len≤cap∧cap≤maxLen∧x.1 = .slice es sp∧es.length+sp.length=cap ∧
   ∀i,i<cap → ∃l y,W.cells? 0 (a.add (i*P.cellsOf e)) (P.cellsOf e)=some l∧DataW.trod enc P W 0 (fun _=>true) true fuel e l=some y∧(y.1∈es∨y.1∈sp):=by
 unfold DataW.trod at h;rw [hu] at h;split at h <;> first | (rename_i q _;cases q;done) | (rename_i q;cases q;done) | (cases h;done) | skip
 ·exact .inl rfl
 ·rename_i a len cap q;cases q;right;split at h
  ·rename_i hc;simp only [Jp] at h;obtain ⟨r,hr,h⟩:=h;rw [Jf trivial] at h;simp only [Ja] at h;obtain ⟨r2,hr2,hx⟩:=h;subst hx;have hl1:=JlO hr;have hl2:=JlO hr2;rw [List.length_range] at hl1 hl2;refine ⟨a,len,cap,_,_,rfl,hc.2.1,hc.2.2,rfl,by simp only [List.length_map];have:=hc.2.1;omega, ?_⟩
   intro i hi;by_cases hil:i<len
   ·obtain ⟨y,hy,hm⟩:=Jdd hr i (by simp [hil]);simp only [Jp] at hy;obtain ⟨l,h1,h2⟩:=hy;exact ⟨l,y,h1,h2,.inl (List.mem_map.2 ⟨y,hm,rfl⟩)⟩
   ·obtain ⟨y,hy,hm⟩:=Jdd hr2 (i - len) (by simp;omega)
    rw [show len+(i - len)=i by omega] at hy;simp only [Jp] at hy;obtain ⟨l,h1,h2⟩:=hy;exact ⟨l,y,h1,h2,.inr (List.mem_map.2 ⟨y,hm,rfl⟩)⟩
  ·cases h
theorem Jhu {L : Nat} {B : Option (Bulk H)} : ∀ (fuel f : Nat) {t : TypeId} {cs : List Value} {x : DataW H × List MemPlace}, DataW.trod enc P W 0 (fun _ => true) true fuel t cs = some x → Jf7 L B x.1 → Jht P f t = true → Opens P W L f t cs ∧ cs.length = P.cellsOf t := by
 intro fuel;induction fuel with
 | zero=>intro f t cs x h;simp [DataW.trod] at h
 | succ fuel ih =>
  intro f t cs x h hsm hp;cases f with
  | zero=>simp [Jht] at hp
  | succ f =>
   unfold Jht at hp;split at hp
   ·rename_i hu;obtain ⟨b,rfl⟩:=Jor hu h;simp only [decide_eq_true_eq] at hp;exact ⟨fun ρ m hI=>⟨ρ,m,_,Ren.le_refl _,Ext.refl _,hI,Jek.one (.bool _),by unfold OkV;rw [hu];exact ⟨_,rfl⟩⟩,by rw [hp];rfl⟩
   ·rename_i k hu;obtain ⟨n,rfl,hwf⟩:=JqY hu h;simp only [decide_eq_true_eq] at hp;exact ⟨fun ρ m hI=>⟨ρ,m,_,Ren.le_refl _,Ext.refl _,hI,Jek.one (.int _ _),by unfold OkV;rw [hu];exact ⟨_,rfl,hwf⟩⟩,by rw [hp];rfl⟩
   ·rename_i k hu;obtain ⟨n,rfl,hwf⟩:=JmK hu h;simp only [decide_eq_true_eq] at hp;exact ⟨fun ρ m hI=>⟨ρ,m,_,Ren.le_refl _,Ext.refl _,hI,Jek.one (.float _ _),by unfold OkV;rw [hu];exact ⟨_,rfl,hwf⟩⟩,by rw [hp];rfl⟩
   ·rename_i hu;obtain ⟨s,rfl,hs⟩:=Jka hu h;simp only [decide_eq_true_eq] at hp;exact ⟨fun ρ m hI=>⟨ρ,m,_,Ren.le_refl _,Ext.refl _,hI,Jek.one (.string _),by unfold OkV;rw [hu];exact ⟨_,rfl,hs⟩⟩,by rw [hp];rfl⟩
   ·rename_i e hu;simp only [Jh, decide_eq_true_eq] at hp;obtain ⟨⟨hp1, hp2⟩, hp3⟩ := hp;rcases JmJ hu h with rfl | ⟨a, len, cap, es, sp, rfl, hlc, hcm, hxx, hcap0, hel⟩
    ·exact ⟨fun ρ m hI=>⟨ρ,m,_,Ren.le_refl _,Ext.refl _,hI,Jek.one .sliceNil,by unfold OkV;rw [hu];exact .inl rfl⟩,by rw [hp1];rfl⟩
    ·refine ⟨fun ρ m hI => ?_, by rw [hp1];rfl⟩
     rcases Nat.eq_zero_or_pos cap with hc0 | hcap
     ·subst hc0;obtain rfl:len=0:=by omega
      exact ⟨ρ,m, [.slice (some ⟨0,0,none⟩) 0 0],Ren.le_refl _,Ext.refl _,hI,Jek.one (.slice0 _ _),by unfold OkV;rw [hu];exact .inr (.inl ⟨0,rfl⟩)⟩
     ·rw [hxx] at hsm;have hsm2:=hsm.sl;have hcL:cap≤L:=by rw [←hcap0];exact hsm2.1 (by rw [hcap0];exact hcm)
      obtain ⟨l0,y0,h0,_⟩:=hel 0 hcap;rw [Nat.zero_mul] at h0;obtain ⟨c,e1,fr,hb,hspot,hfit0,_⟩:=JfJ hp2 h0
      change W.heap[a.block]? = _ at hb
      change a.spot=none at hspot
      have hcell : ∀i,i<cap→a.off+i*P.cellsOf e+P.cellsOf e≤c.size ∧ ∃y,DataW.trod enc P W 0 (fun _=>true) true fuel e ((c.toList.drop (a.off+i*P.cellsOf e)).take (P.cellsOf e))=some y∧Jf7 L B y.1:=by
       intro i hi;obtain ⟨l,y,h1,h2,h3⟩:=hel i hi;obtain ⟨c',e1',fr',hb',_,hfit,rfl⟩:=JfJ hp2 h1;have hblk:(a.add (i*P.cellsOf e)).block=a.block:=by unfold Addr.add;split <;> rfl
       have hoff:(a.add (i*P.cellsOf e)).off=a.off+i*P.cellsOf e:=by unfold Addr.add;split <;> simp_all
       rw [hblk,hb] at hb';cases hb';rw [hoff] at hfit h2;exact ⟨hfit,y,h2,hsm2.2 _ h3⟩
      have hfit:a.off+cap*P.cellsOf e≤c.size:=by
       have:=(hcell (cap - 1) (by omega)).1
       have e2:cap*P.cellsOf e=(cap - 1)*P.cellsOf e+P.cellsOf e:=by
        conv=>lhs;rw [show cap=(cap - 1)+1 by omega]
        rw [Nat.succ_mul]
       omega
      obtain ⟨ρ1,m1,cs0,g1,g2,g3,g4,g5⟩:=Jb4 (P:=P) (W:=W) (L:=L) (f:=f) ((List.range cap).map fun i=>(e,(((c.toList.drop a.off).drop (i*P.cellsOf e)).take (P.cellsOf e)))) (by
       intro p hpm;rw [List.mem_map] at hpm;obtain ⟨i,hi,rfl⟩:=hpm;rw [List.mem_range] at hi;obtain ⟨_,y,hy,hys⟩:=hcell i hi;dsimp only;rw [List.drop_drop];have:=ih f hy hys hp3
       exact ⟨this.2,this.1⟩) ρ m hI
      have hflat:(((List.range cap).map fun i=>(e,(((c.toList.drop a.off).drop (i*P.cellsOf e)).take (P.cellsOf e)))).flatMap (·.2))=(c.toList.drop a.off).take (cap*P.cellsOf e):=by
       rw [List.flatMap_map];exact Jdo _ _ _
      rw [hflat] at g4;have hmap:(((List.range cap).map fun i=>(e,(((c.toList.drop a.off).drop (i*P.cellsOf e)).take (P.cellsOf e)))).map (·.1))=List.replicate cap e:=by
       rw [List.map_map];apply List.ext_getElem
       ·simp
       ·intro i h1 h2;simp
      rw [hmap] at g5;have hlen:cs0.length=cap*P.cellsOf e:=by
       rw [g4.length,JE,JI,Jq];omega
      obtain ⟨k1,k2⟩:=g3.add (g:=a.block) (base:=a.off) (c:=cs0.toArray) (e:=e) hb (by simp;omega) (by
       intro k x hx;obtain ⟨y,h1,h2⟩:=g4.get k x (by simpa using hx);have hk:k<cap*P.cellsOf e:=by
        have:=(List.getElem?_eq_some_iff.1 h1).1
        rw [JE] at this;omega
       rw [List.getElem?_take,Jf hk,List.getElem?_drop,Jn] at h1;exact ⟨y,h1,h2⟩)
      refine ⟨_,_, [.slice (some ⟨m1.nxt,0,none⟩) len cap],Ren.le_trans g1 k2,g2.trans (g3.ro.ext _ _),k1,Jek.one ?_, ?_⟩
      ·obtain ⟨ab,ao,asp⟩:=a;dsimp only at hspot;subst hspot;exact JX.slice (o:=0) (Ren.upd_same _ _ _) hlc (by simp;omega) (.inl rfl)
      ·unfold OkV;rw [hu];refine .inr (.inr ⟨m1.nxt,len,cap,cs0.toArray,rfl,hcap,hlc,hcL,by rw [Jal,Jf rfl], ?_⟩);exact Jax (fun _ _=>JfR (g3.ro.ext _ _) f) g5
   ·rename_i fs hu;simp only [Jh,List.all_eq_true] at hp;obtain ⟨hp1,hp2⟩:=hp;obtain ⟨hlen,ps,hxx,hel⟩:=Jj9 hu h;rw [hxx] at hsm;obtain ⟨t1,_,t3⟩:=JhW cs fs.toList 0 hp1;refine ⟨fun ρ m hI => ?_,hlen⟩;obtain ⟨ρ1,m1,cs0,g1,g2,g3,g4,g5⟩:=Jb4 (P:=P) (W:=W) (L:=L) (f:=f) (fs.toList.map fun fd=>(fd.type,(cs.drop fd.offset).take (P.cellsOf fd.type))) (by
     intro p hpm;rw [List.mem_map] at hpm;obtain ⟨fd,hfd,rfl⟩:=hpm;obtain ⟨y,hy,hm⟩:=hel fd hfd;have:=ih f hy (hsm.ag _ hm) (hp2 fd hfd)
     exact ⟨this.2,this.1⟩) ρ m hI
    rw [List.flatMap_map,t1] at g4;simp only [List.drop_zero,Nat.sub_zero] at g4;rw [List.take_of_length_le (by omega)] at g4;rw [List.map_map] at g5;exact ⟨ρ1,m1,cs0,g1,g2,g3,g4,by unfold OkV;rw [hu];exact g5⟩
   ·rename_i n e hu;simp only [Jh,decide_eq_true_eq] at hp;obtain ⟨hp1,hp2⟩:=hp;obtain ⟨hlen,ps,hxx,hel⟩:=JmL hu h;rw [hxx] at hsm;refine ⟨fun ρ m hI => ?_,hlen⟩;obtain ⟨ρ1,m1,cs0,g1,g2,g3,g4,g5⟩:=Jb4 (P:=P) (W:=W) (L:=L) (f:=f) ((List.range n).map fun i=>(e,(cs.drop (i*P.cellsOf e)).take (P.cellsOf e))) (by
     intro p hpm;rw [List.mem_map] at hpm;obtain ⟨i,hi,rfl⟩:=hpm;obtain ⟨y,hy,hm⟩:=hel i hi;have:=ih f hy (hsm.ag _ hm) hp2
     exact ⟨this.2,this.1⟩) ρ m hI
    rw [List.flatMap_map,Jdo,List.take_of_length_le (by omega)] at g4;have hmap:(((List.range n).map fun i=>(e,(cs.drop (i*P.cellsOf e)).take (P.cellsOf e))).map (·.1))=List.replicate n e:=by
     rw [List.map_map];apply List.ext_getElem
     ·simp
     ·intro i h1 h2;simp
    rw [hmap] at g5;exact ⟨ρ1,m1,cs0,g1,g2,g3,g4,by unfold OkV;rw [hu];exact g5⟩
   ·cases hp
end Go.IM
namespace Go.IM
open Go Go.RowKit Go.ChangeShapes Go.WideShapes Go.ChangeAt
variable {P : Program} {W : World} {H : Type} {enc : TypeId × Value → H}
def OkA (P : Program) (m : M) (L f : Nat) (t : TypeId) (v : Value) : Prop :=
  match P.underlying t with
  | some (.struct _) | some (.array _ _) => ∃ cs, v = .agg cs ∧ OkV P m L f t cs.toList
  | _ => OkV P m L f t [v]
def JfS (P : Program) (m : M) (L f : Nat) : List TypeId → List Value → Prop
  | [], [] => True
  | t :: ts, v :: vs => OkA P m L f t v ∧ JfS P m L f ts vs
  | _, _ => False
theorem Ju5 {m m' : M} (he : Ext m m') {L f : Nat} {t : TypeId} {v : Value} (h : OkA P m L f t v) : OkA P m' L f t v := by
  unfold OkA at h ⊢
  split at h
  · obtain ⟨cs, h1, h2⟩ := h;exact ⟨cs, h1, JfR he f h2⟩
  · obtain ⟨cs, h1, h2⟩ := h;exact ⟨cs, h1, JfR he f h2⟩
  · exact JfR he f h
theorem JkA {base : Nat} {t : TypeId} {v : Value} (hs : ∀ fs, P.underlying t ≠ some (.struct fs)) (ha : ∀ n e, P.underlying t ≠ some (.array n e)) (h : Value.okWide P W .any base t v) : v.cells = #[v] := by
  unfold Value.okWide at h
  split at h
  · rename_i fs hu;exact absurd hu (hs fs)
  · rename_i n e hu;exact absurd hu (ha n e)
  · unfold Cell.okWide at h
    cases v with
    | agg cs => exfalso;split at h <;> first | (rename_i q;cases q;done) | (rename_i q _;cases q;done) | skip
                all_goals (unfold Cell.ok at h;split at h <;> first | (rename_i q;cases q;done) | (rename_i q _;cases q;done) | exact h)
    | tuple cs => exfalso;split at h <;> first | (rename_i q;cases q;done) | (rename_i q _;cases q;done) | skip
                  all_goals (unfold Cell.ok at h;split at h <;> first | (rename_i q;cases q;done) | (rename_i q _;cases q;done) | exact h)
    | _ => rfl
theorem JoT {L : Nat} {B : Option (Bulk H)} {f base : Nat} {t : TypeId} {v : Value} {d : DataW H} {ps : List MemPlace} (hd : DataW.Trod enc P W 0 (fun _ => true) true t v d ps) (hsm : Jf7 L B d) (hp : Jht P f t = true) (hv : Value.okWide P W .any base t v) (ρ : Ren) (m : M) (hI : Ini P W ρ m) :
    ∃ ρ' m' v0, ρ.le ρ' ∧ Ext m m' ∧ Ini P W ρ' m' ∧ JX ρ' v0 v ∧ OkA P m' L f t v0 := by
  obtain ⟨fuel, hd⟩ := hd
  obtain ⟨ρ', m', cs0, h1, h2, h3, h4, h5⟩ := (Jhu (L := L) (B := B) fuel f hd hsm hp).1 ρ m hI
  have agg : (∃ cs, v = .agg cs) → ∃ v0, v0 = Value.agg cs0.toArray ∧ JX ρ' v0 v := by
    rintro ⟨cs, rfl⟩
    have := h4.vs
    have e : (Value.agg cs).cells.toList.toArray = cs := by simp [Value.cells]
    rw [e] at this
    exact ⟨_, rfl, .agg this.1 this.2⟩
  by_cases hagg : (∃ fs, P.underlying t = some (.struct fs)) ∨ (∃ n e, P.underlying t = some (.array n e))
  · have hv' : ∃ cs, v = .agg cs := by
      unfold Value.okWide at hv
      rcases hagg with ⟨fs, hu⟩ | ⟨n, e, hu⟩ <;> rw [hu] at hv <;> obtain ⟨cs, h, _⟩ := hv <;> exact ⟨cs, h⟩
    obtain ⟨v0, rfl, hrel⟩ := agg hv'
    refine ⟨ρ', m', _, h1, h2, h3, hrel, ?_⟩
    unfold OkA
    rcases hagg with ⟨fs, hu⟩ | ⟨n, e, hu⟩ <;> rw [hu] <;> exact ⟨_, rfl, by simpa using h5⟩
  · have hc := JkA (fun fs h => hagg (.inl ⟨fs, h⟩)) (fun n e h => hagg (.inr ⟨n, e, h⟩)) hv
    rw [hc] at h4
    cases cs0 with
    | nil => exact h4.elim
    | cons v0 r =>
      cases r with
      | cons => exact h4.2.elim
      | nil =>
        refine ⟨ρ', m', v0, h1, h2, h3, h4.1, ?_⟩
        unfold OkA
        split
        · rename_i fs hu;exact absurd (.inl ⟨fs, hu⟩) hagg
        · rename_i n e hu;exact absurd (.inr ⟨n, e, hu⟩) hagg
        · exact h5
theorem Jm4 {L : Nat} {B : Option (Bulk H)} {f base : Nat} : ∀ {ts : List TypeId} {vs : List Value} {ds : List (DataW H)} {ps : List MemPlace}, DataW.TrodAll enc P W 0 (fun _ => true) true ts vs ds ps → (∀ (j : Nat) t v, ts[j]? = some t → vs[j]? = some v → Value.okWide P W .any base t v) → (∀ t ∈ ts, Jht P f t = true) → (∀ d ∈ ds, Jf7 L B d) →
    ∀ (ρ : Ren) (m : M), Ini P W ρ m → ∃ ρ' m' vs0, ρ.le ρ' ∧ Ext m m' ∧ Ini P W ρ' m' ∧ Jek ρ' vs0 vs ∧ JfS P m' L f ts vs0 := by
  intro ts
  induction ts with
  | nil =>
    intro vs ds ps h _ _ _ ρ m hI
    cases vs with
    | nil => exact ⟨ρ, m, [], Ren.le_refl _, Ext.refl _, hI, trivial, trivial⟩
    | cons => cases ds <;> exact h.elim
  | cons t ts ih =>
    intro vs ds ps h hv hp hsm ρ m hI
    cases vs with
    | nil => cases ds <;> exact h.elim
    | cons v vs =>
      cases ds with
      | nil => exact h.elim
      | cons d ds =>
        obtain ⟨p, q, hd, hA, _⟩ := h
        obtain ⟨ρ2, m2, vs0, b1, b2, b3, b4, b5⟩ := ih hA (fun j t' v' h1 h2 => hv (j + 1) t' v' (by simpa using h1) (by simpa using h2)) (fun t' ht => hp t' (by simp [ht])) (fun d' hd' => hsm d' (by simp [hd'])) ρ m hI
        obtain ⟨ρ1, m1, v0, a1, a2, a3, a4, a5⟩ := JoT hd (hsm d (by simp)) (hp t (by simp)) (hv 0 t v rfl rfl) ρ2 m2 b3
        refine ⟨ρ1, m1, v0 :: vs0, Ren.le_trans b1 a1, b2.trans a2, a3, ⟨a4, b4.mono a1⟩, a5, ?_⟩
        have : ∀ {ts : List TypeId} {vs : List Value}, JfS P m2 L f ts vs → JfS P m1 L f ts vs := by
          intro ts
          induction ts with
          | nil => intro vs h;cases vs <;> exact h
          | cons t ts ih2 => intro vs h;cases vs with
            | nil => exact h
            | cons v vs => exact ⟨Ju5 a2 h.1, ih2 h.2⟩
        exact this b5
theorem Jhf {W' : World} (hl : laidOutB P = true) (hb : Below W.heap.size W W') : ∀ {ts : List TypeId} {vs : List Value} {ds : List (DataW H)} {ps : List MemPlace}, DataW.TrodAll enc P W 0 (fun _ => true) true ts vs ds ps → (∀ t ∈ ts, P.readableRec t = true ∧ t < P.types.size) →
    (∀ x ∈ ps, x.block < W.heap.size) → DataW.TrodAll enc P W' 0 (fun b => decide (b < W.heap.size)) true ts vs ds ps := by
  intro ts
  induction ts with
  | nil => intro vs ds ps h _ _;cases vs <;> cases ds <;> exact h
  | cons t ts ih =>
    intro vs ds ps h hr hlt
    cases vs with
    | nil => cases ds <;> exact h.elim
    | cons v vs =>
      cases ds with
      | nil => exact h.elim
      | cons d ds =>
        obtain ⟨p, q, hd, hA, rfl⟩ := h
        exact ⟨p, q, Below.trod hl (hr t (by simp)).1 (hr t (by simp)).2 hd hb (fun x hx => hlt x (by simp [hx])), ih hA (fun t' ht => hr t' (by simp [ht])) (fun x hx => hlt x (by simp [hx])), rfl⟩
def LawL (P : Program) [Orc P] (L : Nat) (f : FuncId) (fn : Func) (depth : Nat) : Prop :=
  ∀ (m : M) (vs : List Value), JbQ m → JfS P m L depth fn.params.toList vs → ∃ n m1, Ja8 P (E P n) f vs.toArray m = some (.ret (.bool true), m1)
abbrev Law (P : Program) [Orc P] (f : FuncId) (fn : Func) (depth : Nat) : Prop := LawL P maxLen f fn depth
theorem lifted {C : Checked} [orc : Orc C.prog] {os : Os} {f depth : Nat} {fn : Func} {s : ChangeSpec} {tb : TypeId} (own : ownKnob C.prog.godebug = none) (started : os.Started) (noInit : C.prog.inits.idxOf? f = none) (hfn : C.prog.funcs[f]? = some fn)
    (hl : laidOutB C.prog = true) (hvars : s.vars = []) (hs : ∀ (ds : List (DataW H)), ds.length = fn.params.size → s.fn H ds = { results := [.lit (.bool true)], args := ds })
    (hpure : (fn.params.toList.all fun t => Jht C.prog depth t && C.prog.readableRec t && decide (t < C.prog.types.size)) = true)
    (hres : fn.resultTypes = #[tb]) (htb : C.prog.underlying tb = some .bool)
    (witness : ∃ (w : World) (tape : Tape) (i : Input), w.os = os ∧ (w.forCall tape i).Shaped C.prog ∧ i.vars = [] ∧ Input.okWide C.prog (w.forCall tape i) .any w.heap.size f i ∧
      s.pre6 enc C.prog fn [] false (w.forCall tape i).memory i.args ∧ ({} : Assume).holds C.prog (lone (Frame.enter C.prog f i.args .normal) [] (w.forCall tape i)))
    (law : Law C.prog f fn depth) : ReturnsInHanded {} C os f .any (s.pre6 enc C.prog fn [] false) (s.post enc C.prog fn false true false false) := by
  refine returnsInHanded_of_change own started noInit hfn witness ?_
  intro W base args ds gs before hval hW hcnd _
  have hW' := hW
  obtain ⟨p, q, hA, hV, rfl, hfz, hnd⟩ := hW
  rw [hvars] at hV
  obtain ⟨rfl, rfl⟩ := trodVars_none hV
  simp only [List.all_eq_true, Jh, decide_eq_true_eq] at hpure
  obtain ⟨ρ, m, vs0, h1, h2, h3, h4, h5⟩ := Jm4 (L := maxLen) (B := none) (f := depth) (base := base) hA (fun j t v ht hv => hval j t v (by simpa using ht) (by simpa using hv)) (fun t ht => (hpure t ht).1.1) (fun _ _ => rfl) (fun _ => none) ⟨.leaf, 0, 0⟩ Ini.nil
  obtain ⟨n, m1, hcall⟩ := law m vs0 h3.ro h5
  have hlen : ds.length = fn.params.size := by
    have : ∀ {ts : List TypeId} {vs : List Value} {ds : List (DataW H)} {ps : List MemPlace}, DataW.TrodAll enc C.prog W 0 (fun _ => true) true ts vs ds ps → ds.length = ts.length := by
      intro ts
      induction ts with
      | nil => intro vs ds ps h;cases vs <;> cases ds <;> first | rfl | exact h.elim
      | cons t ts ih =>
        intro vs ds ps h
        cases vs <;> cases ds <;> first | exact h.elim | skip
        obtain ⟨p, q, _, h, _⟩ := h
        simp [ih h]
    rw [this hA];simp
  have hvs : JV ρ vs0.toArray args := by have := h4.vs;simpa using this
  refine (JfK n ρ m W f vs0.toArray args (.ret (.bool true)) m1 h3.inv h3.ro.wf hvs hcall).mono ?_
  rintro e W' ⟨ρ', hle, hI', he⟩
  cases he with
  | ret hv =>
    cases hv
    have hb := hI'.below
    refine ⟨.bool true, rfl, ds, [], p ++ [], [], p, [], hW', ?_, ?_, ?_, ?_, fun hq => (by cases hq)⟩
    · rw [List.append_nil, hs ds hlen, hres]
      exact trodAll_mk1 (shut_bool htb true)
    · rw [List.append_nil, hs ds hlen]
      exact Jhf hl hb hA (fun t ht => ⟨(hpure t ht).1.2, (hpure t ht).2⟩) hA.lt
    · rw [List.append_nil, hs ds hlen, hvars];rfl
    · exact hb.frame _
end Go.IM
namespace Go.IM
open Go Go.RowKit
variable {P:Program}
def isT:Option (Jn4 × M)→Bool
 | some (.ret (.bool true),_)=>true
 | _=>false
theorem JlQ {r:Option (Jn4 × M)} (h:isT r=true) : ∃m,r=some (.ret (.bool true),m):=by
 unfold isT at h;split at h
 ·exact ⟨_,rfl⟩
 ·cases h
def run0 (P:Program) (n:Nat) (f:FuncId) (args:Array Value):Option (Jn4 × M) := @Ja8 P (Orc.none P) (@E P (Orc.none P) n) f args ⟨.leaf,0,0⟩
theorem JdJ {n:Nat} {f:FuncId} {args:Array Value} {v:Value} {m:M} (h:run0 P n f args=some (.ret v,m)) (ha : ∀x∈args.toList,flat 4 x=true) (hv:flat 4 v=true) (w:World) :
  Calls P f args w fun e w'=>e = .returned v∧Below w.heap.size w w':=by
 have hI:Ini P w (fun _=>none) ⟨.leaf,0,0⟩:=Ini.nil;have hvs:JV (fun _=>none) args args:=by
  refine ⟨rfl,fun i x y hx hy => ?_⟩;rw [hx] at hy;cases hy;exact JaZ _ 4 x (ha x (Array.mem_toList_iff.2 (J2 hx)))
 refine (@JfK P (Orc.none P) w.heap.size w n (fun _=>none) ⟨.leaf,0,0⟩ w f args args (.ret v) m hI.inv hI.ro.wf hvs h).mono ?_
 rintro e w' ⟨ρ',_,hI',he⟩
 cases he with
 | ret hr=>exact ⟨by rw [JkW 4 hv hr],hI'.below⟩
@[reducible] def Orc.one (P:Program) (k:FuncId) (n:Nat) (h:isT (run0 P n k #[])=true):Orc P:=
 ⟨fun f args=>if f=k∧args.size=0 then some (.bool true) else Option.none,fun f args v hv=>by
  split at hv
  ·rename_i e;obtain ⟨rfl,e⟩:=e;cases hv;have e:args = #[]:=JY e;subst e;obtain ⟨m,hm⟩:=JlQ h;exact ⟨fun x hx=>by simp at hx,rfl,JdJ hm (fun x hx=>by simp at hx) rfl⟩
  ·cases hv⟩
@[reducible] def Orc.two (P:Program) (k:FuncId) (n:Nat) (h:isT (run0 P n k #[])=true) (k2:FuncId) (G:Array Value→Option Value) (hG : ∀args v,G args=some v→(∀x∈args.toList,flat 4 x=true)∧flat 4 v=true ∧ ∃n m,run0 P n k2 args=some (.ret v,m)):Orc P:=
 ⟨fun f args=>if f=k∧args.size=0 then some (.bool true) else if f=k2 then G args else Option.none,fun f args v hv=>by
  split at hv
  ·rename_i e;obtain ⟨rfl,e⟩:=e;cases hv;have e:args = #[]:=JY e;subst e;obtain ⟨m,hm⟩:=JlQ h;exact ⟨fun x hx=>by simp at hx,rfl,JdJ hm (fun x hx=>by simp at hx) rfl⟩
  ·split at hv
   ·rename_i e;subst e;obtain ⟨h1,h2,n,m,hm⟩:=hG args v hv;exact ⟨h1,h2,JdJ hm h1 h2⟩
   ·cases hv⟩
end Go.IM
namespace Go.IM
open Go Go.RowKit
variable {P:Program} [Orc P]
def Ev.To (P:Program) [Orc P] (c:Code) (a:Act) (m:M) (e:Out) (a1:Act) (m1:M):Prop := ∃n,∀k,n≤k→E P k c a m=some (e,a1,m1)
def Cal (P:Program) [Orc P] (f:FuncId) (args:Array Value) (m:M) (out:Jn4) (m1:M):Prop := ∃n,∀k,n≤k→Ja8 P (E P k) f args m=some (out,m1)
def Ops (P:Program) [Orc P] (ops:Array Oper) (l:List Nat) (a:Act) (m:M) (e:Out) (a1:Act) (m1:M):Prop := ∃n,∀k,n≤k→Q5 P (Ja8 P (E P k)) ops l a m=some (e,a1,m1)
variable {a a1 a2:Act} {m m1 m2:M} {e:Out} {c x y:Code} {id:Nat}
theorem To.skip:Ev.To P .skip a m .normal a m:=⟨1,fun k hk=>by obtain ⟨k,rfl⟩ : ∃j,k=j+1:=⟨k - 1,by omega⟩;rfl⟩
theorem To.label {l:Nat}:Ev.To P (.label l) a m .normal a m:=⟨1,fun k hk=>by obtain ⟨k,rfl⟩ : ∃j,k=j+1:=⟨k - 1,by omega⟩;rfl⟩
theorem To.exit:Ev.To P (.exit id) a m (.exit id) a m:=⟨1,fun k hk=>by obtain ⟨k,rfl⟩ : ∃j,k=j+1:=⟨k - 1,by omega⟩;rfl⟩
theorem To.ret:Ev.To P .ret a m .ret a m:=⟨1,fun k hk=>by obtain ⟨k,rfl⟩ : ∃j,k=j+1:=⟨k - 1,by omega⟩;rfl⟩
theorem To.seq (h:Ev.To P x a m .normal a1 m1) (h2:Ev.To P y a1 m1 e a2 m2):Ev.To P (.seq x y) a m e a2 m2:=by
 obtain ⟨n1,h⟩:=h;obtain ⟨n2,h2⟩:=h2;refine ⟨n1+n2+1,fun k hk => ?_⟩;obtain ⟨k,rfl⟩ : ∃j,k=j+1:=⟨k - 1,by omega⟩;simp only [E];rw [h k (by omega)];exact h2 k (by omega)
theorem To.seq_out (h:Ev.To P x a m e a1 m1) (he:e ≠ .normal):Ev.To P (.seq x y) a m e a1 m1:=by
 obtain ⟨n1,h⟩:=h;refine ⟨n1+1,fun k hk => ?_⟩;obtain ⟨k,rfl⟩ : ∃j,k=j+1:=⟨k - 1,by omega⟩;simp only [E];rw [h k (by omega)];cases e <;> first | rfl | exact absurd rfl he
theorem To.cond {o:Operand} {b:Bool} (hok:Jak o=true) (hb:a.eval o = .bool b) (h:Ev.To P (if b then x else y) a m e a1 m1):Ev.To P (.cond o x y) a m e a1 m1:=by
 obtain ⟨n1,h⟩:=h;refine ⟨n1+1,fun k hk => ?_⟩;obtain ⟨k,rfl⟩ : ∃j,k=j+1:=⟨k - 1,by omega⟩;simp only [E];rw [hok,hb];exact h k (by omega)
theorem To.block (h:Ev.To P x a m (.exit id) a1 m1):Ev.To P (.block id x) a m .normal a1 m1:=by
 obtain ⟨n1,h⟩:=h;refine ⟨n1+1,fun k hk => ?_⟩;obtain ⟨k,rfl⟩ : ∃j,k=j+1:=⟨k - 1,by omega⟩;simp only [E];rw [h k (by omega)];simp
theorem To.block_out (h:Ev.To P x a m e a1 m1) (he:e ≠ .exit id):Ev.To P (.block id x) a m e a1 m1:=by
 obtain ⟨n1,h⟩:=h;refine ⟨n1+1,fun k hk => ?_⟩;obtain ⟨k,rfl⟩ : ∃j,k=j+1:=⟨k - 1,by omega⟩;simp only [E];rw [h k (by omega)];cases e <;> first | rfl | skip
 rename_i id';dsimp only;rw [Jd];intro h2;exact he (by rw [h2])
theorem To.loop (h:Ev.To P x a m .normal a1 m1) (h2:Ev.To P (.loop x) a1 m1 e a2 m2):Ev.To P (.loop x) a m e a2 m2:=by
 obtain ⟨n1,h⟩:=h;obtain ⟨n2,h2⟩:=h2;refine ⟨n1+n2+1,fun k hk => ?_⟩;obtain ⟨k,rfl⟩ : ∃j,k=j+1:=⟨k - 1,by omega⟩;simp only [E];rw [h k (by omega)];exact h2 k (by omega)
theorem To.loop_out (h:Ev.To P x a m e a1 m1) (he:e ≠ .normal):Ev.To P (.loop x) a m e a1 m1:=by
 obtain ⟨n1,h⟩:=h;refine ⟨n1+1,fun k hk => ?_⟩;obtain ⟨k,rfl⟩ : ∃j,k=j+1:=⟨k - 1,by omega⟩;simp only [E];rw [h k (by omega)];cases e <;> first | rfl | exact absurd rfl he
theorem To.region {ops:Array Oper} {l:List Nat} (hl:List.range ops.size=l) (h:Ops P ops l a m e a1 m1):Ev.To P (.region id ops false) a m e a1 m1:=by
 obtain ⟨n1,h⟩:=h;refine ⟨n1+1,fun k hk => ?_⟩;obtain ⟨k,rfl⟩ : ∃j,k=j+1:=⟨k - 1,by omega⟩;simp only [E];rw [hl];exact h k (by omega)
section ops
variable {ops:Array Oper} {l l1 l2:List Nat} {i:Nat} {o:Oper} {v:Value}
theorem Ops.nil:Ops P ops [] a m .normal a m:=⟨0,fun k _=>rfl⟩
theorem Ops.val (ho:ops[i]? = some o) (hw:Region.wanted o (yielded ops a.tmps)=true) (hok:JjL o=true) (hi:iop P a.eval o m=some (.val v m1)) (h:Ops P ops l (a.put o.dst v) m1 e a2 m2):Ops P ops (i::l) a m e a2 m2:=by
 obtain ⟨n,h⟩:=h;refine ⟨n,fun k hk => ?_⟩;simp only [Q5,ho,hw,hok,hi,if_true];exact h k hk
theorem Ops.skip (ho:ops[i]? = some o) (hw:Region.wanted o (yielded ops a.tmps)=true) (hok:JjL o=true) (hi:iop P a.eval o m=some (.skip m1)) (h:Ops P ops l (a.put o.dst undef) m1 e a2 m2):Ops P ops (i::l) a m e a2 m2:=by
 obtain ⟨n,h⟩:=h;refine ⟨n,fun k hk => ?_⟩;simp only [Q5,ho,hw,hok,hi,if_true];exact h k hk
theorem Ops.unwanted (ho:ops[i]? = some o) (hw:Region.wanted o (yielded ops a.tmps)=false) (h:Ops P ops l (a.put o.dst undef) m e a2 m2):Ops P ops (i::l) a m e a2 m2:=by
 obtain ⟨n,h⟩:=h;refine ⟨n,fun k hk => ?_⟩;simp only [Q5,ho,hw];exact h k hk
end ops
theorem Cal.ret {f:FuncId} {fn:Func} {args:Array Value} {v:Value} (hor : ∀args,Orc.O P f args=none) (hf:P.funcs[f]? = some fn) (hb:fn.body=some c) (h:Ev.To P c (frame fn args) m e a m1) (he:e = .normal∨e = .ret) (hd:a.defers = []) (hr:Qq P fn a.tmps m1=some v) :
  Cal P f args m (.ret v) m1:=by
 obtain ⟨n,h⟩:=h;refine ⟨n,fun k hk => ?_⟩;unfold Ja8;rw [hor];dsimp only;rw [hf];dsimp only;rw [hb];dsimp only;rw [h k hk];rcases he with rfl | rfl <;> (dsimp only;rw [hd];simp only [Xu,hr];rfl)
def Je7:Code→List (Nat × Array Oper)
 | .region id ops _ => [(id,ops)]
 | .seq x y=>Je7 x++Je7 y
 | .cond _ x y=>Je7 x++Je7 y
 | .block _ x=>Je7 x
 | .loop x=>Je7 x
 | _ => []
def Jq9 (fn:Func) (id:Nat):Array Oper:=
 match fn.body with
 | some c=>(((Je7 c).find? fun p=>p.1 == id).map (·.2)).getD #[]
 | none => #[]
theorem JrO {P:Program} {ev:Operand→Value} {o:Oper} {t:TypeId} {x:Operand} {v:Value} {i off:Nat} (ho:o.op = .load t x) (hx:ev x = .pointer (some ⟨i,off,none⟩)) (ht:Jed P t=some false) (hi:(P.info? t).isSome=true) (h:m.cell i off=some v) :
  iop P ev o m=some (.val v m):=by
 unfold iop;rw [ho];dsimp only;unfold Ja5;rw [hx,ht];cases hq:P.info? t with
 | none=>rw [hq] at hi;cases hi
 | some ti=>simp [h]
theorem JhL {P:Program} {ev:Operand→Value} {o:Oper} {t e:TypeId} {ti:TypeInfo} {x y:Operand} {i off len cap:Nat} {kd:IntKind} {k:Int} (ho:o.op = .indexAddr t x y) (hx:ev x = .slice (some ⟨i,off,none⟩) len cap) (hy:ev y = .int kd k) (hu:P.underlying t=some (.slice e))
  (hi:P.info? e=some ti) (h0:0≤k) (h1:k<len):iop P ev o m=some (.val (.pointer (some ⟨i,off+k.toNat*ti.size,none⟩)) m):=by
 unfold iop;rw [ho];dsimp only;unfold Ql;rw [hx,hy,hu];simp only [hi];rw [Jf ⟨h0,h1⟩];rfl
end Go.IM
namespace Go.IM
open Go
def iOr (k:IntKind) (x y:Int):Int:=k.wrap ((BitVec.ofInt k.bits x ||| BitVec.ofInt k.bits y).toNat:Int)
def iXor (k:IntKind) (x y:Int):Int:=k.wrap ((BitVec.ofInt k.bits x ^^^ BitVec.ofInt k.bits y).toNat:Int)
def iShl (k:IntKind) (x n:Int):Int:=k.wrap (x*2 ^ (min n.toNat k.bits))
def Jf3 (k:IntKind) (x n:Int):Int:=x.fdiv (2 ^ (min n.toNat k.bits))
abbrev Sl:=Nat→Value
def upd (x:Sl) (i:Nat) (v:Value):Sl:=fun j=>bif Nat.beq j i then v else x j
def JrS:List Nat→Nat→Bool
 | [],_=>false
 | a::l,j=>bif Nat.beq j a then true else JrS l j
def lst (x:Sl):Nat→Nat→List Value
 | 0,_ => []
 | n+1,i=>x i::lst x n (i+1)
def arr (n:Nat) (x:Sl):Array Value:=⟨lst x n 0⟩
def st (n:Nat) (x:Sl):Act:=⟨arr n x, []⟩
end Go.IM
namespace Go.IM
open Go Go.RowKit
inductive Ent where
 | norm (v:Value)
 | op (v:Value) (m1:M)
 | skp (m1:M)
 | load (v:Value)
 | idx
 | shift
 | call (v:Value) (m1:M)
 | pnc (v:Value) (m1:M)
abbrev GR:=Option (Out × Act × M × Prop)
def JqM (p:Prop):GR→GR
 | some (e,a,m,o)=>some (e,a,m,p∧o)
 | none=>none
def lookE:List (Nat × Nat × Ent)→Nat→Nat→Option Ent
 | [],_,_=>none
 | (r,i,e)::l,r',i'=>bif Nat.beq r r' && Nat.beq i i' then some e else lookE l r' i'
abbrev Lp:=Out × Act × M
def lookL:List (Nat × Lp)→Nat→Option Lp
 | [],_=>none
 | (r,e)::l,r'=>bif Nat.beq r r' then some e else lookL l r'
def Xd:Code→Nat
 | .region id _ _=>id
 | .seq x _=>Xd x
 | .block _ x=>Xd x
 | .loop x=>Xd x
 | _=>0
def stepG (P : Program) [Orc P] (e : Option Ent) (a : Act) (o : Oper) (m : M) (K : Act → M → GR) : GR :=
 match e with
 | none=>match iop P a.eval o m with
  | some (.val v m1)=>K (a.put o.dst v) m1
  | some (.skip m1)=>K (a.put o.dst undef) m1
  | some (.dfr d m1)=>K (({ a with defers:=d::a.defers }:Act).put o.dst undef) m1
  | some (.pnc v m1)=>some (.pnc v,a,m1,True)
  | _=>none
 | some (.norm v)=>match iop P a.eval o m with
  | some (.val v0 m1)=>JqM (v0=v) (K (a.put o.dst v) m1)
  | _=>none
 | some (.op v m1)=>JqM (iop P a.eval o m=some (.val v m1)) (K (a.put o.dst v) m1)
 | some (.skp m1)=>JqM (iop P a.eval o m=some (.skip m1)) (K (a.put o.dst undef) m1)
 | some (.load v)=>match o.op with
  | .load t x=>match a.eval x,Jed P t,P.info? t with
   | .pointer (some ⟨i,off,none⟩),some false,some _=>JqM (m.cell i off=some v) (K (a.put o.dst v) m)
   | _,_,_=>none
  | _=>none
 | some .idx=>match o.op with
  | .indexAddr t x y=>match P.underlying t,a.eval x,a.eval y with
   | some (.slice e),.slice (some ⟨i,off,none⟩) len _,.int _ k=>match P.info? e with
    | some ti=>JqM (0≤k∧k<(len:Int)) (K (a.put o.dst (.pointer (some ⟨i,off+k.toNat*ti.size,none⟩))) m)
    | none=>none
   | _,_,_=>none
  | _=>none
 | some .shift=>match o.op with
  | .binOp .shl _ x y _=>match a.eval x,a.eval y with
   | .int k n,.int _ b=>JqM (0≤b) (K (a.put o.dst (.int k (iShl k n b))) m)
   | _,_=>none
  | .binOp .shr _ x y _=>match a.eval x,a.eval y with
   | .int k n,.int _ b=>JqM (0≤b) (K (a.put o.dst (.int k (Jf3 k n b))) m)
   | _,_=>none
  | _=>none
 | some (.call v m1)=>match iop P a.eval o m with
  | some (.call f args m0)=>JqM (Cal P f args m0 (.ret v) m1) (K (a.put o.dst v) m1)
  | _=>none
 | some (.pnc v m1)=>match iop P a.eval o m with
  | some (.call f args m0)=>some (.pnc v,a,m1,Cal P f args m0 (.pnc v) m1)
  | _=>none
def runG (P : Program) [Orc P] (gd : List (Nat × Nat × Ent)) (r : Nat) (ops : Array Oper) : List Nat → Act → M → GR
 | [],a,m=>some (.normal,a,m,True)
 | i::rest,a,m=>
  match ops[i]? with
  | none=>none
  | some o=>
   if Region.wanted o (yielded ops a.tmps) then
    if JjL o then stepG P (lookE gd r i) a o m fun a1 m1=>runG P gd r ops rest a1 m1
    else none
   else runG P gd r ops rest (a.put o.dst undef) m
def G (P : Program) [Orc P] (gd : List (Nat × Nat × Ent)) (gl : List (Nat × Lp)) : Nat → Code → Act → M → GR
 | 0,_,_,_=>none
 | n+1,c,a,m=>
  match c with
  | .skip | .label _=>some (.normal,a,m,True)
  | .exit id=>some (.exit id,a,m,True)
  | .ret=>some (.ret,a,m,True)
  | .region id ops false=>runG P gd id ops (List.range ops.size) a m
  | .seq x y=>match G P gd gl n x a m with
   | some (.normal,a1,m1,o)=>match G P gd gl n y a1 m1 with
    | some (e,a2,m2,o2)=>some (e,a2,m2,o∧o2)
    | none=>none
   | r=>r
  | .cond c x y=>if Jak c then match a.eval c with
   | .bool true=>G P gd gl n x a m
   | .bool false=>G P gd gl n y a m
   | _=>none
   else none
  | .block id b=>match G P gd gl n b a m with
   | some (.exit id',a1,m1,o)=>bif Nat.beq id' id then some (.normal,a1,m1,o) else some (.exit id',a1,m1,o)
   | r=>r
  | .loop b=>match lookL gl (Xd b) with
   | some (e,a1,m1)=>some (e,a1,m1,Ev.To P (.loop b) a m e a1 m1)
   | none=>none
  | _=>none
theorem Jpp {P:Program} {m:M} {ev:Operand→Value} {o:Oper} {t u:TypeId} {x y:Operand} {k k':IntKind} {n b:Int} (ho:o.op = .binOp .shl t x y u) (hx:ev x = .int k n) (hy:ev y = .int k' b) (hb:0≤b):iop P ev o m=some (.val (.int k (iShl k n b)) m):=by
 unfold iop;rw [ho];dsimp only;unfold QT XW;rw [ho];have : ¬b<0:=by omega
 simp [Op.operands,hx,hy,flat,execOp,ho,binOp,Op.shift,this,iShl,eqGuard]
 rfl
theorem Jpo {P:Program} {m:M} {ev:Operand→Value} {o:Oper} {t u:TypeId} {x y:Operand} {k k':IntKind} {n b:Int} (ho:o.op = .binOp .shr t x y u) (hx:ev x = .int k n) (hy:ev y = .int k' b) (hb:0≤b):iop P ev o m=some (.val (.int k (Jf3 k n b)) m):=by
 unfold iop;rw [ho];dsimp only;unfold QT XW;rw [ho];have : ¬b<0:=by omega
 simp [Op.operands,hx,hy,flat,execOp,ho,binOp,Op.shift,this,Jf3,eqGuard]
 rfl
variable {P:Program} [Orc P] {gd:List (Nat × Nat × Ent)} {gl:List (Nat × Lp)}
theorem Jan {p:Prop} {r:GR} {e:Out} {a:Act} {m:M} {o:Prop} (h:JqM p r=some (e,a,m,o)) : ∃o1,r=some (e,a,m,o1)∧(o→p∧o1):=by
 unfold JqM at h;split at h
 ·cases h;exact ⟨_,rfl,id⟩
 ·cases h
theorem Ops.pnc {ops:Array Oper} {l:List Nat} {i:Nat} {o:Oper} {a:Act} {m m1:M} {v:Value} (ho:ops[i]? = some o) (hw:Region.wanted o (yielded ops a.tmps)=true) (hok:JjL o=true) (hi:iop P a.eval o m=some (.pnc v m1)):Ops P ops (i::l) a m (.pnc v) a m1:=by
 refine ⟨0,fun k hk => ?_⟩;simp only [Q5,ho,hw,hok,hi,if_true]
theorem Ops.call_pnc {ops:Array Oper} {l:List Nat} {i:Nat} {o:Oper} {a:Act} {m m1:M} {v:Value} {f:FuncId} {args:Array Value} {m0:M} (ho:ops[i]? = some o) (hw:Region.wanted o (yielded ops a.tmps)=true) (hok:JjL o=true) (hi:iop P a.eval o m=some (.call f args m0)) (hc:Cal P f args m0 (.pnc v) m1) :
  Ops P ops (i::l) a m (.pnc v) a m1:=by
 obtain ⟨n1,hc⟩:=hc;refine ⟨n1,fun k hk => ?_⟩;simp only [Q5,ho,hw,hok,hi,if_true];rw [hc k (by omega)]
theorem Ops.call' {ops:Array Oper} {l:List Nat} {i:Nat} {o:Oper} {a a2:Act} {m m0 m1 m2:M} {v:Value} {e:Out} {f:FuncId} {args:Array Value} (ho:ops[i]? = some o) (hw:Region.wanted o (yielded ops a.tmps)=true) (hok:JjL o=true) (hi:iop P a.eval o m=some (.call f args m0)) (hc:Cal P f args m0 (.ret v) m1)
  (h:Ops P ops l (a.put o.dst v) m1 e a2 m2):Ops P ops (i::l) a m e a2 m2:=by
 obtain ⟨n1,hc⟩:=hc;obtain ⟨n,h⟩:=h;refine ⟨n1+n,fun k hk => ?_⟩;simp only [Q5,ho,hw,hok,hi,if_true];rw [hc k (by omega)];exact h k (by omega)
theorem Ops.dfr {ops:Array Oper} {l:List Nat} {i:Nat} {o:Oper} {a a2:Act} {m m1 m2:M} {d:Deferred} {e:Out} (ho:ops[i]? = some o) (hw:Region.wanted o (yielded ops a.tmps)=true) (hok:JjL o=true) (hi:iop P a.eval o m=some (.dfr d m1))
  (h:Ops P ops l (({ a with defers:=d::a.defers }:Act).put o.dst undef) m1 e a2 m2):Ops P ops (i::l) a m e a2 m2:=by
 obtain ⟨n,h⟩:=h;refine ⟨n,fun k hk => ?_⟩;simp only [Q5,ho,hw,hok,hi,if_true];exact h k hk
theorem JmX {r : Nat} {ops : Array Oper} : ∀ (l : List Nat) {a a1 : Act} {m m1 : M} {e : Out} {o : Prop}, runG P gd r ops l a m = some (e, a1, m1, o) → o → Ops P ops l a m e a1 m1 := by
 intro l;induction l with
 | nil=>
  intro a a1 m m1 e o h ho;simp only [runG,Jg,Jm] at h;obtain ⟨rfl,rfl,rfl,_⟩:=h;exact Ops.nil
 | cons i rest ih =>
  intro a a1 m m1 e p h hp;simp only [runG] at h;split at h
  ·cases h
  ·rename_i o ho;split at h
   ·rename_i hw;split at h
    ·rename_i hok;unfold stepG at h;split at h
     ·split at h
      ·rename_i v m2 hi;exact Ops.val ho hw hok hi (ih h hp)
      ·rename_i m2 hi;exact Ops.skip ho hw hok hi (ih h hp)
      ·rename_i d m2 hi;exact Ops.dfr ho hw hok hi (ih h hp)
      ·rename_i v m2 hi;cases h;exact Ops.pnc ho hw hok hi
      ·cases h
     ·split at h
      ·rename_i v0 m2 hi;obtain ⟨o1,h1,h2⟩:=Jan h;obtain ⟨h3,h4⟩:=h2 hp;rw [h3] at hi;exact Ops.val ho hw hok hi (ih h1 h4)
      ·cases h
     ·obtain ⟨o1,h1,h2⟩:=Jan h;obtain ⟨h3,h4⟩:=h2 hp;exact Ops.val ho hw hok h3 (ih h1 h4)
     ·obtain ⟨o1,h1,h2⟩:=Jan h;obtain ⟨h3,h4⟩:=h2 hp;exact Ops.skip ho hw hok h3 (ih h1 h4)
     ·split at h
      ·rename_i t x hop;split at h
       ·rename_i i2 off ti hx ht hi;obtain ⟨o1,h1,h2⟩:=Jan h;obtain ⟨h3,h4⟩:=h2 hp;exact Ops.val ho hw hok (JrO hop hx ht (by rw [hi];rfl) h3) (ih h1 h4)
       ·cases h
      ·cases h
     ·split at h
      ·rename_i t x y hop;split at h
       ·rename_i e2 i2 off len cap kd k hu hx hy;split at h
        ·rename_i ti hi;obtain ⟨o1,h1,h2⟩:=Jan h;obtain ⟨h3,h4⟩:=h2 hp;exact Ops.val ho hw hok (JhL hop hx hy hu hi h3.1 h3.2) (ih h1 h4)
        ·cases h
       ·cases h
      ·cases h
     ·split at h
      ·rename_i t x y u hop;split at h
       ·rename_i k n k' b hx hy;obtain ⟨o1,h1,h2⟩:=Jan h;obtain ⟨h3,h4⟩:=h2 hp;exact Ops.val ho hw hok (Jpp hop hx hy h3) (ih h1 h4)
       ·cases h
      ·rename_i t x y u hop;split at h
       ·rename_i k n k' b hx hy;obtain ⟨o1,h1,h2⟩:=Jan h;obtain ⟨h3,h4⟩:=h2 hp;exact Ops.val ho hw hok (Jpo hop hx hy h3) (ih h1 h4)
       ·cases h
      ·cases h
     ·split at h
      ·rename_i f args m0 hi;obtain ⟨o1,h1,h2⟩:=Jan h;obtain ⟨h3,h4⟩:=h2 hp;exact Ops.call' ho hw hok hi h3 (ih h1 h4)
      ·cases h
     ·split at h
      ·rename_i f args m0 hi;cases h;exact Ops.call_pnc ho hw hok hi hp
      ·cases h
    ·cases h
   ·rename_i hw;exact Ops.unwanted ho (by simpa using hw) (ih h hp)
theorem Jvl : ∀ (n : Nat) {c : Code} {a a1 : Act} {m m1 : M} {e : Out} {o : Prop}, G P gd gl n c a m = some (e, a1, m1, o) → o → Ev.To P c a m e a1 m1 := by
 intro n;induction n with
 | zero=>intro c a a1 m m1 e o h;cases h
 | succ n ih =>
  intro c a a1 m m1 e o h hp;cases c with
  | skip=>simp only [G,Jg,Jm] at h;obtain ⟨rfl,rfl,rfl,_⟩:=h;exact To.skip
  | label=>simp only [G,Jg,Jm] at h;obtain ⟨rfl,rfl,rfl,_⟩:=h;exact To.label
  | exit=>simp only [G,Jg,Jm] at h;obtain ⟨rfl,rfl,rfl,_⟩:=h;exact To.exit
  | ret=>simp only [G,Jg,Jm] at h;obtain ⟨rfl,rfl,rfl,_⟩:=h;exact To.ret
  | region id ops draw=>
   cases draw with
   | true=>simp [G] at h
   | false=>simp only [G] at h;exact To.region rfl (JmX _ h hp)
  | seq x y=>
   simp only [G] at h;split at h
   ·rename_i a2 m2 o1 h1;split at h
    ·rename_i e3 a3 m3 o3 h3;cases h;exact To.seq (ih h1 hp.1) (ih h3 hp.2)
    ·cases h
   ·rename_i hn;exact To.seq_out (ih h hp) (by intro he;subst he;exact hn _ _ _ h)
  | cond c x y=>
   simp only [G] at h;split at h
   ·rename_i hok;split at h
    ·rename_i hb;exact To.cond hok hb (ih h hp)
    ·rename_i hb;exact To.cond hok hb (ih h hp)
    ·cases h
   ·cases h
  | block id b=>
   simp only [G] at h;split at h
   ·rename_i id' a2 m2 o1 h1;cases hq:Nat.beq id' id with
    | true=>
     rw [hq] at h;simp only [Jk] at h;cases h;have:id'=id:=Jr hq
     subst this;exact To.block (ih h1 hp)
    | false=>
     rw [hq] at h;simp only [Jl] at h;cases h;exact To.block_out (ih h1 hp) (by intro he;cases he;exact Nat.ne_of_beq_eq_false hq rfl)
   ·rename_i hn;exact To.block_out (ih h hp) (by intro he;subst he;exact hn _ _ _ _ h)
  | loop b=>
   simp only [G] at h;split at h
   ·cases h;exact hp
   ·cases h
  | _=>simp [G] at h
end Go.IM
namespace Go.IM
open Go
variable {P:Program} {m:M}
theorem Xa (o:Obj):(m.mk1 o).alive m.nxt=some { obj:=o,root:=m.nxt }:=
 QQ (rb := { obj:=o,root:=m.nxt }) (by rw [Qp,Jf rfl]) (by rw [Qp,Jf rfl]) rfl
theorem Jh8 {o:Obj} {i:Nat} {b:Blk} (hf:m.get m.nxt=none) (h:m.alive i=some b):(m.mk1 o).alive i=some b:=by
 have:m.mk1 o=((m.set m.nxt { obj:=o,root:=m.nxt }).bump):=rfl
 have h2:=Xm (b := { obj:=o,root:=m.nxt }) hf h;exact h2
def JdB (m:M):Prop := ∀i,m.nxt≤i→m.get i=none
theorem JbQ.free (h:JbQ m):JdB m:=fun i hi=>(h.dense i).2 hi
theorem JdB.mk1 (h:JdB m) (o:Obj):JdB (m.mk1 o):=by
 intro i hi;have:(m.mk1 o).nxt=m.nxt+1:=rfl
 rw [Qp,Jd (by omega)];exact h i (by omega)
end Go.IM
namespace Go.IM
open Go Go.RowKit
variable {P:Program} [Orc P] {gd:List (Nat × Nat × Ent)} {gl:List (Nat × Lp)}
def Jc2 (P:Program) [Orc P] (a:Act) (o:Oper) (m:M) (v:Value) (m1:M):Prop:=
 iop P a.eval o m=some (.val v m1)∨(iop P a.eval o m=some (.skip m1)∧v=undef) ∨ ∃f args m0,iop P a.eval o m=some (.call f args m0)∧Cal P f args m0 (.ret v) m1
def M.rebar (β:Nat) (m:M):M:=⟨m.tr,m.nxt,β⟩
theorem JoW {n0 β:Nat} {av:List Nat} {f:Bool} {a:Act} {o:Oper} {m m1:M} {v:Value} (hb:m.bar=β) (hok:JjL o=true) (ht:f=true→JbX a.eval o n0=true) (hs:JjJ av a.eval o m.tr=true) (h:Jc2 P a o (if f then m.rebar m.nxt else m) v m1) :
  ∃n,∀k,n≤k→opD P (Ja8 P (E P k)) av n0 β f true o a.eval m.nxt m.tr=some (v,m1.tr,m1.nxt):=by
 have hm:(⟨m.tr,m.nxt,if f then m.nxt else β⟩:M)=(if f then m.rebar m.nxt else m):=by
  cases f
  ·subst hb;rfl
  ·rfl
 have hc:(JjL o && (!f || JbX a.eval o n0) && JjJ av a.eval o m.tr)=true:=by
  rw [hok,hs];cases f
  ·rfl
  ·simpa using ht rfl
 rcases h with h|⟨h,rfl⟩|⟨g,args,m0,h,n,hcal⟩
 ·exact ⟨0,fun k _=>by unfold opD;rw [Jf rfl,Jf hc,hm,h]⟩
 ·exact ⟨0,fun k _=>by unfold opD;rw [Jf rfl,Jf hc,hm,h]⟩
 ·exact ⟨n,fun k hk=>by unfold opD;rw [Jf rfl,Jf hc,hm,h];dsimp only;rw [hcal k hk]⟩
end Go.IM
namespace Go.IM
open Go
variable {P:Program} {m m' m'':M} {t e:TypeId}
structure ByteT (P:Program) (t e:TypeId):Prop where
 sl:P.underlying t=some (.slice e)
 u8:P.underlying e=some (.int .u8)
 cells:P.cellsOf e=1
 info : ∃ti z,P.info? e=some ti∧ti.size=1∧ti.bytes=1∧QI P e=some z∧z.cells.size=1
structure Keep (m m':M):Prop where
 row : ∀i p,m.row i=some p→m'.row i=some p
 nxt:m.nxt≤m'.nxt
 bar:m'.bar=m.bar
 free:JdB m'
theorem JcE {i:Nat} {x:Blk} {c:Array Value} {e:TypeId} {fr:Nat × Nat} (h:m.alive i=some x) (ho:x.obj = .cells c e fr):m.row i=some (c,e):=by
 unfold M.row;rw [h];dsimp only;rw [ho]
theorem Jp7 {i j:Nat} {x y:Blk} (o:Obj) (hf:m.get m.nxt=none) (hi:m.alive i=some x) (hj:m.alive j=some y) : ∃y',(m.gen i x o).alive j=some y'∧y'.obj=y.obj:=by
 have hgi:=JO hi;have hget : ∀k,(m.gen i x o).get k=if k=m.nxt then some { obj:=o,root:=x.root } else if i=k then some { x with sup:=true } else m.get k:=by
  intro k;simp only [M.gen,M.get_bump,M.get_set];by_cases e:k=m.nxt
  ·subst e;simp
  ·rw [Jd e,Jd (Ne.symm e)]
 have hne : ∀{k:Nat} {z:Blk},m.get k=some z→k≠m.nxt:=by intro k z hz e;rw [e,hf] at hz;cases hz
 obtain ⟨rb,hrb,hd⟩:=QB hj;have hgj:=JO hj;have hr : ∃r',(m.gen i x o).get y.root=some r'∧r'.dead=false:=by
  rw [hget,Jd (hne hrb)];split
  ·rename_i e;rw [←e,hgi] at hrb;cases hrb;exact ⟨_,rfl,hd⟩
  ·exact ⟨rb,hrb,hd⟩
 obtain ⟨r',h1,h2⟩:=hr;by_cases hij:i=j
 ·subst hij;rw [hgi] at hgj;cases hgj;exact ⟨{ x with sup:=true },QQ (rb:=r') (by rw [hget,Jd (hne hgi),Jf rfl]) h1 h2,rfl⟩
 ·exact ⟨y,QQ (rb:=r') (by rw [hget,Jd (hne hgj),Jd hij];exact hgj) h1 h2,rfl⟩
theorem Jdz {i:Nat} {x:Blk} (o:Obj) (hf:m.get m.nxt=none) (hi:m.alive i=some x):(m.gen i x o).alive m.nxt=some { obj:=o,root:=x.root }:=by
 obtain ⟨rb,hrb,hd⟩:=QB hi;have hgi:=JO hi;have hget : ∀k,(m.gen i x o).get k=if k=m.nxt then some { obj:=o,root:=x.root } else if i=k then some { x with sup:=true } else m.get k:=by
  intro k;simp only [M.gen,M.get_bump,M.get_set];by_cases e:k=m.nxt
  ·subst e;simp
  ·rw [Jd e,Jd (Ne.symm e)]
 have hne:x.root≠m.nxt:=by intro e;rw [e,hf] at hrb;cases hrb
 by_cases e:i=x.root
 ·rw [←e,hgi] at hrb;cases hrb;exact QQ (rb := { x with sup:=true }) (by rw [hget,Jf rfl]) (by show (m.gen i x o).get x.root=_;rw [hget,Jd hne,Jf e]) hd
 ·exact QQ (rb:=rb) (by rw [hget,Jf rfl]) (by show (m.gen i x o).get x.root=_;rw [hget,Jd hne,Jd e];exact hrb) hd
theorem Keep.gen {i:Nat} {x:Blk} (o:Obj) (h:JdB m) (hi:m.alive i=some x):Keep m (m.gen i x o):=by
 have hf:=h _ (Je _);refine ⟨fun k p hv => ?_,Nat.le_succ _,rfl,fun k hk => ?_⟩
 ·unfold M.row at hv ⊢;cases hal:m.alive k with
  | none=>rw [hal] at hv;cases hv
  | some y=>
   rw [hal] at hv;obtain ⟨y',h1,h2⟩:=Jp7 o hf hi hal;rw [h1];dsimp only at hv ⊢;rw [h2];exact hv
 ·have hn:(m.gen i x o).nxt=m.nxt+1:=rfl;rw [hn] at hk;have hik:i≠k:=by intro e;have:=JO hi;rw [e,h k (by omega)] at this;cases this
  simp only [M.gen,M.get_bump,M.get_set];rw [Jd (by omega),Jd hik];exact h k (by omega)
end Go.IM
set_option linter.constructorNameAsVariable false
namespace Go.IM.V
open Go Go.IM
inductive Ty where
 | i (k:IntKind)
 | f (k:FloatKind)
 | b
 | s
 | l (e:Ty)
 | h (e:Ty)
 | p (a b:Ty)
 | u
 deriving DecidableEq
@[reducible] def Ty.El:Ty→Type
 | .i _=>Int
 | .f _=>Nat
 | .b=>Bool
 | .s=>ByteArray
 | .l e=>List e.El
 | .h e=>List e.El
 | .p t1 t2=>t1.El × t2.El
 | .u=>Unit
def Ty.n:Ty→Nat
 | .p t1 t2=>t1.n+t2.n
 | .u=>0
 | _=>1
def Ty.dflt:(t:Ty)→t.El
 | .i _=>(0:Int)
 | .f _=>(0:Nat)
 | .b=>false
 | .s=>ByteArray.empty
 | .l e=>([]:List e.El)
 | .h e=>([]:List e.El)
 | .p t1 t2=>(t1.dflt,t2.dflt)
 | .u=>()
def Jbr (a b:Ty) (xs:List a.El):Option (List b.El):=if h:a=b then some (h▸xs) else none
def JpO (a b:Ty) (xs:List (ByteArray × a.El)):Option (List (ByteArray × b.El)):=if h:a=b then some (h▸xs) else none
inductive Cl where
 | c (v:Value)
 | l (e:Ty) (xs:List e.El)
 | z (e:Ty) (xs:List e.El)
 | o (j:Nat)
 | p (j off:Nat)
 | e (t:Ty) (x:t.El) (off:Nat)
 | m (e:Ty) (j:Nat)
 | w (e:Ty) (j o n:Nat) (cp:Bool)
 | q (e:Ty) (j:Nat) (i:Int) (off:Nat)
 | r (own:Bool) (e:Ty) (xs:List e.El)
 | ra (e:Ty) (xs:List e.El)
 | g
 | sb (e:Ty) (j n:Nat)
 | ip (t:TypeId) (j off:Nat)
 | mv (j:Nat)
 | mx (clock:Nat) (l:List (ByteArray × Nat × Nat))
 | mi (jm since:Nat) (seen:List Nat) (last:Nat)
 | sg (n:Nat) (e:Ty) (xs:List e.El)
 | ms (e:Ty) (xs:List (ByteArray × e.El))
 | mt (ks:List ByteArray)
 | y
 | x
inductive S1 where
 | x
 | s (c:Cl)
 | a (cs:List Cl)
inductive Sl where
 | v (s:S1)
 | t (l:List S1)
def Qh:Cl→Bool
 | .sg _ _ _=>true
 | .mt _=>true
 | _=>false
def Jcn:List Cl→Option (List ByteArray)
 | .mt ks::_=>some ks
 | _=>none
def J9:List Cl→Bool
 | [.r _ _ _]=>true
 | [.ra _ _]=>true
 | [.mx _ _]=>true
 | [.mi _ _ _ _]=>true
 | [.g]=>true
 | [.ms _ _]=>true
 | cs=>cs.any Qh
def eqK:List (ByteArray × Nat × Nat)→List (ByteArray × Nat × Nat)→Bool
 | [], []=>true
 | a::l,b::r=>(a.1 == b.1) && Nat.beq a.2.1 b.2.1 && eqK l r
 | _,_=>false
def Xo:List Cl→Bool
 | [.r _ _ xs] => !xs.isEmpty
 | [.ra _ xs] => !xs.isEmpty
 | [.g]=>false
 | _=>true
def JaQ:List Cl→Option Nat
 | [.r _ _ xs]=>some xs.length
 | _=>none
def JM (bx:List (List Cl)) (j:Nat):Bool:=match bx[j]? with
 | some cs=>Xo cs
 | none=>false
def lenOf (bx:List (List Cl)) (j:Nat):Option Nat:=match bx[j]? with
 | some cs=>JaQ cs
 | none=>none
structure Bf where
 e:Ty
 xs:List e.El
 live:Bool
 cap:Bool
structure VS where
 N:Nat
 sl:Nat→Sl
 bf:List Bf
 bx:List (List Cl)
 df:List (FuncId × List S1)
def exp:(t:Ty)→t.El→List Cl
 | .i k,n => [.c (.int k n)]
 | .f k,n => [.c (.float k n)]
 | .b,x => [.c (.bool x)]
 | .s,x => [.c (.string x)]
 | .l e,xs => [.l e xs]
 | .h e,xs => [.l e xs]
 | .p t1 t2,x=>exp t1 x.1++exp t2 x.2
 | .u,_ => []
def JfT:(t:Ty)→t.El→S1
 | .i k,n => .s (.c (.int k n))
 | .f k,n => .s (.c (.float k n))
 | .b,x => .s (.c (.bool x))
 | .s,x => .s (.c (.string x))
 | .l e,xs => .s (.l e xs)
 | .h e,xs => .s (.l e xs)
 | .p t1 t2,x => .a (exp (.p t1 t2) x)
 | .u,_ => .a []
def XU:Value→Bool
 | .slice none 0 0=>true
 | _=>false
def XS (s:ByteArray):List Int:=s.data.toList.map fun b=>(b.toNat:Int)
def Jke (l:List Int):ByteArray:=⟨(l.map fun n=>UInt8.ofNat n.toNat).toArray⟩
def Jti (bf:List Bf) (e:Ty):Cl→Option (List e.El)
 | .c v=>bif XU v then some [] else none
 | .l e' xs=>Jbr e' e xs
 | .o j=>match bf[j]? with
  | some b=>Jbr b.e e b.xs
  | none=>none
 | _=>none
def rd (bf:List Bf):(t:Ty)→List Cl→Option (t.El × List Cl)
 | .i k,.c (.int k' n)::r=>if k'=k then some (n,r) else none
 | .f k,.c (.float k' n)::r=>if k'=k then some (n,r) else none
 | .b,.c (.bool x)::r=>some (x,r)
 | .s,.c (.string x)::r=>some (x,r)
 | .l e,c::r=>(Jti bf e c).map fun xs=>(xs,r)
 | .h e,c::r=>(Jti bf e c).map fun xs=>(xs,r)
 | .p t1 t2,cs=>(rd bf t1 cs).bind fun x=>(rd bf t2 x.2).map fun y=>((x.1,y.1),y.2)
 | .u,cs=>some ((),cs)
 | _,_=>none
def Jhq (bf:List Bf) (t:Ty) (cs:List Cl):Option t.El:=
 match rd bf t cs with
 | some (x, [])=>some x
 | _=>none
def cellsOf:S1→Option (List Cl)
 | .s c=>some [c]
 | .a cs=>some cs
 | .x=>none
def Ty.ag:Ty→Bool
 | .p _ _ | .u=>true
 | _=>false
def rdS (bf:List Bf) (t:Ty) (s:S1):Option t.El:=
 match s with
 | .s c=>bif t.ag then none else Jhq bf t [c]
 | .a cs=>bif t.ag then Jhq bf t cs else none
 | .x=>none
def exC:Cl→Option Value
 | .c v=>some v
 | _=>none
def exL:List Cl→Option (List Value)
 | []=>some []
 | c::r=>match exC c,exL r with
  | some v,some vs=>some (v::vs)
  | _,_=>none
def ex1:S1→Option Value
 | .s c=>exC c
 | .a cs=>(exL cs).map fun vs => .agg vs.toArray
 | .x=>none
def ex1L:List S1→Option (List Value)
 | []=>some []
 | c::r=>match ex1 c,ex1L r with
  | some v,some vs=>some (v::vs)
  | _,_=>none
def exS:Sl→Option Value
 | .v s=>ex1 s
 | .t l=>(ex1L l).map fun vs => .tuple vs.toArray
def noAd:Value→Bool
 | .pointer (some _)=>false
 | .slice (some _) _ _=>false
 | _=>true
def okc (v:Value):Bool:=one v && noAd v
def of1:Value→S1
 | .agg cs=>if cs.all okc then .a (cs.toList.map .c) else .x
 | .tuple _ => .x
 | v=>if noAd v then .s (.c v) else .x
def ofV:Value→Sl
 | .tuple vs => .t (vs.toList.map of1)
 | v => .v (of1 v)
def VS.ev (vs:VS):Operand→Sl
 | .tmp t=>vs.sl t
 | .const v=>ofV v
 | .func f => .v (.s (.c (.func (.func f) #[] #[])))
 | .global _ => .v .x
def VS.put (vs:VS) (d:Option Tmp) (x:Sl):VS:=
 match d with
 | none=>vs
 | some d => { vs with sl:=fun i=>bif Nat.beq i d then x else vs.sl i }
def VS.fits (vs:VS) (d:Option Tmp):Bool:=
 match d with
 | none=>true
 | some d=>Nat.blt d vs.N
inductive Pt where
 | v (t:Ty)
 | o (j:Nat)
 | p (j off:Nat)
 | fn (f:FuncId)
 | m (e:Ty) (j:Nat)
 | r (e:Ty)
 | ra (e:Ty)
 | g
 | nl
 | ns
 | sb (e:Ty) (n j:Nat)
 | ki (k:IntKind) (n:Int)
 | kt (q:ByteArray)
 | va (t:Ty)
 | ip (t:TypeId) (j off:Nat)
 | w (e:Ty) (j:Nat)
 | mv (j:Nat)
 | mx (clock:Nat) (l:List (ByteArray × Nat × Nat))
 | sg (n:Nat) (e:Ty)
 | ms (e:Ty)
 | mt (ks:List ByteArray)
 | x
def Jtj:Cl→Cl
 | .c v => .c v
 | .x => .x
 | _ => .y
def fog:S1→S1
 | .s c => .s (Jtj c)
 | .a cs => .a (cs.map Jtj)
 | .x => .x
@[reducible] def PtE:Pt→Type
 | .v t=>t.El
 | .r e=>List e.El
 | .ra e=>List e.El
 | .va t=>t.El
 | .w _ _=>Int
 | .sg _ e=>List e.El
 | .ms e=>List (ByteArray × e.El)
 | _=>Unit
@[reducible] def SlE:List (Nat × Pt)→Type
 | []=>Unit
 | p::l=>PtE p.2 × SlE l
@[reducible] def CeE:List Pt→Type
 | []=>Unit
 | p::l=>PtE p × CeE l
@[reducible] def BxE:List (List Pt)→Type
 | []=>Unit
 | b::l=>CeE b × BxE l
@[reducible] def BfE:List Ty→Type
 | []=>Unit
 | t::l=>List t.El × BfE l
structure Tm where
 sl:List (Nat × Pt)
 bx:List (List Pt) := []
 bf:List Ty := []
@[reducible] def Tm.E (t:Tm):Type:=SlE t.sl × BxE t.bx × BfE t.bf
def ptI (rx rb:Nat→Nat):(p:Pt)→PtE p→S1
 | .v t,x=>JfT t x
 | .o j,_ => .s (.o (rb j))
 | .p j off,_ => .s (.p (rx j) off)
 | .fn f,_ => .s (.c (.func (.func f) #[] #[]))
 | .m e j,_ => .s (.m e (rx j))
 | .r e,xs => .s (.r false e xs)
 | .ra e,xs => .s (.ra e xs)
 | .g,_ => .s .g
 | .nl,_ => .s (.c (.pointer none))
 | .ns,_ => .s (.c (.slice none 0 0))
 | .sb e n j,_ => .s (.sb e (rx j) n)
 | .ki k n,_ => .s (.c (.int k n))
 | .kt q,_ => .s (.c (.string q))
 | .va t,x=>fog (JfT t x)
 | .ip t j off,_ => .s (.ip t (rx j) off)
 | .w e j,n => .s (.w e (rx j) 0 (Int.toNat n) false)
 | .mv j,_ => .s (.mv (rx j))
 | .mx c l,_ => .s (.mx c (l.map fun q=>(q.1,q.2.1,rx q.2.2)))
 | .sg n e,xs => .s (.sg n e xs)
 | .ms e,xs => .s (.ms e xs)
 | .mt ks,_ => .s (.mt ks)
 | .x,_ => .s .x
def slI (rx rb:Nat→Nat):(l:List (Nat × Pt))→SlE l→List (Nat × S1)
 | [],_ => []
 | (k,p)::l,x=>(k,ptI rx rb p x.1)::slI rx rb l x.2
def Jam:S1→Cl
 | .s c=>c
 | _ => .x
def ceI (rx rb:Nat→Nat):(l:List Pt)→CeE l→List Cl
 | [],_ => []
 | p::l,x=>Jam (ptI rx rb p x.1)::ceI rx rb l x.2
def bxI (rx rb:Nat→Nat):(l:List (List Pt))→BxE l→List (List Cl)
 | [],_ => []
 | p::l,x=>ceI rx rb p x.1::bxI rx rb l x.2
def bfI:(l:List Ty)→BfE l→List Bf
 | [],_ => []
 | t::l,x=>⟨t,x.1,true,false⟩::bfI l x.2
def accL (l:List (Nat × S1)) (i:Nat):Sl:=
 match l with
 | [] => .v .x
 | (k,s)::r=>bif Nat.beq i k then .v s else accL r i
def Tm.inst (t:Tm) (N:Nat) (x:t.E):VS := { N:=N,sl:=accL (slI id id t.sl x.1),bf:=bfI t.bf x.2.2,bx:=bxI id id t.bx x.2.1,df := [] }
structure GH where
 g:List Nat
 h:List Nat
def pin (l:List Nat) (t j:Nat):Option (List Nat):=
 match l[t]? with
 | some j'=>bif Nat.beq j' j then some l else none
 | none=>bif Nat.beq t l.length then some (l ++ [j]) else none
def pinL:List Nat→List (ByteArray × Nat × Nat)→List (ByteArray × Nat × Nat)→Option (List Nat)
 | g, [], []=>some g
 | g,a::l,b::r=>(pin g a.2.2 b.2.2).bind fun g=>pinL g l r
 | _,_,_=>none
def ptM (bf:List Bf) (p:Pt) (s:S1) (q:GH):Option (PtE p × GH):=
 match p with
 | .v t=>(rdS bf t s).map fun x=>(x,q)
 | .o t=>match s with
  | .s (.o j)=>(pin q.h t j).map fun h=>((),{ q with h:=h })
  | _=>none
 | .p t off=>match s with
  | .s (.p j off')=>bif Nat.beq off off' then (pin q.g t j).map fun g=>((),{ q with g:=g }) else none
  | _=>none
 | .fn f=>match s with
  | .s (.c (.func (.func f') a c))=>bif Nat.beq f f' && a.isEmpty && c.isEmpty then some ((),q) else none
  | _=>none
 | .m e t=>match s with
  | .s (.m e' j)=>if e'=e then (pin q.g t j).map fun g=>((),{ q with g:=g }) else none
  | _=>none
 | .r e=>match s with
  | .s (.r _ e' xs)=>(Jbr e' e xs).map fun xs=>(xs,q)
  | _=>none
 | .ra e=>match s with
  | .s (.ra e' xs)=>(Jbr e' e xs).map fun xs=>(xs,q)
  | _=>none
 | .g=>match s with
  | .s .g=>some ((),q)
  | _=>none
 | .ns=>match s with
  | .s (.c v)=>bif XU v then some ((),q) else none
  | _=>none
 | .nl=>match s with
  | .s (.c (.pointer none))=>some ((),q)
  | _=>none
 | .sb e n t=>match s with
  | .s (.sb e' j n')=>if e'=e∧n'=n then (pin q.g t j).map fun g=>((),{ q with g:=g }) else none
  | _=>none
 | .ki k n=>match s with
  | .s (.c (.int k' n'))=>if k'=k∧n'=n then some ((),q) else none
  | _=>none
 | .kt n=>match s with
  | .s (.c (.string n'))=>if n'=n then some ((),q) else none
  | _=>none
 | .va t=>(rdS bf t s).map fun x=>(x,q)
 | .ip u t off=>match s with
  | .s (.ip u' j off')=>bif Nat.beq u u' && Nat.beq off off' then (pin q.g t j).map fun g=>((),{ q with g:=g }) else none
  | _=>none
 | .w e t=>match s with
  | .s (.w e' j 0 n _)=>if e'=e then (pin q.g t j).map fun g=>(((n:Nat):Int),{ q with g:=g }) else none
  | _=>none
 | .mv t=>match s with
  | .s (.mv j)=>(pin q.g t j).map fun g=>((),{ q with g:=g })
  | _=>none
 | .mx c l=>match s with
  | .s (.mx c' l')=>bif Nat.beq c c' && eqK l l' then (pinL q.g l l').map fun g=>((),{ q with g:=g }) else none
  | _=>none
 | .sg n e=>match s with
  | .s (.sg n' e' xs)=>if n'=n then (Jbr e' e xs).map fun xs=>(xs,q) else none
  | _=>none
 | .ms e=>match s with
  | .s (.ms e' xs)=>(JpO e' e xs).map fun xs=>(xs,q)
  | _=>none
 | .mt ks=>match s with
  | .s (.mt ks')=>if ks'=ks then some ((),q) else none
  | _=>none
 | .x=>match s with
  | .s c=>bif J9 [c] then none else some ((),q)
  | _=>some ((),q)
def unV:Sl→S1
 | .v s=>s
 | .t _ => .x
def slM (bf:List Bf) (acc:Nat→Sl):(l:List (Nat × Pt))→GH→Option (SlE l × GH)
 | [],q=>some ((),q)
 | (k,p)::l,q=>(ptM bf p (unV (acc k)) q).bind fun x=>(slM bf acc l x.2).map fun y=>((x.1,y.1),y.2)
def ceM (bf:List Bf):(l:List Pt)→List Cl→GH→Option (CeE l × GH)
 | [], [],q=>some ((),q)
 | p::l,c::r,q=>(ptM bf p (.s c) q).bind fun x=>(ceM bf l r x.2).map fun y=>((x.1,y.1),y.2)
 | _,_,_=>none
def bxM (vs:VS):(l:List (List Pt))→(t:Nat)→GH→Option (BxE l × GH)
 | [],_,q=>some ((),q)
 | p::l,t,q=>match q.g[t]? with
  | some j=>match vs.bx[j]? with
   | some cs=>(ceM vs.bf p cs q).bind fun x=>(bxM vs l (t+1) x.2).map fun y=>((x.1,y.1),y.2)
   | none=>none
  | none=>none
def bfM (bf:List Bf):(l:List Ty)→List Nat→Option (BfE l)
 | [], []=>some ()
 | t::l,j::h=>match bf[j]? with
  | some b=>bif b.live && !b.cap then (Jbr b.e t b.xs).bind fun x=>(bfM bf l h).map fun y=>(x,y) else none
  | none=>none
 | _,_=>none
def Jbj:List Nat→Bool
 | []=>true
 | a::l => !(l.any (Nat.beq a)) && Jbj l
def Tm.mat (t:Tm) (acc:Nat→Sl) (vs:VS) (g0:List Nat):Option (t.E × GH):=
 (slM vs.bf acc t.sl ⟨g0, []⟩).bind fun x=>(bxM vs t.bx 0 x.2).bind fun y=>
  bif Nat.beq y.2.g.length t.bx.length && Jbj y.2.g && Jbj y.2.h then (bfM vs.bf t.bf y.2.h).map fun z=>((x.1,y.1,z),y.2) else none
inductive OT where
 | ret (t:Tm)
 | exit (id:Nat) (t:Tm)
 | pnc (tid:TypeId) (k:IntKind) (t:Tm)
 | two (a b:OT)
@[reducible] def OT.E:OT→Type
 | .ret t=>t.E
 | .exit _ t=>t.E
 | .pnc _ _ t=>Int × t.E
 | .two a b=>a.E ⊕ b.E
def OT.mat:(o:OT)→Out→(Nat→Sl)→VS→List Nat→Option o.E
 | .ret t,.ret,acc,vs,g=>(t.mat acc vs g).map (·.1)
 | .exit id t,.exit id',acc,vs,g=>bif Nat.beq id id' then (t.mat acc vs g).map (·.1) else none
 | .pnc tid k t,.pnc (.iface tid' (.agg a)),acc,vs,g=>match a.toList with
  | [.int k' n]=>if tid=tid'∧k=k' then (t.mat acc vs g).map fun x=>(n,x.1) else none
  | _=>none
 | .two a b,o,acc,vs,g=>match a.mat o acc vs g with
  | some x=>some (.inl x)
  | none=>(b.mat o acc vs g).map .inr
 | _,_,_,_,_=>none
def OT.out:(o:OT)→o.E→Out × Sigma Tm.E
 | .ret t,x=>(.ret,⟨t,x⟩)
 | .exit id t,x=>(.exit id,⟨t,x⟩)
 | .pnc tid k t,x=>(.pnc (.iface tid (.agg #[.int k x.1])),⟨t,x.2⟩)
 | .two a _,.inl x=>a.out x
 | .two _ b,.inr x=>b.out x
structure Con where
 ins:Tm
 out:OT
 F:ins.E→Option out.E
end Go.IM.V
namespace Go.IM.V
open Go Go.IM
def Jku:List Ty→Ty
 | [] => .u
 | t::l => .p t (Jku l)
def Jn2 {α:Type}:List (Option α)→Option (List α)
 | []=>some []
 | some x::l=>(Jn2 l).map (x :: ·)
 | none::_=>none
def JiA (P:Program):Nat→TypeId→Option Ty
 | 0,_=>none
 | n+1,t=>match P.underlying t with
  | some .bool=>some .b
  | some (.int k)=>some (.i k)
  | some (.float k)=>some (.f k)
  | some .string=>some .s
  | some (.slice e)=>(JiA P n e).bind fun ty=>if P.cellsOf e=ty.n∧0<ty.n then some (.l ty) else none
  | some (.struct fs)=>(Jn2 (fs.toList.map fun f=>JiA P n f.type)).map Jku
  | some (.array k e)=>(JiA P n e).map fun t=>Jku (List.replicate k t)
  | _=>none
def JnB (P:Program) (t:TypeId):Option (TypeId × Ty):=
 match P.underlying t with
 | some (.slice e)=>match JiA P 8 e,P.info? e with
  | some ty,some ti=>if ti.size=ty.n∧0<ty.n∧ti.bytes≤128 then some (e,ty) else none
  | _,_=>none
 | _=>none
def lim:Nat:=1099511627776
abbrev OR:=Option (Option Bool × Sl × VS)
def JkO:Sl→Option Int
 | .v (.s (.c (.int _ n)))=>some n
 | _=>none
def JlV:Option Sl→Option (Option Int)
 | none=>some none
 | some x=>(JkO x).map some
def Jer (bf:List Bf):Sl→Option ((e:Ty) × List e.El)
 | .v (.s (.l e xs))=>some ⟨e,xs⟩
 | .v (.s (.o j))=>match bf[j]? with
  | some b=>some ⟨b.e,b.xs⟩
  | none=>none
 | _=>none
def JhZ (n:Nat):Option Int→Option Int→Bool
 | none,none=>true
 | some l,none=>decide (0≤l∧l≤n)
 | none,some h=>decide (0≤h∧h≤n)
 | some l,some h=>decide (0≤l∧l≤h∧h≤n)
def cut {α:Type} (xs:List α):Option Int→Option Int→List α
 | none,none=>xs
 | some l,none=>xs.drop l.toNat
 | none,some h=>xs.take h.toNat
 | some l,some h=>(xs.take h.toNat).drop l.toNat
def Jgq:Int→Bool
 | .ofNat 0=>true
 | _=>false
def zC:Option Operand→Bool
 | some (.const _)=>true
 | _=>false
def JiG (bx:List (List Cl)) (e:Ty) (j:Nat):Option (List e.El):=
 match bx[j]? with
 | some [.r _ e' xs]=>Jbr e' e xs
 | _=>none
def JlA (bx:List (List Cl)) (e:Ty) (j:Nat):Option (List e.El × (List e.El→List Cl)):=
 match bx[j]? with
 | some [.r own e' xs]=>(Jbr e' e xs).map fun xs=>(xs,fun ys => [.r own e ys])
 | some [.ra e' xs]=>(Jbr e' e xs).map fun xs=>(xs,fun ys => [.ra e ys])
 | _=>none
def Jfc (vs:VS) (e:Ty) (c:Cl):Option (List e.El):=
 match c with
 | .m e' j=>if e'=e then JiG vs.bx e j else none
 | .w e' j o n _=>if e'=e then (JiG vs.bx e j).map fun xs=>(xs.drop o).take n else none
 | c=>Jti vs.bf e c
def newBox (vs:VS) (cs:List Cl):Sl × VS:=(.v (.s (.p vs.bx.length 0)),{ vs with bx:=vs.bx ++ [cs] })
def newBufC (cap:Bool) (vs:VS) (e:Ty) (xs:List e.El):Sl × VS:=(.v (.s (.o vs.bf.length)),{ vs with bf:=vs.bf ++ [⟨e,xs,true,cap⟩] })
def newBuf (vs:VS) (e:Ty) (xs:List e.El):Sl × VS:=newBufC false vs e xs
def newRunO (own:Bool) (vs:VS) (e:Ty) (xs:List e.El):Sl × VS:=(.v (.s (.m e vs.bx.length)),{ vs with bx:=vs.bx ++ [[.r own e xs]] })
def newRun (vs:VS) (e:Ty) (xs:List e.El):Sl × VS:=newRunO true vs e xs
def newB (hot:Bool) (vs:VS) (e:Ty) (xs:List e.El):Sl × VS:=cond hot (newRun vs e xs) (newBuf vs e xs)
def JqR:Option Int→Nat
 | none=>0
 | some l=>l.toNat
def JqQ (n:Nat):Option Int→Nat
 | none=>n
 | some h=>h.toNat
def Joa (e:Ty) (j:Nat) (xs:List e.El) (lo hi mx:Option Int) (vs:VS):OR:=
 match hi,mx with
 | _,none=>some (some (JhZ xs.length lo hi),.v (.s (.w e j (JqR lo) (JqQ xs.length hi - JqR lo) false)),vs)
 | some h,some k=>some (some (JhZ xs.length lo (some h) && decide (k=h)),.v (.s (.w e j (JqR lo) (h.toNat - JqR lo) true)),vs)
 | _,_=>none
def Jin (P : Program) (t : TypeId) (x : Sl) (lo hi mx : Option Sl) (vs : VS) (cz : Bool) : OR :=
 match JnB P t with
 | none=>none
 | some (_,ty)=>
  match x with
  | .v (.s (.c v))=>bif XU v then (match JlV lo,JlV hi,JlV mx with
   | some lo,some hi,some mx=>some (some (JhZ 0 lo hi && (match mx with | some k=>hi.isSome && decide (k=0) | none=>true)),.v (.s (.l ty [])),vs)
   | _,_,_=>none) else none
  | .v (.s (.m e j))=>if e=ty then match JiG vs.bx e j,JlV lo,JlV hi,JlV mx with
   | some xs,some lo,some hi,some mx=>Joa e j xs lo hi mx vs
   | _,_,_,_=>none else none
  | .v (.s (.w e j o n _))=>if e=ty then match JiG vs.bx e j,JlV lo,JlV hi,JlV mx with
   | some _,some lo,some hi,some none=>some (some (JhZ n lo hi),.v (.s (.w e j (o+JqR lo) (JqQ n hi - JqR lo) false)),vs)
   | _,_,_,_=>none else none
  | _=>
  match Jer vs.bf x,JlV lo,JlV hi,JlV mx with
  | some ⟨e,xs⟩,some lo,some hi,some none=>if e=ty then some (match lo,hi with | none,none=>none | _,_=>some (JhZ xs.length lo hi),.v (.s (.l e (cut xs lo hi))),vs) else none
  | some ⟨e,xs⟩,some lo,some (some h),some (some k)=>
   if e=ty then
    bif lo.isNone && cz && (Jgq h && Jgq k) then some (none,.v (.s (.z e xs)),vs)
    else some (some (JhZ xs.length lo (some h) && decide (k=h)),newBufC true vs e (cut xs lo (some h)))
   else none
  | _,_,_,_=>none
def Jlg (P:Program) (t:TypeId):Option (Nat × TypeId × Ty):=
 match P.underlying t with
 | some (.array n e)=>match JiA P 8 e,P.info? e with
  | some ty,some ti=>if ti.size=ty.n∧0<ty.n then some (n,e,ty) else none
  | _,_=>none
 | _=>none
def Jck (P:Program) (t:TypeId) (x ix:Sl) (vs:VS):OR:=
 match x with
 | .v (.s (.m e j))=>match JnB P t,JiG vs.bx e j,JkO ix with
  | some (_,ty),some xs,some k=>if e=ty then some (some (decide (0≤k∧k<xs.length)),.v (.s (.q e j k 0)),vs) else none
  | _,_,_=>none
 | .v (.s (.w e j o n _))=>match JnB P t,JkO ix with
  | some (_,ty),some k=>if e=ty then (match lenOf vs.bx j with
   | some _=>some (some (decide (0≤k∧k<n)),.v (.s (.q e j (o+k) 0)),vs)
   | none=>none) else none
  | _,_=>none
 | .v (.s (.p j 0))=>match Jlg P t,JkO ix,vs.bx[j]? with
  | some (len,_,ty),some k,some [.ra e _]=>if e=ty then some (some (decide (0≤k∧k<len)),.v (.s (.q e j k 0)),vs) else none
  | _,_,_=>none
 | .v (.s (.sb e j n))=>match JnB P t,JkO ix with
  | some (_,ty),some (.ofNat k)=>if e=ty∧ty.n=1∧JM vs.bx j=true then some (some (decide (k<n)),.v (.s (.p j k)),vs) else none
  | _,_=>none
 | x=>
 match JnB P t,Jer vs.bf x,JkO ix with
 | some (_,ty),some ⟨e,xs⟩,some k=>if e=ty then some (some (decide (0≤k∧k<xs.length)),.v (.s (.e e (xs.getD k.toNat e.dflt) 0)),vs) else none
 | _,_,_=>none
def Jae (P:Program) (t:TypeId) (cs:List Cl) (off:Nat):Option Sl:=
 match Jed P t,P.info? t with
 | some true,some ti=>if off+ti.size≤cs.length then some (.v (.a ((cs.drop off).take ti.size))) else none
 | some false,some _=>match cs[off]? with
  | some c=>some (.v (.s c))
  | none=>none
 | _,_=>none
def JmE (P:Program) (t:TypeId) (a:Sl) (vs:VS):OR:=
 match a with
 | .v (.s (.p j off))=>match vs.bx[j]? with
  | some cs=>bif J9 cs then none else (Jae P t cs off).map fun x=>(none,x,vs)
  | none=>none
 | .v (.s (.e ty x off))=>(Jae P t (exp ty x) off).map fun y=>(none,y,vs)
 | _=>none
def JsJ (P:Program) (t:TypeId) (e:Ty) (j:Nat) (i:Int) (off:Nat) (vs:VS):OR:=
 match JlA vs.bx e j with
 | some (xs,_)=>(Jae P t (exp e (xs.getD i.toNat e.dflt)) off).map fun y=>(some (decide (i.toNat<xs.length)),y,vs)
 | _=>none
def Jlm (P:Program) (t:TypeId) (a:Sl) (vs:VS):OR:=
 match a with
 | .v (.s (.q e j i off))=>JsJ P t e j i off vs
 | a=>JmE P t a vs
def JcW:Cl→Bool
 | .x=>false
 | .sg _ _ _=>false
 | .mt _=>false
 | .c v=>one v
 | _=>true
def lay (cs:List Cl) (off:Nat) (ns:List Cl):List Cl:=cs.take off++ns++cs.drop (off+ns.length)
def QC {α:Type} (l:List α) (j:Nat) (x:α):List α:=
 match l,j with
 | [],_ => []
 | _::r,0=>x::r
 | y::r,j+1=>y::QC r j x
def Qn:Sl := .t []
def Jil (P:Program) (t:TypeId) (a x:Sl) (vs:VS):OR:=
 match a,P.info? t,x with
 | .v (.s (.p j off)),some ti,.v x=>match vs.bx[j]?, V.cellsOf x with
  | some cs,some ns=>if J9 cs=false∧ns.length=ti.size∧off+ns.length≤cs.length∧ns.all JcW=true then some (none,Qn,{ vs with bx:=QC vs.bx j (lay cs off ns) }) else none
  | _,_=>none
 | _,_,_=>none
def Jn8 (P : Program) (t : TypeId) (e : Ty) (j : Nat) (i : Int) (off : Nat) (x : Sl) (vs : VS) : OR :=
 match JlA vs.bx e j,P.info? t,x with
 | some (xs,mk),some ti,.v x=>match V.cellsOf x with
  | some ns=>if ns.length=ti.size∧off+ns.length≤e.n∧ns.all JcW=true then
    (Jhq vs.bf e (lay (exp e (xs.getD i.toNat e.dflt)) off ns)).map fun y=>(some (decide (i.toNat<xs.length)),Qn,{ vs with bx:=QC vs.bx j (mk (xs.set i.toNat y)) })
   else none
  | _=>none
 | _,_,_=>none
def JjR (P:Program) (t:TypeId) (a x:Sl) (vs:VS):OR:=
 match a with
 | .v (.s (.q e j i off))=>Jn8 P t e j i off x vs
 | a=>Jil P t a x vs
def Jk2 (bf:List Bf) (ty:Ty) (cs:List Cl):Nat→Option (List ty.El)
 | 0=>some []
 | n+1=>(Jhq bf ty (cs.take ty.n)).bind fun y=>(Jk2 bf ty (cs.drop ty.n) n).map (y :: ·)
def Ju2 (P:Program) (t:TypeId):Option (Nat × TypeId × Ty):=
 match P.underlying t with
 | some (.struct ⟨[f]⟩)=>if f.offset=0 then Jlg P f.type else none
 | _=>Jlg P t
def Jop (P:Program) (t:TypeId) (hot:Bool) (vs:VS):OR:=
 match QI P t with
 | some z=>if z.cells.all okc then bif hot then match Ju2 P t with
   | some (n,_,ty)=>if z.cells.size=n*ty.n∧0<ty.n∧0<n then (Jk2 vs.bf ty (z.cells.toList.map .c) n).map fun xs=>(none,newBox vs [.ra ty xs]) else none
   | none=>none
  else some (none,newBox vs (z.cells.toList.map .c)) else none
 | none=>none
def vbox (P:Program) (t:TypeId) (hot:Bool) (x:Sl) (vs:VS):OR:=
 match x with
 | .v x=>match V.cellsOf x with
  | some cs=>if cs.all JcW then bif hot then match Ju2 P t with
   | some (n,_,ty)=>if cs.length=n*ty.n∧0<ty.n∧0<n then (Jk2 vs.bf ty cs n).map fun xs=>(none,newBox vs [.ra ty xs]) else none
   | none=>none
  else some (none,newBox vs cs) else none
  | none=>none
 | _=>none
def JlF (bf:List Bf) (ty:Ty) (ev:Operand→Sl):Nat→List (Nat × Operand)→Option (List ty.El)
 | _, []=>some []
 | k,(i,x)::r=>if i=k then match rdS bf ty (unV (ev x)),JlF bf ty ev (k+1) r with
  | some y,some ys=>some (y::ys)
  | _,_=>none else none
def JcN (P:Program) (t:TypeId) (hot:Bool) (len:Nat) (parts:List (Nat × Operand)) (vs:VS):OR:=
 match JnB P t with
 | some (e,ty)=>match JlF vs.bf ty vs.ev 0 parts,QI P e with
  | some ys,some z=>if parts.length=len∧len*ty.n≤16777216 then some (none,newB hot vs ty ys) else none
  | _,_=>none
 | none=>none
def JdE (P:Program) (t:TypeId) (hot:Bool) (l c:Sl) (vs:VS):OR:=
 match JnB P t,JkO l,JkO c with
 | some (e,ty),some l,some c=>match QI P e with
  | some z=>match Jhq vs.bf ty (z.cells.toList.map .c) with
   | some y=>if z.cells.all okc then some (some (decide (0≤l∧l=c∧l<lim) && (!hot || decide (0<l))),newB hot vs ty (List.replicate l.toNat y)) else none
   | none=>none
  | none=>none
 | _,_,_=>none
def JtJ (P:Program) (t:TypeId) (l c:Sl) (vs:VS):Option (Sl × VS):=
 match JnB P t,JkO l,JkO c with
 | some (e,ty),some (.ofNat (n+1)),some c=>match QI P e with
  | some z=>match z.cells.toList with
   | [v]=>if okc v=true∧ty.n=1∧c = .ofNat (n+1)∧n+1≤64 then some (.v (.s (.sb ty vs.bx.length (n+1))),{ vs with bx:=vs.bx ++ [List.replicate (n+1) (.c v)] }) else none
   | _=>none
  | none=>none
 | _,_,_=>none
def Jna (vs:VS) (ty:Ty) (x:Sl):Option (List ty.El):=
 match x with
 | .v (.s (.c (.string s)))=>Jbr (.i .u8) ty (XS s)
 | .v (.s c)=>Jfc vs ty c
 | _=>none
def freeze (bf:List Bf) (j:Nat):List Bf:=
 match bf,j with
 | [],_ => []
 | b::r,0 => { b with live:=false }::r
 | b::r,j+1=>b::freeze r j
def Jhc (P : Program) (e : TypeId) (ty : Ty) (hot : Bool) (s x : Sl) (vs : VS) : OR :=
 match Jna vs ty x,QI P e with
 | some ys,some z=>if z.cells.size=ty.n then match s with
  | .v (.s (.c v))=>bif XU v then some (some (decide (ys.length<lim)),newB hot vs ty ys) else none
  | .v (.s (.o j))=>match vs.bf[j]? with
   | some b=>match Jbr b.e ty b.xs with
    | some xs=>bif b.live then some (some (decide (xs.length+ys.length<lim)),newBufC b.cap { vs with bf:=freeze vs.bf j } ty (xs++ys)) else none
    | none=>none
   | none=>none
  | .v (.s (.z e0 xs))=>if e0=ty then some (some (decide (ys.length≤xs.length∧ys.length<lim)),newB hot vs ty ys) else none
  | .v (.s (.m e0 j))=>match vs.bx[j]? with
   | some [.r own e1 xs]=>match Jbr e1 ty xs with
    | some xs=>if e0=ty then some (some (decide (xs.length+ys.length<lim)),newRunO own { vs with bx:=QC vs.bx j [.g] } ty (xs++ys)) else none
    | none=>none
   | _=>none
  | .v (.s (.w e0 j o n true))=>if e0=ty then (JiG vs.bx ty j).map fun xs=>(some (decide (0<ys.length∧n+ys.length<lim)),newB hot vs ty ((xs.drop o).take n++ys)) else none
  | _=>none else none
 | _,_=>none
def Jj7 (P:Program) (t:TypeId) (hot:Bool) (xt:Option TypeId) (s x:Sl) (vs:VS):OR:=
 match JnB P t,xt.bind P.underlying with
 | some (e,ty),some (.slice _) | some (e,ty),some .string=>Jhc P e ty hot s x vs
 | _,_=>none
def Jlq (ty:Ty) (j o n:Nat) (x:Sl) (vs:VS):OR:=
 match vs.bx[j]? with
 | some [.r own e1 xs]=>match Jbr e1 ty xs,Jna vs ty x with
  | some xs,some ys=>some (none,.v (.s (.c (.int .i64 ((min n ys.length:Nat):Int)))),{ vs with bx:=QC vs.bx j [.r own ty (xs.take o++ys.take (min n ys.length)++xs.drop (o+min n ys.length))] })
  | _,_=>none
 | _=>none
def JtO (P:Program) (t:TypeId) (s x:Sl) (vs:VS):OR:=
 match JnB P t,s with
 | some (_,ty),.v (.s (.m e j))=>if e=ty then (match lenOf vs.bx j with | some n=>Jlq ty j 0 n x vs | none=>none) else none
 | some (_,ty),.v (.s (.w e j o n _))=>if e=ty then Jlq ty j o n x vs else none
 | _,_=>none
def JsY (bf:List Bf) (j:Nat):Option Nat:=match bf[j]? with
 | some b=>bif b.live && !b.cap then some b.xs.length else none
 | none=>none
def JeB (P:Program) (src dst:TypeId) (hot:Bool) (x:Sl) (vs:VS):OR:=
 match P.underlying src,P.underlying dst,x with
 | some .string,some (.slice e),.v (.s (.c (.string s)))=>match P.underlying e with
  | some (.int .u8)=>if P.cellsOf e=1 then some (bif hot then some (decide (0<s.size)) else none,newB hot vs (.i .u8) (XS s)) else none
  | _=>none
 | some (.slice e),some .string,.v (.s c)=>match P.underlying e,Jfc vs (.i .u8) c with
  | some (.int .u8),some xs=>if P.cellsOf e=1 then some (none,.v (.s (.c (.string (Jke xs)))),vs) else none
  | _,_=>none
 | some (.slice _),some (.slice e),.v (.s (.o j))=>match P.underlying e,JsY vs.bf j with
  | some (.int .u8),some n=>if src=dst then some (some (decide (0<n)),.v (.s (.o j)),vs) else none
  | _,_=>none
 | _,_,_=>none
def vlen (P:Program) (t:Option TypeId) (x:Sl) (vs:VS):OR:=
 match t.bind P.underlying with
 | some (.slice _)=>match x with
  | .v (.s (.c v))=>bif XU v then some (none,.v (.s (.c (.int .i64 ((0:Nat):Int)))),vs) else none
  | .v (.s (.m _ j))=>(lenOf vs.bx j).map fun n=>(none,.v (.s (.c (.int .i64 ((n:Nat):Int)))),vs)
  | .v (.s (.w _ j _ n _))=>(lenOf vs.bx j).map fun _=>(none,.v (.s (.c (.int .i64 ((n:Nat):Int)))),vs)
  | .v (.s (.sb _ j n))=>bif JM vs.bx j then some (none,.v (.s (.c (.int .i64 ((n:Nat):Int)))),vs) else none
  | x=>match Jer vs.bf x with
   | some ⟨_,xs⟩=>some (none,.v (.s (.c (.int .i64 ((xs.length:Nat):Int)))),vs)
   | none=>none
 | _=>none
def evV (vs:VS) (x:Operand):Value:=(exS (vs.ev x)).getD undef
def Jp6 (vs:VS):List Operand→Bool
 | []=>true
 | x::r=>(exS (vs.ev x)).isSome && Jp6 vs r
def M0:M:=⟨.leaf,0,0⟩
def isP:JsB→Bool
 | .p=>true
 | _=>false
def Jfo (o:Op):Bool:=
 match o with
 | .call c=>match c.callee with
  | .builtin .max | .builtin .min=>true
  | _=>false
 | _=>false
def Jmz (P:Program) (vs:VS) (o:Oper):OR:=
 if (isP (JS P o) || Jfo o.op) && Jp6 vs o.op.operands.toList then match iop P (evV vs) o M0 with
  | some (.val v _)=>some (none,ofV v,vs)
  | _=>none
 else none
def Joj (P:Program) (s:TypeId) (x:Sl) (f:Nat) (vs:VS):OR:=
 match P.underlying s,x with
 | some (.struct fields),.v (.a cs)=>match fields[f]? with
  | some fd=>(Jae P fd.type cs fd.offset).map fun y=>(none,y,vs)
  | none=>none
 | _,_=>none
def Jcl (P : Program) (s : TypeId) (x : Sl) (f : Nat) (vs : VS) : OR :=
 match P.underlying s with
 | some (.struct fields)=>match fields[f]? with
  | some fd=>match P.info? fd.type with
   | some ti=>if ti.size=0 then none else match x with
    | .v (.s (.p j off))=>some (none,.v (.s (.p j (off+fd.offset))),vs)
    | .v (.s (.e t x off))=>some (none,.v (.s (.e t x (off+fd.offset))),vs)
    | .v (.s (.q e j i off))=>some (none,.v (.s (.q e j i (off+fd.offset))),vs)
    | _=>none
   | none=>none
  | none=>none
 | _=>none
def JqU (place:Nat→Option (Nat × Nat)) (ev:Operand→Sl):List Cl→List (Nat × Operand)→Option (List Cl)
 | cs, []=>some cs
 | cs,(i,x)::r=>match place i,V.cellsOf (unV (ev x)) with
  | some (off,size),some ns=>if ns.length=size∧off+ns.length≤cs.length∧ns.all JcW=true then JqU place ev (lay cs off ns) r else none
  | _,_=>none
def Jon (P:Program) (t:TypeId) (parts:List (Nat × Operand)) (vs:VS):OR:=
 match QI P t,J4 P (underlying t) with
 | some z,some (.struct fields)=>match J4 P (fields.mapM fun f=>do pure (f.offset,←sizeOf f.type)) with
  | some places=>if z.cells.all okc then (JqU (places[·]?) vs.ev (z.cells.toList.map .c) parts).map fun cs=>(none,.v (.a cs),vs) else none
  | none=>none
 | _,_=>none
def JlS:Sl→Option Bool
 | .v (.s (.c (.pointer none)))=>some true
 | .v (.s (.p _ _))=>some false
 | _=>none
def veqP (P:Program) (t:TypeId) (x y:Sl):Option Bool:=
 match P.underlying t with
 | some (.pointer _)=>match JlS x,JlS y with
  | some true,some b=>some b
  | some b,some true=>some b
  | _,_=>none
 | _=>none
def JpB (P:Program) (t:TypeId) (k1 k2:IntKind):Bool:=
 match P.underlying t with
 | some (.struct ⟨[f,g]⟩)=>match P.underlying f.type,P.underlying g.type with
  | some (.int j1), some (.int j2) => f.name != "_" && g.name != "_" && Nat.beq f.offset 0 && Nat.beq g.offset 1 && !P.stoodInHeld t && !P.eqGuardType P.depth t
  | _,_=>false
 | _=>false
def veqS (P:Program) (t:TypeId) (x y:Sl):Option Bool:=
 match x,y with
 | .v (.a [.c (.int k1 a1),.c (.int k2 a2)]),.v (.a [.c (.int j1 b1),.c (.int j2 b2)])=>if k1=j1∧k2=j2∧JpB P t k1 k2=true then some ((a1 == b1) && (a2 == b2)) else none
 | _,_=>none
def isA:Sl→Bool
 | .v (.a _)=>true
 | _=>false
def isStrS:Sl→Bool
 | .v (.s (.c (.string _)))=>true
 | _=>false
def Jtf:Sl→Bool
 | .v (.s (.c (.int _ _)))=>true
 | _=>false
def Jpn:Sl→Bool
 | .v (.s (.c (.float _ _)))=>true
 | _=>false
def JlU:Operand→Bool
 | .const _=>true
 | _=>false
def JrM (vs:VS):Op→Bool
 | .binOp .eql _ x _ _ | .binOp .neq _ x _ _=>isA (vs.ev x)
 | .binOp .add _ x _ _=>isStrS (vs.ev x) || Jpn (vs.ev x)
 | .binOp .sub _ x _ _=>Jpn (vs.ev x)
 | .binOp .quo _ x y _=>(Jtf (vs.ev x) && !JlU y) || Jpn (vs.ev x)
 | .binOp .rem _ x y _=>Jtf (vs.ev x) && !JlU y
 | _=>false
def veq (P:Program) (t:TypeId) (x y:Sl):Option Bool:=match veqP P t x y with
 | some b=>some b
 | none=>veqS P t x y
def vbin (P:Program) (op:BinOp) (t:TypeId) (x y:Sl) (vs:VS):OR:=
 match op with
 | .shl=>match x,y with
  | .v (.s (.c (.int k n))),.v (.s (.c (.int _ b)))=>some (some (decide (0≤b)),.v (.s (.c (.int k (iShl k n b)))),vs)
  | _,_=>none
 | .shr=>match x,y with
  | .v (.s (.c (.int k n))),.v (.s (.c (.int _ b)))=>some (some (decide (0≤b)),.v (.s (.c (.int k (Jf3 k n b)))),vs)
  | _,_=>none
 | .eql=>(veq P t x y).map fun b=>(none,.v (.s (.c (.bool b))),vs)
 | .neq=>(veq P t x y).map fun b=>(none,.v (.s (.c (.bool (!b)))),vs)
 | .add=>match x,y with
  | .v (.s (.c (.string a))),.v (.s (.c (.string b)))=>some (some (decide (a.size+b.size≤9223372036854775807)),.v (.s (.c (.string (a++b)))),vs)
  | .v (.s (.c (.float k n))),.v (.s (.c (.float k' b)))=>if k=k' then some (some (k.format.add n b).isSome,.v (.s (.c (.float k ((k.format.add n b).getD 0)))),vs) else none
  | _,_=>none
 | .sub=>match x,y with
  | .v (.s (.c (.float k n))),.v (.s (.c (.float k' b)))=>if k=k' then some (some (k.format.sub n b).isSome,.v (.s (.c (.float k ((k.format.sub n b).getD 0)))),vs) else none
  | _,_=>none
 | .quo=>match x,y with
  | .v (.s (.c (.int k n))),.v (.s (.c (.int k' b)))=>if k=k' then some (some (decide (b≠0)),.v (.s (.c (.int k (k.wrap (n.tdiv b))))),vs) else none
  | .v (.s (.c (.float k n))),.v (.s (.c (.float k' b)))=>if k=k' then some (some (k.format.div n b).isSome,.v (.s (.c (.float k ((k.format.div n b).getD 0)))),vs) else none
  | _,_=>none
 | .rem=>match x,y with
  | .v (.s (.c (.int k n))),.v (.s (.c (.int k' b)))=>if k=k' then some (some (decide (b≠0)),.v (.s (.c (.int k (n.tmod b)))),vs) else none
  | _,_=>none
 | _=>none
def wid:Cl→Nat
 | .sg n e _=>n*e.n
 | .mt _=>0
 | _=>1
def Jr6:List Cl→Nat→Option (List Cl)
 | cs,0=>some cs
 | [],_+1=>none
 | c::cs,k+1=>bif Nat.ble (wid c) (k+1) then Jr6 cs (k+1 - wid c) else none
def wholeG:List Cl→Option ((e:Ty) × Nat × List e.El)
 | .sg n e xs::_=>some ⟨e,n,xs⟩
 | _=>none
def JrX {e:Ty} (xs:List e.El):Nat→List Cl
 | 0 => []
 | k+1=>JrX xs k++exp e (xs.getD k e.dflt)
def Jj0 (P:Program) (t:TypeId) (x ix:Sl) (vs:VS):OR:=
 match P.underlying t,x,JkO ix with
 | some (.array n e),.v (.a cs),some (.ofNat k)=>match P.info? e with
  | some ti=>(Jae P e cs (k*ti.size)).map fun y=>(some (decide (k<n)),y,vs)
  | none=>none
 | _,_,_=>none
def Jih:List Cl→Nat
 | []=>0
 | c::cs=>wid c+Jih cs
def JkX:List Cl→List Cl
 | [] => []
 | .sg n _ xs::cs=>JrX xs n++JkX cs
 | .mt _::cs=>JkX cs
 | c::cs=>c::JkX cs
def JiP:List Cl→List (Nat × Option Ty)
 | [] => []
 | .sg n e _::cs=>(n,some e)::JiP cs
 | .mt _::cs=>(0,none)::JiP cs
 | _::cs=>(1,none)::JiP cs
def Juf (P:Program) (t:TypeId) (cs:List Cl) (off:Nat):Option Sl:=
 match Jr6 cs off with
 | none=>none
 | some r=>match Jed P t,P.info? t with
  | some true,some ti=>match wholeG r with
   | some ⟨e,n,xs⟩=>if ti.size=n*e.n then some (.v (.a (JrX xs n))) else none
   | none=>if ti.size≤r.length∧(r.take ti.size).any Qh=false then some (.v (.a (r.take ti.size))) else if ti.size=Jih r then some (.v (.a (JkX r))) else none
  | some false,some _=>match r with
   | c::_=>bif Qh c then none else some (.v (.s c))
   | []=>none
  | _,_=>none
def JeY:List Cl→Nat→Option ((e:Ty) × Nat × List e.El × Nat)
 | [],_=>none
 | .sg n e xs::cs,k=>bif Nat.blt k e.n && Nat.blt 0 n then some ⟨e,n,xs,k⟩ else bif Nat.ble (n*e.n) k then JeY cs (k - n*e.n) else none
 | .mt _::_,_=>none
 | _::_,0=>none
 | _::cs,k+1=>JeY cs k
def JaN (e:Ty) (ys:List e.El):List Cl→Nat→List Cl
 | [],_ => []
 | .sg n e' xs::cs,k=>bif Nat.blt k e'.n && Nat.blt 0 n then .sg n e ys::cs else .sg n e' xs::JaN e ys cs (k - n*e'.n)
 | c::cs,0=>c::cs
 | c::cs,k+1=>c::JaN e ys cs k
def Jf1:List Cl→List Cl→Option (List Cl)
 | cs, []=>some cs
 | c::cs,n::ns=>bif Qh c then none else (Jf1 cs ns).map (n :: ·)
 | [],_::_=>none
def JiW (ns:List Cl):List Cl→Nat→Option (List Cl)
 | cs,0=>Jf1 cs ns
 | [],_+1=>none
 | c::cs,k+1=>bif Nat.ble (wid c) (k+1) then (JiW ns cs (k+1 - wid c)).map (c :: ·) else none
def JqI (bx:List (List Cl)) (j:Nat):Option (List Cl):=
 match bx[j]? with
 | some cs=>bif cs.any Qh && (Jcn cs).isNone then some cs else none
 | none=>none
def Jf2 (vs:VS):Sl→Bool
 | .v (.s (.p j _))=>(JqI vs.bx j).isSome
 | .v (.s (.q _ j _ _))=>(JqI vs.bx j).isSome
 | _=>false
def Jog (P : Program) (t : TypeId) (a : Sl) (vs : VS) : OR :=
 match a with
 | .v (.s (.p j off))=>match JqI vs.bx j with
  | some cs=>(Juf P t cs off).map fun x=>(none,x,vs)
  | none=>none
 | .v (.s (.q e j i off))=>match JqI vs.bx j with
  | some cs=>match JeY cs off with
   | some ⟨e',n,xs,o⟩=>match Jbr e' e xs with
    | some xs=>(Jae P t (exp e (xs.getD i.toNat e.dflt)) o).map fun y=>(some (decide (i.toNat<n)),y,vs)
    | none=>none
   | none=>none
  | none=>none
 | _=>none
def JdI (bf:List Bf):List (Nat × Option Ty)→List Cl→Option (List Cl)
 | [],cs=>bif cs.isEmpty then some [] else none
 | (n,none)::r,cs=>bif Nat.ble n cs.length then (JdI bf r (cs.drop n)).map (cs.take n ++ ·) else none
 | (n,some ty)::r,cs=>if n*ty.n≤cs.length∧0<ty.n then (Jk2 bf ty (cs.take (n*ty.n)) n).bind fun xs=>(JdI bf r (cs.drop (n*ty.n))).map (.sg n ty xs :: ·) else none
def JjQ (P : Program) (t : TypeId) (a x : Sl) (vs : VS) : OR :=
 match a,P.info? t,x with
 | .v (.s (.p j off)), some ti, .v x => match JqI vs.bx j, V.cellsOf x with
  | some cs,some ns=>if ns.length=ti.size∧0<ti.size∧ns.all JcW=true then match JeY cs off with
    | some ⟨e,n,xs,o⟩=>if o=0∧ns.length=n*e.n then (Jk2 vs.bf e ns n).map fun ys=>(none,Qn,{ vs with bx:=QC vs.bx j (JaN e ys cs off) }) else none
    | none=>match JiW ns cs off with
     | some cs=>some (none,Qn,{ vs with bx:=QC vs.bx j cs })
     | none=>bif Nat.beq off 0 then (JdI vs.bf (JiP cs) ns).bind fun nc=>bif nc.any Qh && (Jcn nc).isNone then some (none,Qn,{ vs with bx:=QC vs.bx j nc }) else none else none
   else none
  | _,_=>none
 | .v (.s (.q e j i off)), some ti, .v x => match JqI vs.bx j, V.cellsOf x with
  | some cs, some ns => match JeY cs off with
   | some ⟨e',n,xs,o⟩=>match Jbr e' e xs with
    | some xs=>if ns.length=ti.size∧o+ns.length≤e.n∧ns.all JcW=true then
      (Jhq vs.bf e (lay (exp e (xs.getD i.toNat e.dflt)) o ns)).map fun y=>(some (decide (i.toNat<n)),Qn,{ vs with bx:=QC vs.bx j (JaN e (xs.set i.toNat y) cs off) })
     else none
    | none=>none
   | none=>none
  | _,_=>none
 | _,_,_=>none
def Joi (P:Program) (t:TypeId) (j off:Nat) (ix:Sl) (vs:VS):OR:=
 match P.underlying t,JkO ix with
 | some (.array n e),some (.ofNat k)=>match P.info? e with
  | some ti=>some (some (decide (k<n)),.v (.s (.p j (off+k*ti.size))),vs)
  | none=>none
 | _,_=>none
def Jj1 (P:Program) (t:TypeId) (x ix:Sl) (vs:VS):OR:=
 match x with
 | .v (.s (.p j off))=>match Jlg P t,JqI vs.bx j with
  | some (len,_,ty),some cs=>match JkO ix,JeY cs off with
   | some k,some ⟨e,n,_,0⟩=>if len=n∧ty=e then some (some (decide (0≤k∧k<n)),.v (.s (.q e j k off)),vs) else none
   | _,_=>none
  | none,some _=>Joi P t j off ix vs
  | _,_=>none
 | _=>none
def planT (P:Program) (t:TypeId):List (Nat × Option Ty):=
 match P.underlying t with
 | some (.struct fs)=>fs.toList.map fun f=>match Jlg P f.type with
  | some (n,_,ty)=>bif Nat.blt 1 n then (n,some ty) else (n*ty.n,none)
  | none=>match P.info? f.type with
   | some ti=>(ti.size,none)
   | none=>(0,none)
 | _ => []
def JqW (P:Program) (t:TypeId) (cs:List Cl) (vs:VS):Option (Sl × VS):=
 match JdI vs.bf (planT P t) cs with
 | some cs=>bif cs.any Qh && (Jcn cs).isNone then some (newBox vs cs) else none
 | none=>none
def JlR (P:Program) (t:TypeId):Bool:=(Ju2 P t).isNone && (planT P t).any fun p=>p.2.isSome
def Jj8 (P:Program) (t:TypeId) (vs:VS):OR:=
 match QI P t with
 | some z=>if z.cells.all okc then (JqW P t (z.cells.toList.map .c) vs).map fun p=>(none,p.1,p.2) else none
 | none=>none
def Joo (P:Program) (t:TypeId) (x:Sl) (vs:VS):OR:=
 match x with
 | .v x=>match V.cellsOf x with
  | some cs=>if cs.all JcW then (JqW P t cs vs).map fun p=>(none,p.1,p.2) else none
  | none=>none
 | _=>none
def JhH:Op→Bool
 | .binOp .shl .. | .binOp .shr .. => true
 | _=>false
def Jm3 (vs:VS) (j off:Nat):VS:=
 match vs.bx[j]? with
 | some cs=>match cs[off]? with
  | some (.m e q)=>match lenOf vs.bx q with
   | some L=>bif J9 cs then vs else { vs with bx:=QC vs.bx j (QC cs off (.w e q 0 L false)) }
   | none=>vs
  | _=>vs
 | none=>vs
def Jg0 (P:Program) (t:TypeId) (x:Sl) (vs:VS):OR:=
 match P.underlying t with
 | some (.interface _)=>none
 | none=>none
 | some _=>match x with
  | .v (.s (.p j off))=>some (none,.v (.s (.ip t j off)),Jm3 vs j off)
  | _=>some (none,.v .x,vs)
def Jll (P:Program) (hot:Bool) (vs:VS) (o:Oper):OR:=
 match (bif JhH o.op || JrM vs o.op then none else Jmz P vs o) with
 | some r=>some r
 | none=>
 match o.op with
 | .move x | .assign x=>some (none,vs.ev x,vs)
 | .alloc t=>bif hot && JlR P t then Jj8 P t vs else Jop P t hot vs
 | .box t x=>bif hot && JlR P t then Joo P t (vs.ev x) vs else vbox P t hot (vs.ev x) vs
 | .buildSlice t len parts=>JcN P t hot len parts.toList vs
 | .build t parts=>Jon P t parts.toList vs
 | .load t a=>bif Jf2 vs (vs.ev a) then Jog P t (vs.ev a) vs else Jlm P t (vs.ev a) vs
 | .store t a x=>bif Jf2 vs (vs.ev a) then JjQ P t (vs.ev a) (vs.ev x) vs else JjR P t (vs.ev a) (vs.ev x) vs
 | .nilCheck x=>match vs.ev x with
  | .v (.s (.p j off))=>some (none,.v (.s (.p j off)),vs)
  | .v (.s (.q e j i off))=>some (none,.v (.s (.q e j i off)),vs)
  | .v (.s (.e e x off))=>some (none,.v (.s (.e e x off)),vs)
  | _=>none
 | .binOp op t x y _=>vbin P op t (vs.ev x) (vs.ev y) vs
 | .convert src dst x=>JeB P src dst hot (vs.ev x) vs
 | .makeSlice t l c=>JdE P t hot (vs.ev l) (vs.ev c) vs
 | .slice t x lo hi mx=>Jin P t (vs.ev x) (lo.map vs.ev) (hi.map vs.ev) (mx.map vs.ev) vs (zC hi)
 | .fieldAddr s x f=>Jcl P s (vs.ev x) f vs
 | .field s x f=>Joj P s (vs.ev x) f vs
 | .makeInterface t x=>Jg0 P t (vs.ev x) vs
 | .index t x ix=>Jj0 P t (vs.ev x) (vs.ev ix) vs
 | .indexAddr t x ix=>bif Jf2 vs (vs.ev x) then Jj1 P t (vs.ev x) (vs.ev ix) vs else Jck P t (vs.ev x) (vs.ev ix) vs
 | .extract x ix=>match vs.ev x with
  | .t l=>match l[ix]? with
   | some s=>some (none,.v s,vs)
   | none=>none
  | _=>none
 | .call c=>match c.callee with
  | .builtin .len=>match c.args[0]? with
   | some x=>vlen P c.argTypes[0]? (vs.ev x) vs
   | none=>none
  | .builtin .append=>match c.args[0]?, c.args[1]?, c.argTypes[0]? with
   | some s,some x,some t=>if c.args.size=2 then Jj7 P t hot c.argTypes[1]? (vs.ev s) (vs.ev x) vs else none
   | _,_,_=>none
  | .builtin .copy=>match c.args[0]?, c.args[1]?, c.argTypes[0]? with
   | some s,some x,some t=>if c.args.size=2 then JtO P t (vs.ev s) (vs.ev x) vs else none
   | _,_,_=>none
  | _=>none
 | _=>none
def Jjd (q:ByteArray):List (ByteArray × Nat × Nat)→Nat→Option (Nat × Nat)
 | [],_=>none
 | a::l,i=>bif q == a.1 then some (i,a.2.2) else Jjd q l (i+1)
def modK (q:ByteArray) (jj:Nat):List (ByteArray × Nat × Nat)→Nat→List (ByteArray × Nat × Nat)
 | [],_ => []
 | a::l,0=>(q,a.2.1,jj)::l
 | a::l,i+1=>a::modK q jj l i
def eraK:List (ByteArray × Nat × Nat)→Nat→List (ByteArray × Nat × Nat)
 | [],_ => []
 | _::l,0=>l
 | a::l,i+1=>a::eraK l i
def isTxt:TypeDesc→Bool
 | .string=>true
 | _=>false
def JbM (P:Program) (t:TypeId):Option TypeId:=
 match JkH P t with
 | some (d,e)=>bif isTxt d then some e else none
 | none=>none
def JoY (vs:VS) (j:Nat):Option (Nat × List (ByteArray × Nat × Nat)):=
 match vs.bx[j]? with
 | some [.mx c l]=>some (c,l)
 | _=>none
def Jg5 (P : Program) (t : TypeId) (x k : Sl) (ok : Bool) (vs : VS) : Option (Sl × VS) :=
 match JbM P t,x,k with
 | some e,.v (.s (.mv j)),.v (.s (.c (.string q)))=>match JoY vs j with
  | some (_,l)=>match Jjd q l 0 with
   | some (_,jj)=>some (cond ok (.t [.s (.p jj 0),.s (.c (.bool true))]) (.v (.s (.p jj 0))),vs)
   | none=>match Jaq P e ok none with
    | some v=>some (ofV v,vs)
    | none=>none
  | none=>none
 | _,_,_=>none
def putK (q:ByteArray) (jj c:Nat) (l:List (ByteArray × Nat × Nat)):Option (Nat × Nat)→List Cl
 | some (i,_) => [.mx c (modK q jj l i)]
 | none => [.mx (c+1) (l ++ [(q,c,jj)])]
def JjP (P:Program) (t:TypeId) (x k v:Sl) (vs:VS):Option (Sl × VS):=
 match JbM P t,x,k with
 | some _,.v (.s (.mv j)),.v (.s (.c (.string q)))=>match JoY vs j,v with
  | some (c,l),.v (.s (.p jj 0))=>some (Qn,{ vs with bx:=QC vs.bx j (putK q jj c l (Jjd q l 0)) })
  | _,_=>none
 | _,_,_=>none
def delK (c:Nat) (l:List (ByteArray × Nat × Nat)):Option (Nat × Nat)→List Cl
 | some (i,_) => [.mx c (eraK l i)]
 | none => [.mx c l]
def Jj5 (P:Program) (t:TypeId) (x k:Sl) (vs:VS):Option (Sl × VS):=
 match JbM P t,x,k with
 | some _,.v (.s (.mv j)),.v (.s (.c (.string q)))=>match JoY vs j with
  | some (c,l)=>some (Qn,{ vs with bx:=QC vs.bx j (delK c l (Jjd q l 0)) })
  | none=>none
 | _,_,_=>none
def Jg1 (P:Program) (t:TypeId) (r:Option Sl) (vs:VS):Option (Sl × VS):=
 match r,P.underlying t with
 | none,_ | some (.v (.s (.c (.int _ _)))),some (.map _ _)=>some (.v (.s (.mv vs.bx.length)),(newBox vs [.mx 0 []]).2)
 | _,_=>none
def QA {α:Type} (q:ByteArray):List (ByteArray × α)→Option α
 | []=>none
 | a::l=>bif q == a.1 then some a.2 else QA q l
def Jea {α:Type} (q:ByteArray) (y:α):List (ByteArray × α)→List (ByteArray × α)
 | [] => [(q,y)]
 | a::l=>bif q == a.1 then (q,y)::l else a::Jea q y l
def JjN {α:Type} (q:ByteArray):List (ByteArray × α)→List (ByteArray × α)
 | [] => []
 | a::l=>bif q == a.1 then l else a::JjN q l
def msAt (vs:VS) (j:Nat):Option ((e:Ty) × List (ByteArray × e.El)):=
 match vs.bx[j]? with
 | some [.ms e xs]=>some ⟨e,xs⟩
 | _=>none
def JrL (vs:VS):Sl→Bool
 | .v (.s (.mv j))=>(msAt vs j).isSome
 | _=>false
def Jtg:Value→Bool
 | .agg _=>true
 | _=>false
def JtI (P:Program) (et:TypeId) (e:Ty) (bf:List Bf):Option e.El:=
 match QI P et with
 | some z=>if z.cells.all okc=true∧Jtg z=e.ag∧(e.ag || (okc z && Nat.beq z.cells.size 1))=true then Jhq bf e (z.cells.toList.map .c) else none
 | none=>none
def Jg4 (P:Program) (t:TypeId) (x k:Sl) (ok:Bool) (vs:VS):Option (Sl × VS):=
 match JbM P t,x,k with
 | some et,.v (.s (.mv j)),.v (.s (.c (.string q)))=>match msAt vs j with
  | some ⟨e,xs⟩=>(JtI P et e vs.bf).map fun z=>(cond ok (.t [JfT e ((QA q xs).getD z),.s (.c (.bool (QA q xs).isSome))]) (.v (JfT e ((QA q xs).getD z))),vs)
  | none=>none
 | _,_,_=>none
def JgW (P:Program) (t:TypeId) (x k v:Sl) (vs:VS):Option (Sl × VS):=
 match JbM P t,x,k,v with
 | some _,.v (.s (.mv j)),.v (.s (.c (.string q))),.v s=>match msAt vs j with
  | some ⟨e,xs⟩=>(rdS vs.bf e s).map fun y=>(Qn,{ vs with bx:=QC vs.bx j [.ms e (Jea q y xs)] })
  | none=>none
 | _,_,_,_=>none
def Jg9 (P:Program) (t:TypeId) (x k:Sl) (vs:VS):Option (Sl × VS):=
 match JbM P t,x,k with
 | some _,.v (.s (.mv j)),.v (.s (.c (.string q)))=>match msAt vs j with
  | some ⟨e,xs⟩=>some (Qn,{ vs with bx:=QC vs.bx j [.ms e (JjN q xs)] })
  | none=>none
 | _,_,_=>none
def JeS (P:Program) (t:TypeId) (r:Option Sl) (vs:VS):Option (Sl × VS):=
 match JbM P t with
 | some et=>match JiA P 8 et with
  | some e=>match r,P.underlying t with
   | none,_ | some (.v (.s (.c (.int _ _)))),some (.map _ _)=>some (.v (.s (.mv vs.bx.length)),(newBox vs [.ms e []]).2)
   | _,_=>none
  | none=>none
 | none=>none
def mtAt (vs:VS) (j:Nat):Option (List ByteArray × List Cl):=
 match vs.bx[j]? with
 | some (.mt ks::cs)=>bif cs.any Qh then none else some (ks,cs)
 | _=>none
def Juo (vs:VS):Sl→Bool
 | .v (.s (.mv j))=>(mtAt vs j).isSome
 | _=>false
def nilZ (P:Program) (et:TypeId):Bool:=
 match QI P et with
 | some z=>XU z
 | none=>false
def Jse (q:ByteArray):List ByteArray→List Cl→Option Cl
 | k::ks,c::cs=>bif q == k then some c else Jse q ks cs
 | _,_=>none
def setK (q:ByteArray) (c:Cl):List ByteArray→List Cl→Option (List Cl)
 | k::ks,d::cs=>bif q == k then (bif ks.any (q == ·) then none else some (c::cs)) else (setK q c ks cs).map (d :: ·)
 | _,_=>none
def Jrb (bf:List Bf) (e:Ty) (q:ByteArray):List ByteArray→List Cl→Option (List e.El)
 | [], []=>some []
 | k::ks,c::cs=>match Jti bf e c,Jrb bf e q ks cs with
  | some xs,some r=>some (bif q == k then xs else r)
  | _,_=>none
 | _,_=>none
def Jg3 (P:Program) (t:TypeId) (x k:Sl) (ok hot:Bool) (vs:VS):Option (Sl × VS):=
 match JbM P t,x,k with
 | some et,.v (.s (.mv j)),.v (.s (.c (.string q)))=>match mtAt vs j with
  | some (ks,cs)=>bif nilZ P et then (bif hot then (bif ok then none else (Jse q ks cs).map fun c=>(.v (.s c),vs)) else match JiA P 8 et with
   | some (.l e)=>(Jrb vs.bf e q ks cs).map fun xs=>(cond ok (.t [.s (.l e xs),.s (.c (.bool !xs.isEmpty))]) (.v (.s (.l e xs))),vs)
   | _=>none) else none
  | none=>none
 | _,_,_=>none
def Jpt (vs:VS) (x v:Sl):Option Bool:=
 match x,v with
 | .v (.s (.mv j)),.v (.s (.o jb))=>match mtAt vs j,vs.bf[jb]? with
  | some _,some b=>some !b.xs.isEmpty
  | _,_=>none
 | _,_=>none
def Jpu (vs:VS) (o:Op):Option Bool:=
 match o with
 | .mapUpdate _ x _ v | .insert _ x _ v=>Jpt vs (vs.ev x) (vs.ev v)
 | _=>none
def JgV (P:Program) (t:TypeId) (x k v:Sl) (vs:VS):Option (Sl × VS):=
 match JbM P t,x,k,v with
 | some _,.v (.s (.mv j)),.v (.s (.c (.string q))),.v (.s (.o jb))=>match mtAt vs j,vs.bf[jb]? with
  | some (ks,cs),some _=>(setK q (.o jb) ks cs).map fun cs1=>(Qn,{ vs with bx:=QC vs.bx j (.mt ks::cs1) })
  | _,_=>none
 | _,_,_,_=>none
def JcT (e:Ty):Nat→VS→List Cl × VS
 | 0,vs=>([],vs)
 | n+1,vs=>(.o vs.bf.length::(JcT e n (newBuf vs e []).2).1,(JcT e n (newBuf vs e []).2).2)
def JeQ (P:Program) (t:TypeId) (ks:List ByteArray) (r:Option Sl) (vs:VS):Option (Sl × VS):=
 match r,JbM P t with
 | none,some et=>match JiA P 8 et with
  | some (.l e)=>bif Nat.blt 0 e.n then some (.v (.s (.mv vs.bx.length)),(newBox (JcT e ks.length vs).2 (.mt ks::(JcT e ks.length vs).1)).2) else none
  | _=>none
 | _,_=>none
def Jpm:Option TypeDesc→Bool
 | some (.map _ _)=>true
 | _=>false
def JjV (P:Program) (t:TypeId) (x:Sl) (vs:VS):Option (Sl × VS):=
 match x with
 | .v (.s (.mv j))=>match JoY vs j with
  | some (c,_)=>bif Jpm (P.underlying t) then some (newBox vs [.mi j c [] c]) else none
  | none=>none
 | _=>none
def newK (seen:List Nat) (l:List (ByteArray × Nat × Nat)):List (ByteArray × Nat × Nat):=l.filter fun a => !seen.contains a.2.1
def oldK (since:Nat) (l:List (ByteArray × Nat × Nat)):List (ByteArray × Nat × Nat):=l.filter fun a=>decide (a.2.1<since)
def lateK (since:Nat) (l:List (ByteArray × Nat × Nat)):List (ByteArray × Nat × Nat):=l.filter fun a=>decide (a.2.1≥since)
def Jof (i jm since:Nat) (seen:List Nat) (last c:Nat) (l:List (ByteArray × Nat × Nat)) (vs:VS):Option (Sl × VS):=
 bif !seen.isEmpty && !l.isEmpty && l.all (fun a=>decide (a.2.1≥last)) then none else
 match oldK since (newK seen l),lateK since (newK seen l) with
 | [], []=>some (.t [.s (.c (.bool false))],vs)
 | [a], []=>some (.t [.s (.c (.bool true)),.s (.c (.string a.1)),.s (.p a.2.2 0)],{ vs with bx:=QC vs.bx i [.mi jm since (seen ++ [a.2.1]) c] })
 | _,_=>none
def JtL (it:Sl) (isStr:Bool) (vs:VS):Option (Sl × VS):=
 match isStr,it with
 | false,.v (.s (.p i 0))=>match vs.bx[i]? with
  | some [.mi jm since seen last]=>match JoY vs jm with
   | some (c,l)=>Jof i jm since seen last c l vs
   | none=>none
  | _=>none
 | _,_=>none
def Jom (it:Sl) (vs:VS):Option (Sl × VS):=
 match it with
 | .v (.s (.p i 0))=>match vs.bx[i]? with
  | some [.mi jm since seen last]=>match JoY vs jm,seen.getLast? with
   | some (c,l),some st=>bif Nat.beq c last then (l.find? fun a=>a.2.1 == st).map fun a=>(.t [.s (.c (.string a.1)),.s (.p a.2.2 0)],vs) else none
   | _,_=>none
  | _=>none
 | _=>none
def Jfn:Op→Bool
 | .lookup .. | .mapUpdate .. | .insert .. | .makeMap .. | .range .. | .next .. | .entry .. => true
 | .call c=>match c.callee with
  | .builtin .delete=>true
  | _=>false
 | _=>false
def vmap (P:Program) (hot:Bool) (ks:List ByteArray) (vs:VS) (o:Oper):Option (Sl × VS):=
 match o.op with
 | .lookup t x k ok=>bif Juo vs (vs.ev x) then Jg3 P t (vs.ev x) (vs.ev k) ok hot vs else bif JrL vs (vs.ev x) then Jg4 P t (vs.ev x) (vs.ev k) ok vs else Jg5 P t (vs.ev x) (vs.ev k) ok vs
 | .mapUpdate t x k v | .insert t x k v=>bif Juo vs (vs.ev x) then JgV P t (vs.ev x) (vs.ev k) (vs.ev v) vs else bif JrL vs (vs.ev x) then JgW P t (vs.ev x) (vs.ev k) (vs.ev v) vs else JjP P t (vs.ev x) (vs.ev k) (vs.ev v) vs
 | .makeMap t r=>bif !ks.isEmpty then JeQ P t ks (r.map vs.ev) vs else bif hot then JeS P t (r.map vs.ev) vs else Jg1 P t (r.map vs.ev) vs
 | .range t x=>JjV P t (vs.ev x) vs
 | .next it s=>JtL (vs.ev it) s vs
 | .entry it=>Jom (vs.ev it) vs
 | .call c=>match c.args[0]?, c.args[1]?, c.argTypes[0]? with
  | some x,some k,some t=>if c.args.size=2 then (bif JrL vs (vs.ev x) then Jg9 P t (vs.ev x) (vs.ev k) vs else Jj5 P t (vs.ev x) (vs.ev k) vs) else none
  | _,_,_=>none
 | _=>none
end Go.IM.V
namespace Go.IM.V
open Go Go.IM
abbrev Tab:=List (Nat × Con)
def Jca:Tab→Nat→Option Con
  | [],_=>none
  | (k,c)::l,k'=>bif Nat.beq k k' then some c else Jca l k'
def JqN (l:List S1) (i:Nat):Sl:=
  match l,i with
  | [],_ => .v .x
  | s::_,0 => .v s
  | _::r,i+1=>JqN r i
def JaS (j q:Nat):Cl→Cl
  | .m e j'=>bif Nat.beq j' j then .o q else .m e j'
  | c=>c
def Jf4 (j q:Nat):S1→S1
  | .s c => .s (JaS j q c)
  | .a cs => .a (cs.map (JaS j q))
  | .x => .x
def Jsa (j q:Nat):Sl→Sl
  | .v s => .v (Jf4 j q s)
  | .t l => .t (l.map (Jf4 j q))
def cool (vs : VS) (j : Nat) (e : Ty) (xs : List e.El) : VS :=
  { vs with sl := fun i => Jsa j vs.bf.length (vs.sl i), bx := (QC vs.bx j [.g]).map (·.map (JaS j vs.bf.length)), bf := vs.bf ++ [⟨e, xs, true, false⟩],
            df:=vs.df.map fun p=>(p.1,p.2.map (Jf4 j vs.bf.length)) }
def Ja4 (j q:Nat):Cl→Cl
  | .m e j'=>bif Nat.beq j' j then .m e q else .m e j'
  | c=>c
def Jnb (j q:Nat):S1→S1
  | .s c => .s (Ja4 j q c)
  | .a cs => .a (cs.map (Ja4 j q))
  | .x => .x
def Jub (j q:Nat):Sl→Sl
  | .v s => .v (Jnb j q s)
  | .t l => .t (l.map (Jnb j q))
def move (vs : VS) (j : Nat) (own : Bool) (e : Ty) (xs : List e.El) : VS :=
  { vs with sl := fun i => Jub j vs.bx.length (vs.sl i), bx := (QC vs.bx j [.g]).map (·.map (Ja4 j vs.bx.length)) ++ [[.r own e xs]],
            df:=vs.df.map fun p=>(p.1,p.2.map (Jnb j vs.bx.length)) }
def mOf:List Cl→Option Nat
  | []=>none
  | .m _ j::_=>some j
  | _::r=>mOf r
def mOfS:S1→Option Nat
  | .s c=>mOf [c]
  | .a cs=>mOf cs
  | .x=>none
def Jl3 (bx : List (List Cl)) (p : Pt) (s : S1) : Option (Nat × (e : Ty) × List e.El) :=
  match p with
  | .v _ | .o _ => match mOfS s with
    | some j=>match bx[j]? with
      | some [.r true e xs]=>some (j,⟨e,xs⟩)
      | _=>none
    | none=>none
  | _=>none
def JnG : List (Nat × Pt) → List S1 → VS → List S1 × VS
  | [],l,vs=>(l,vs)
  | (k, p) :: r, l, vs => match l[k]? with
    | some s=>match Jl3 vs.bx p s with
      | some (j,⟨e,xs⟩)=>JnG r (l.map (Jf4 j vs.bf.length)) (cool vs j e xs)
      | none=>JnG r l vs
    | none=>JnG r l vs
def Jeu : List (Nat × Pt) → VS → VS
  | [],vs=>vs
  | (k, p) :: r, vs => match vs.sl k with
    | .v s=>match Jl3 vs.bx p s with
      | some (j,⟨e,xs⟩)=>Jeu r (cool vs j e xs)
      | none=>Jeu r vs
    | _=>Jeu r vs
def Jfa : List (Nat × Pt) → List Ty → List S1 → VS → List S1 × VS
  | [],_,l,vs=>(l,vs)
  | (k,.o t)::r,bf,l,vs=>match l[k]?, bf[t]? with
    | some (.s (.c v)),some e=>bif XU v && Nat.blt 0 e.n then Jfa r bf (QC l k (.s (.o vs.bf.length))) { vs with bf:=vs.bf ++ [⟨e, [],true,false⟩] } else Jfa r bf l vs
    | _,_=>Jfa r bf l vs
  | (k,.m e t)::r,bf,l,vs=>match l[k]? with
    | some (.s (.c v))=>bif XU v && Nat.blt 0 e.n then Jfa r bf (QC l k (.s (.m e vs.bx.length))) { vs with bx:=vs.bx ++ [[.r true e []]] } else Jfa r bf l vs
    | _=>Jfa r bf l vs
  | _::r,bf,l,vs=>Jfa r bf l vs
def prep (pl:List (Nat × Pt)) (bf:List Ty) (l:List S1) (vs:VS):List S1 × VS:=
  match JnG pl l vs with
  | (l1,vs1)=>Jfa pl bf l1 vs1
def Jaa:List Nat→List Bf→List Bf
  | [],bf=>bf
  | j::l,bf=>Jaa l (freeze bf j)
def JdN (o:Bool):List Cl→List Cl
  | [.r _ e xs] => [.r o e xs]
  | cs=>cs
def Jdh (old:Option (List Cl)) (c:List Cl):List Cl:=
  match old with
  | some [.r o _ _]=>JdN o c
  | _=>c
def Jbp (o:Bool):List Nat→List (List Cl)→List (List Cl)→List (List Cl)
  | j::g,c::r,bx=>Jbp o g r (QC bx j (Jdh bx[j]? c))
  | _,r,bx=>bx++r.map (JdN o)
def Js2:List Cl→Bool
  | [.r _ _ _]=>false
  | [.ra _ _]=>false
  | [.g]=>false
  | _=>true
def JgD (bx:List (List Cl)):List Nat→List (List Cl)→Bool
  | [],_=>true
  | j::g,c::r=>((match bx[j]? with | some [.r o _ _]=>o | _=>false) || Js2 c) && JgD bx g r
  | _::_, []=>false
def rx (g:List Nat) (n k:Nat):Nat:=match g[k]? with | some j=>j | none=>n+(k - g.length)
def after (vs:VS) (q:GH) (t:Tm) (x:t.E):List (Nat × S1) × VS:=
  (slI (rx q.g vs.bx.length) (vs.bf.length + ·) t.sl x.1,
   { vs with bx:=Jbp (JgD vs.bx q.g (bxI (rx q.g vs.bx.length) (vs.bf.length + ·) t.bx x.2.1)) q.g (bxI (rx q.g vs.bx.length) (vs.bf.length + ·) t.bx x.2.1) vs.bx,bf:=Jaa q.h vs.bf++bfI t.bf x.2.2 })
variable {ρ:Type}
def JiI:List (Nat × S1)→Sl
  | [(_,s)] => .v s
  | l => .t (l.map (·.2))
def JqV (vs:VS) (q:GH) (K:Sl→VS→Option ρ) (Kp:Value→VS→Option ρ):(o:OT)→o.E→Option ρ
  | .ret t,x=>K (JiI (after vs q t x).1) (after vs q t x).2
  | .exit _ _,_=>none
  | .pnc tid k t,x=>Kp (.iface tid (.agg #[.int k x.1])) (after vs q t x.2).2
  | .two a b,x=>Sum.elim (JqV vs q K Kp a) (JqV vs q K Kp b) x
def Jrp (vs : VS) : Cl → Cl
  | .c v => .c v
  | .l e xs => .l e xs
  | .o j => .o j
  | .m e j=>match Jfc vs e (.m e j) with
    | some xs => .l e xs
    | none => .x
  | .w e j o n cp=>match Jfc vs e (.w e j o n cp) with
    | some xs => .l e xs
    | none => .x
  | _ => .x
def lendS (vs:VS):S1→S1
  | .s c => .s (Jrp vs c)
  | .a cs => .a (cs.map (Jrp vs))
  | .x => .x
def fogV:Sl→Sl
  | .v s => .v (fog s)
  | .t l => .t (l.map fog)
def isRetO:OT→Bool
  | .ret t=>t.bx.isEmpty && t.bf.isEmpty
  | _=>false
def JhB (con:Con):Bool:=con.ins.bx.isEmpty && con.ins.bf.isEmpty && isRetO con.out
def vlend (vs:VS) (K:Sl→VS→Option ρ):(o:OT)→o.E→Option ρ
  | .ret t,y=>K (fogV (JiI (slI id id t.sl y.1))) vs
  | _,_=>none
def Juj (con:Con) (args:List S1) (vs:VS):Option (con.ins.E × GH):=
  cond (JhB con && Nat.beq con.ins.sl.length args.length) (con.ins.mat (JqN (args.map (lendS vs))) { vs with bx := [] } []) none
def Jh5 (vs:VS):List Operand→List S1
  | [] => []
  | x::r=>unV (vs.ev x)::Jh5 vs r
def Jb9:Tab→Nat→List Con
  | [],_ => []
  | (k,c)::l,k'=>bif Nat.beq k k' then c::Jb9 l k' else Jb9 l k'
def JeU (low : Bool) (args : List S1) (vs : VS) (K : Sl → VS → Option ρ) (Kp : Value → VS → Option ρ) : List Con → Option ρ
  | []=>none
  | con :: cs => match prep con.ins.sl con.ins.bf args vs with
    | (l,vs1)=>match con.ins.mat (JqN l) vs1 [] with
      | some (x,q)=>bif !(Nat.beq con.ins.sl.length args.length) then none else bif low && !q.g.isEmpty then none else (con.F x).bind fun y=>JqV vs1 q K Kp con.out y
      | none=>JeU low args vs K Kp cs
def Jln (args : List S1) (vs : VS) (K : Sl → VS → Option ρ) : List Con → Option ρ
  | []=>none
  | con::cs=>match Juj con args vs with
    | some (x,_)=>(con.F x).bind fun y=>vlend vs K con.out y
    | none=>Jln args vs K cs
def JsZ (C:Tab) (d:Option Tmp):Bool:=match d with
  | some d=>(Jca C (500000+d)).isSome
  | none=>false
def JmH (C:Tab) (low:Bool) (k:Nat) (args:List S1) (vs:VS) (K:Sl→VS→Option ρ) (Kp:Value→VS→Option ρ):Option ρ:=
  bif Nat.blt k 1000000 then (bif low && !(Jb9 C (3000000+k)).isEmpty then JeU false args vs K Kp (Jb9 C (3000000+k)) else JeU low args vs K Kp (Jb9 C k)) else none
def okFn (P:Program) (k:Nat):Bool:=
  match P.funcs[k]? with
  | some fn => fn.body.isSome && !(fn.name == "runtime.NumGoroutine")
  | none=>false
def fnOf (x:Sl):Option Nat:=
  match x with
  | .v (.s (.c (.func (.func k) a c)))=>bif a.isEmpty && c.isEmpty then some k else none
  | _=>none
noncomputable def both (a b:Option ρ):Option ρ:=open Classical in if a=b then a else none
def nilC:Sl→Bool
  | .v (.s (.c v))=>XU v
  | _=>false
noncomputable def Jff (n:Nat) (a b:Option ρ):Option ρ:=bif decide (0<n) then b else both a b
def JlK (P:Program) (t:TypeId) (bf:List Bf) (x y:Sl):Option Nat:=
  match P.underlying t with
  | some (.slice _)=>bif nilC x then (match Jer bf y with | some ⟨_,xs⟩=>some xs.length | none=>none) else bif nilC y then (match Jer bf x with | some ⟨_,xs⟩=>some xs.length | none=>none) else none
  | _=>none
def JhQ (C:Tab) (o:Oper):Bool:=match o.dst with
  | some d=>(Jca C (900000+d)).isSome
  | none=>false
def JlT:Op→Bool
  | .call ⟨.builtin .copy,_,_⟩=>true
  | _=>false
def isWr:Op→Bool
  | .store _ _ _=>true
  | o=>JlT o
def JpG (C:Tab) (o:Oper):Bool:=match o.dst with
  | some d=>(Jca C (800000+d)).isSome
  | none=>false
def opPl:List Operand→List (Nat × Pt)
  | [] => []
  | .tmp t::r=>(t,.v (.i .u8))::opPl r
  | _::r=>opPl r
def Jov (C:Tab) (o:Oper):Bool:=match o.dst with
  | some d=>(Jca C (600000+d)).isSome
  | none=>false
def JsL (C:Tab) (k:Nat):List ByteArray:=
  match Jca C k with
  | some ⟨⟨_, [[.mt ks]],_⟩,_,_⟩=>ks
  | _ => []
def Jkj:Tab→Nat→Option (Nat × Nat × List ByteArray)
  | [],_=>none
  | (k,_)::l,d=>bif Nat.blt k 1000000000 then Jkj l d else bif Nat.beq (k % 100000) d then some ((k / 10000000) % 100,(k / 100000) % 100, []) else Jkj l d
def splitX (C:Tab) (d:Nat):Option (Nat × Nat × List ByteArray):=
  match JsL C (400000+d) with
  | []=>Jkj C d
  | q::ks=>some (0,0,q::ks)
def Jlv (x:ByteArray) (K:ByteArray→Option ρ):List ByteArray→Option ρ
  | []=>none
  | q::ks=>cond (x == q) (K q) (Jlv x K ks)
def Jlw (x:Int) (K:Int→Option ρ):Nat→Nat→Option ρ
  | _,0=>none
  | lo,n+1=>cond (decide (x = .ofNat lo)) (K (.ofNat lo)) (Jlw x K (lo+1) n)
def Jlx (s : Option (Nat × Nat × List ByteArray)) (x : Sl) (K : Sl → Option ρ) : Option ρ :=
  match s with
  | none=>K x
  | some (lo,n,ks)=>match x with
    | .v (.s (.c (.int k x)))=>Jlw x (fun y=>K (.v (.s (.c (.int k y))))) lo n
    | .v (.s (.c (.string x)))=>bif ks.isEmpty then K (.v (.s (.c (.string x)))) else Jlv x (fun y=>K (.v (.s (.c (.string y))))) ks
    | x=>K x
def JsM (C:Tab) (o:Oper):Option (Nat × Nat × List ByteArray):=match o.dst with
  | some d=>splitX C d
  | none=>none
def keysO (C:Tab) (o:Oper):List ByteArray:=match o.dst with
  | some d=>JsL C (900000+d)
  | none => []
def Jdi:Op→Bool
  | .lookup .. => true
  | _=>false
def Jn9 (P : Program) (vs : VS) (o : Oper) (K : Sl → VS → Option ρ) : Option ρ :=
  match o.op with
  | .makeSlice t l c=>match JtJ P t (vs.ev l) (vs.ev c) vs with
    | some (x,vs1)=>K x vs1
    | none=>none
  | _=>none
noncomputable def vopD (P : Program) (C : Tab) (low : Bool) (vs : VS) (o : Oper) (K : Sl → VS → Option ρ) : Option ρ :=
  bif low && JlT o.op then none else match Jll P (JhQ C o) vs o with
    | some (none,x,vs1)=>K x vs1
    | some (some g,x,vs1)=>cond g (K x vs1) none
    | none=>none
def JtM (P : Program) (hot : Bool) (ks : List ByteArray) (low : Bool) (vs : VS) (o : Oper) (K : Sl → VS → Option ρ) : Option ρ :=
  bif low && !Jdi o.op then none else match vmap P hot ks vs o with
    | some (x,vs1)=>match Jpu vs o.op with
      | none=>K x vs1
      | some g=>cond g (K x vs1) none
    | none=>none
noncomputable def vop (P : Program) (C : Tab) (low : Bool) (vs : VS) (o : Oper) (K : Sl → VS → Option ρ) (Kp : Value → VS → Option ρ) : Option ρ :=
  match o.op with
  | .pick c a b=>match vs.ev c with
    | .v (.s (.c (.bool t)))=>cond t (K (vs.ev a) vs) (K (vs.ev b) vs)
    | _=>none
  | .panic x=>match exS (vs.ev x) with
    | some (.iface t v)=>Kp (.iface t v) vs
    | _=>none
  | .defer c => match c.callee with
    | .value f=>match fnOf (vs.ev f) with
      | some k=>K Qn { vs with df:=(k,Jh5 vs c.args.toList)::vs.df }
      | none=>none
    | _=>none
  | .call ⟨.value f, args, _⟩ => match fnOf (vs.ev f) with
    | some k=>if okFn P k then cond (JsZ C o.dst && Nat.blt k 1000000) (Jln (Jh5 vs args.toList) vs K (Jb9 C k)) (JmH C low k (Jh5 vs args.toList) vs K Kp) else
      match (if Jp6 vs o.op.operands.toList then iop P (evV vs) o M0 else none) with
      | some (.val v _)=>K (ofV v) vs
      | _=>none
    | none=>none
  | .call ⟨.invoke rv name, args, _⟩ => match vs.ev rv with
    | .v (.s (.ip t j off)) => match Jnq P t name with
      | some (k,true,_)=>JmH C low k (.s (.p j off)::Jh5 vs args.toList) vs K Kp
      | some (k,false,e)=>match JmE P e (.v (.s (.p j off))) vs with
        | some (_,.v x,_)=>JmH C low k (x::Jh5 vs args.toList) vs K Kp
        | _=>none
      | none=>none
    | _=>none
  | .binOp .eql t x y _ => match JlK P t vs.bf (vs.ev x) (vs.ev y) with
    | some n=>Jff n (K (.v (.s (.c (.bool true)))) vs) (K (.v (.s (.c (.bool false)))) vs)
    | none=>match Jll P (JhQ C o) vs o with
      | some (none,x,vs1)=>K x vs1
      | some (some g,x,vs1)=>cond g (K x vs1) none
      | none=>none
  | .binOp .neq t x y _ => match JlK P t vs.bf (vs.ev x) (vs.ev y) with
    | some n=>Jff n (K (.v (.s (.c (.bool false)))) vs) (K (.v (.s (.c (.bool true)))) vs)
    | none=>match Jll P (JhQ C o) vs o with
      | some (none,x,vs1)=>K x vs1
      | some (some g,x,vs1)=>cond g (K x vs1) none
      | none=>none
  | .store _ _ _=>bif low then none else match Jll P (JhQ C o) vs o with
    | some (none,x,vs1)=>K x vs1
    | some (some g,x,vs1)=>cond g (K x vs1) none
    | none=>none
  | _=>cond (Jfn o.op) (JtM P (JhQ C o) (keysO C o) low vs o K) <| cond (Jov C o) (Jn9 P vs o K) (cond (JpG C o) (vopD P C low (Jeu (opPl o.op.operands.toList) vs) o K) (vopD P C low vs o K))
def VS.setB (vs:VS) (d:Nat) (b:Bool):VS := { vs with sl:=fun i=>bif Nat.beq i d then .v (.s (.c (.bool b))) else vs.sl i }
def VS.setO (vs:VS) (x:Operand) (b:Bool):VS:=
  match x with
  | .tmp t=>vs.setB t b
  | _=>vs
def QS:Sl→Bool
  | .v .x=>false
  | .v (.s .x)=>false
  | _=>true
def Jlo (vs : VS) (ops : Array Oper) (o : Oper) (run skip : VS → Option ρ) : Option ρ :=
  match o.guard with
  | none=>run vs
  | some (j, want) => match (ops[j]?).bind (·.dst) with
    | some d => bif Nat.blt d vs.N then match vs.sl d with
      | .v (.s (.c (.bool b)))=>match want with
        | true=>cond b (run (vs.setB d true)) (skip (vs.setB d false))
        | false=>cond b (skip (vs.setB d true)) (run (vs.setB d false))
      | .t []=>skip vs
      | _=>none else none
    | none=>none
noncomputable def Joe (P : Program) (C : Tab) (dr : Bool) (fl : Nat → Bool) (ops : Array Oper) : List Nat → VS → (VS → Option ρ) → (Value → VS → Option ρ) → Option ρ
  | [],vs,K,_=>K vs
  | i :: rest, vs, K, Kp => match ops[i]? with
    | none=>none
    | some o => bif JjL o then
        Jlo vs ops o (fun vs=>vop P C (fl i) vs o (fun x vs1=>Jlx (JsM C o) x fun x=>bif vs1.fits o.dst then Joe P C dr fl ops rest (({ vs1 with sl:=cond dr vs.sl vs1.sl }:VS).put o.dst x) K Kp else none) Kp) (fun vs=>bif vs.fits o.dst then Joe P C dr fl ops rest (vs.put o.dst Qn) K Kp else none)
      else none
def Jcb (o:Oper):Option Operand:=
  match o.op with
  | .load _ a=>some a
  | .slice _ x _ _ _=>some x
  | .convert _ _ x=>some x
  | _=>none
def Jeq:Op→Option Operand
  | .fieldAddr _ x _=>some x
  | .indexAddr _ x _=>some x
  | .move x=>some x
  | .assign x=>some x
  | .nilCheck x=>some x
  | .slice _ x _ _ _=>some x
  | _=>none
def adOf:Op→Option Operand
  | .fieldAddr _ x _=>some x
  | .indexAddr _ x _=>some x
  | .nilCheck x=>some x
  | .move x=>some x
  | .assign x=>some x
  | _=>none
def Jko (ops : Array Oper) : Nat → Nat → Option Nat
  | 0,t=>some t
  | q + 1, t => match ops[q]? with
    | some o=>bif o.dst == some t then (match adOf o.op with
      | some (.tmp t')=>Jko ops q t'
      | _=>none) else Jko ops q t
    | none=>none
def JoI:JsB→Bool
  | .p | .l | .a=>true
  | _=>false
def Jm2 (P : Program) (fl : Nat → Bool) (ops : Array Oper) : Nat → Bool
  | 0=>true
  | q+1=>(match ops[q]? with
    | some o=>fl q || JoI (JS P o)
    | none=>false) && Jm2 P fl ops q
def Jr8 (P : Program) (fl : Nat → Bool) (dp : Nat → Bool) (ops : Array Oper) (q : Nat) (o : Op) : Bool :=
  match o with
  | .load _ (.tmp t1)=>Jm2 P fl ops q && (match Jko ops q t1 with
    | some t0=>dp t0
    | none=>false)
  | _=>false
def JcJ (P : Program) (fl : Nat → Bool) (dp : Nat → Bool) (ops : Array Oper) (j : Nat) : Nat → Nat → Bool
  | 0,_=>true
  | q + 1, t => bif Nat.blt q j then true else match ops[q]? with
    | some o=>bif o.dst == some t then (match Jeq o.op with
      | some (.tmp t')=>JcJ P fl dp ops j q t'
      | _=>Jr8 P fl dp ops q o.op) else JcJ P fl dp ops j q t
    | none=>false
def JhS (P:Program) (fl:Nat→Bool) (dp:Nat→Bool) (ops:Array Oper) (j i:Nat) (x:Operand):Bool:=
  match x with
  | .tmp t=>JcJ P fl dp ops j i t
  | .const _=>true
  | _=>false
def Jtn (P : Program) (dp : Nat → Bool) (ops : Array Oper) : Bool :=
  let ms:=QH ops.toList []
  (List.range ops.size).all fun i => !(Jch P ops ms i) || (match XQ P ops ms i with
    | some j => match (ops[i]?).bind Jcb with
      | some x=>decide (j<i) && JhS P (Jch P ops ms) dp ops j i x
      | none => !(match ops[i]? with
        | some o=>Jdi o.op
        | none=>false)
    | none=>true)
def Jl2 (vs : VS) (t : Nat) : Bool :=
  match vs.sl t with
  | .v (.s (.p j _))=>match vs.bx[j]? with
    | some cs=>bif cs.any Qh then (Jcn cs).isNone && cs.all (fun c=>Qh c || JcW c) else !(J9 cs) && cs.all JcW
    | none=>false
  | .v (.s (.m _ j))=>(match vs.bx[j]? with
    | some [.r _ _ _]=>true
    | _=>false)
  | .v (.s (.w _ j _ _ _))=>(match vs.bx[j]? with
    | some [.r _ _ _]=>true
    | _=>false)
  | _=>false
def lookT:Op→Option Nat
  | .load _ (.tmp t)=>some t
  | _=>none
def Jkf:Op→Option Nat
  | .store _ (.tmp t) _=>some t
  | _=>none
def JbN (ops : Array Oper) (i : Nat) (f : Op → Option Nat) : Option Nat :=
  match ops[i]? with
  | some o=>(match f o.op with
    | some t=>Jko ops i t
    | none=>none)
  | none=>none
def Jfb (vs:VS) (j:Nat):Bool:=
  match vs.bx[j]? with
  | some cs => !(J9 cs) || cs.any Qh
  | none=>false
def raB (vs:VS) (j:Nat):Bool:=
  match vs.bx[j]? with
  | some [.ra _ _]=>true
  | some cs=>cs.any Qh
  | none=>false
def sepB (vs:VS) (t1:Nat):Bool:=
  match vs.sl t1 with
  | .v (.s (.p j1 _))=>Jfb vs j1
  | .v (.s (.q _ j1 _ _))=>raB vs j1
  | _=>false
def JtX (vs : VS) (t0 t1 : Nat) : Bool :=
  match vs.sl t0 with
  | .v (.s (.p j0 _))=>Jfb vs j0 && (match vs.sl t1 with
    | .v (.s (.p j1 _)) => !(Nat.beq j0 j1) && Jfb vs j1
    | .v (.s (.q _ j1 _ _)) => !(Nat.beq j0 j1) && raB vs j1
    | _=>false)
  | .v (.s (.q _ j0 _ _))=>(JqI vs.bx j0).isSome && (match vs.sl t1 with
    | .v (.s (.p j1 _)) => !(Nat.beq j0 j1) && Jfb vs j1
    | .v (.s (.q _ j1 _ _)) => !(Nat.beq j0 j1) && raB vs j1
    | _=>false)
  | .v (.s (.l _ _))=>sepB vs t1
  | .v (.s (.e _ _ _))=>sepB vs t1
  | _=>false
def Js0 (P : Program) (ops : Array Oper) (ms : List Nat) (vs : VS) (j : Nat) : Bool :=
  (Jcc P ops ms j).all fun i=>match JbN ops i lookT,JbN ops j Jkf with
    | some t0,some t1=>JtX vs t0 t1
    | _,_=>false
def neB (vs : VS) (t : Nat) : Bool :=
  match vs.sl t with
  | .v (.s (.q _ j _ _))=>(match vs.bx[j]? with
    | some [.ra _ xs] => !xs.isEmpty
    | _=>true)
  | _=>true
def Jo8 (P : Program) (ops : Array Oper) (ms : List Nat) (vs : VS) : List Nat → Option ρ → Option ρ
  | [],K=>K
  | j :: r, K => match Jcc P ops ms j with
    | []=>Jo8 P ops ms vs r K
    | _::_=>match JbN ops j Jkf with
      | some t=>bif neB vs t then Jo8 P ops ms vs r K else none
      | none=>none
def noPan (ops:Array Oper):Bool:=ops.all fun o=>match o.op with
  | .panic _ | .defer _=>false
  | _=>true
noncomputable def JtN (P : Program) (C : Tab) (ops : Array Oper) (vs : VS) (K : VS → Option ρ) : Option ρ :=
  if Jfe P ops && P.follows .mixedOrders && Jtn P (Jl2 vs) ops && noPan ops && (List.range ops.size).all (Js0 P ops (QH ops.toList []) vs) then
    Jo8 P ops (QH ops.toList []) vs (List.range ops.size) (Joe P C true (Jch P ops (QH ops.toList [])) ops (List.range ops.size) vs K (fun _ _=>none))
  else none
def Jtm : List Oper → List Nat
  | [] => []
  | o::r=>match o.dst with
    | some d=>d::Jtm r
    | none=>Jtm r
def JbS:Code→List Nat
  | .region _ ops _=>Jtm ops.toList
  | .seq x y=>JbS x++JbS y
  | .cond _ x y=>JbS x++JbS y
  | .block _ x=>JbS x
  | .loop x=>JbS x
  | _ => []
def Jsq (vs:VS) (w:List Nat) (l:List (Nat × S1)) (i:Nat):Sl:=
  match l with
  | []=>bif JrS w i then .v .x else vs.sl i
  | (k,s)::r=>bif Nat.beq i k then .v s else Jsq vs w r i
def vout (vs:VS) (w:List Nat) (q:GH) (K:Out→VS→Option ρ):(o:OT)→o.E→Option ρ
  | .ret t,x=>K .ret { (after vs q t x).2 with sl:=Jsq vs w (after vs q t x).1 }
  | .exit id t,x=>K (.exit id) { (after vs q t x).2 with sl:=Jsq vs w (after vs q t x).1 }
  | .pnc tid k t,x=>K (.pnc (.iface tid (.agg #[.int k x.1]))) { (after vs q t x.2).2 with sl:=Jsq vs w (after vs q t x.2).1 }
  | .two a b,x=>Sum.elim (vout vs w q K a) (vout vs w q K b) x
def Je9 : List (Nat × Pt) → List Ty → VS → VS
  | [],_,vs=>vs
  | (k,.o t)::r,bf,vs=>match vs.sl k,bf[t]? with
    | .v (.s (.c v)),some e=>bif XU v && Nat.blt 0 e.n then Je9 r bf { (vs.put (some k) (.v (.s (.o vs.bf.length)))) with bf:=vs.bf ++ [⟨e, [],true,false⟩] } else Je9 r bf vs
    | _,_=>Je9 r bf vs
  | (k,.m e t)::r,bf,vs=>match vs.sl k with
    | .v (.s (.c v))=>bif XU v && Nat.blt 0 e.n then Je9 r bf { (vs.put (some k) (.v (.s (.m e vs.bx.length)))) with bx:=vs.bx ++ [[.r true e []]] } else Je9 r bf vs
    | _=>Je9 r bf vs
  | _::r,bf,vs=>Je9 r bf vs
def JoN (pl:List (Nat × Pt)) (bf:List Ty) (vs:VS):VS:=Je9 pl bf (Jeu pl vs)
def JdM (bf : List Ty) (j : Nat) : List Pt → Nat → VS → VS
  | [],_,vs=>vs
  | .o t :: ps, i, vs => match vs.bx[j]?, bf[t]? with
    | some cs,some e=>match cs[i]? with
      | some (.c v)=>bif XU v && Nat.blt 0 e.n && !(J9 cs) then JdM bf j ps (i+1) { vs with bf:=vs.bf ++ [⟨e, [],true,false⟩],bx:=QC vs.bx j (QC cs i (.o vs.bf.length)) } else JdM bf j ps (i+1) vs
      | _=>JdM bf j ps (i+1) vs
    | _,_=>JdM bf j ps (i+1) vs
  | .m e t :: ps, i, vs => match vs.bx[j]? with
    | some cs=>match cs[i]? with
      | some (.c v)=>bif XU v && Nat.blt 0 e.n && !(J9 cs) then JdM bf j ps (i+1) { vs with bx:=QC (vs.bx ++ [[.r true e []]]) j (QC cs i (.m e vs.bx.length)) } else JdM bf j ps (i+1) vs
      | _=>JdM bf j ps (i+1) vs
    | none=>JdM bf j ps (i+1) vs
  | _::ps,i,vs=>JdM bf j ps (i+1) vs
def Jt7 (bf:List Ty):List Nat→List (List Pt)→VS→VS
  | j::g,ps::r,vs=>Jt7 bf g r (JdM bf j ps 0 vs)
  | _,_,vs=>vs
def Jgi (t:Tm) (vs:VS):VS:=
  match slM vs.bf vs.sl t.sl ⟨[], []⟩ with
  | some (_,q)=>Jt7 t.bf q.g t.bx vs
  | none=>vs
def Jlr (C:Tab) (b:Code):Bool:=(Jca C (700000+Xd b)).isSome
noncomputable def Jii (P : Program) (C : Tab) (LO : Tab) : Nat → Code → VS → (Out → VS → Option ρ) → Option ρ
  | 0,_,_,_=>none
  | n + 1, c, vs, K =>
    match c with
    | .skip | .label _=>K .normal vs
    | .exit id=>K (.exit id) vs
    | .ret=>K .ret vs
    | .region id ops false=>Joe P C false (fun _=>false) ops (List.range ops.size) vs (K .normal) (fun v vs1=>K (.pnc v) vs1)
    | .region id ops true=>JtN P C ops vs (K .normal)
    | .seq x y=>Jii P C LO n x vs fun o vs1=>match o with
      | .normal=>Jii P C LO n y vs1 K
      | o=>K o vs1
    | .cond c x y=>if Jak c then match vs.ev c with
      | .v (.s (.c (.bool b)))=>cond b (Jii P C LO n x (vs.setO c true) K) (Jii P C LO n y (vs.setO c false) K)
      | _=>none
      else none
    | .block id b=>Jii P C LO n b vs fun o vs1=>match o with
      | .exit id'=>bif Nat.beq id' id then K .normal vs1 else K (.exit id') vs1
      | o=>K o vs1
    | .loop b => match Jca LO (Xd b) with
      | some con => match Jgi con.ins (JoN con.ins.sl con.ins.bf vs) with
        | vs1=>match con.ins.mat vs1.sl vs1 [] with
          | some (x,q)=>(con.F x).bind fun y=>vout vs1 (JbS b) q K con.out y
          | none=>none
      | none => bif Jlr C b then Jii P C [] n b vs fun o vs1 => match o with
          | .normal=>Jii P C LO n (.loop b) vs1 K
          | o=>K o vs1
        else none
    | _=>none
def JrN (n:Nat):List Nat:=List.range n
def JtK (P : Program) (vs : VS) : ResultVar → Option S1
  | .tmp t=>match vs.sl t with
    | .v s=>some s
    | _=>none
  | .cell a t=>match JmE P t (vs.sl a) vs with
    | some (none,.v s,_)=>some s
    | _=>none
def JjU (P : Program) (vs : VS) : List ResultVar → Option (List S1)
  | []=>some []
  | r::l=>match JtK P vs r,JjU P vs l with
    | some s,some ss=>some (s::ss)
    | _,_=>none
def OT.keys (n:Nat):OT→Bool
  | .ret t=>t.sl.map (·.1) == List.range n
  | .exit _ _ | .pnc _ _ _=>true
  | .two a b=>a.keys n && b.keys n
def OT.retTm : OT → Option Tm
  | .ret t=>some t
  | .two a b=>match a.retTm with
    | some t=>some t
    | none=>b.retTm
  | _=>none
def gAt (k : Nat) : OT → Bool
  | .ret t | .exit _ t | .pnc _ _ t=>match t.bx[k]? with
    | some [.g]=>true
    | _=>false
  | .two a b=>gAt k a && gAt k b
def Jd7 (o : OT) : Nat → VS → VS
  | 0,vs=>vs
  | k+1,vs=>Jd7 o k (match vs.bx[k]? with
    | some [.r own e xs]=>cond (gAt k o) (move vs k own e xs) vs
    | _=>vs)
def Jd4 (P : Program) (fn : Func) (n : Nat) (o : OT) (u : DM) (vs : VS) : Option o.E :=
  match u with
  | .ret => match Jd7 o n vs with
    | vs => bif o.keys fn.results.size then (JjU P vs fn.results.toList).bind fun l => match o.retTm with
      | some t=>match prep t.sl t.bf l vs with
        | (l1,vs1)=>o.mat .ret (JqN l1) vs1 (JrN n)
      | none=>none else none
  | .pan v false=>o.mat (.pnc v) (fun _ => .v .x) vs (JrN n)
  | .pan _ true=>none
noncomputable def Jd3 (P : Program) (C : Tab) : List (FuncId × List S1) → DM → VS → (DM → VS → Option ρ) → Option ρ
  | [],u,vs,K=>K u vs
  | (k, args) :: ds, u, vs, K => match P.funcs[k]? with
    | some fn => match fn.body with
      | some c => if fn.name == "runtime.NumGoroutine" then none else
        match (match JaL c with
          | some (d,rest)=>(rest,({ N:=fn.ntmps,sl:=JqN args,bf:=vs.bf,bx:=vs.bx,df := [] }:VS).put (some d) (ofV (Q6 u).1),(Q6 u).2)
          | none=>(c,{ N:=fn.ntmps,sl:=JqN args,bf:=vs.bf,bx:=vs.bx,df := [] },u)) with
        | (c1, vs1, u1) => bif vs1.N == fn.ntmps && (match JaL c with | some (d, _) => Nat.blt d fn.ntmps | none => true) then
          Jii P C [] 100 c1 vs1 fun out vs2 => match out with
            | .normal | .ret => match vs2.df with
              | []=>match JjU P vs2 fn.results.toList with
                | some _=>Jd3 P C ds (XJ u1) { vs2 with N:=vs.N,sl:=vs.sl,df := [] } K
                | none=>none
              | _=>none
            | _=>none
          else none
      | none=>none
    | none=>none
noncomputable def vleaf (P:Program) (C:Tab) (fn:Func) (n:Nat) (o:OT) (out:Out) (vs:VS):Option o.E:=
  match out with
  | .exit _=>none
  | .pnc v=>Jd3 P C vs.df (.pan v false) { vs with df := [] } fun u vs=>Jd4 P fn n o u vs
  | _=>Jd3 P C vs.df .ret { vs with df := [] } fun u vs=>Jd4 P fn n o u vs
noncomputable def vfn (P:Program) (C LO:Tab) (fn:Func) (c:Code) (ins:Tm) (o:OT) (x:ins.E):Option o.E:=
  Jii P C LO 100 c (ins.inst fn.ntmps x) (vleaf P C fn ins.bx.length o)
def reb (o:OT) (g:List Nat):Nat→Bool
  | 0=>true
  | k+1=>((match g[k]? with | some j=>Nat.beq j k | none=>false) || gAt k o) && reb o g k
noncomputable def Job (P : Program) (C LO : Tab) (N : Nat) (b : Code) (ins : Tm) (o : OT) (x : ins.E) : Option (ins.E ⊕ o.E) :=
  Jii P C LO 100 b (ins.inst N x) fun out vs => match vs.df with | _ :: _ => none | [] => match out with
    | .normal=>match ins.mat vs.sl vs (JrN ins.bx.length) with
      | some y=>some (.inl y.1)
      | none=>(ins.mat vs.sl vs []).bind fun y=>bif reb o y.2.g ins.bx.length then some (.inl y.1) else none
    | out=>match Jd7 o ins.bx.length vs with
      | vs1=>(o.mat out vs1.sl vs1 (JrN ins.bx.length)).map .inr
section loops
variable {α β:Type}
def JkK (T:α→Option (α ⊕ β)):Nat→α→Option β
  | 0,_=>none
  | n+1,x=>(T x).bind (Sum.elim (JkK T n) some)
theorem JiZ {T : α → Option (α ⊕ β)} : ∀ {n : Nat} {x : α} {y : β}, JkK T n x = some y → ∀ {k : Nat}, n ≤ k → JkK T k x = some y := by
  intro n;induction n with
  | zero=>intro x y h;cases h
  | succ n ih =>
    intro x y h k hk;obtain ⟨k,rfl⟩ : ∃j,k=j+1:=⟨k - 1,by omega⟩;simp only [JkK] at h ⊢;cases hT:T x with
    | none=>rw [hT] at h;cases h
    | some z=>
      rw [hT] at h;cases z with
      | inl x'=>exact ih h (by omega)
      | inr y'=>exact h
open Classical in
noncomputable def Q4 (T:α→Option (α ⊕ β)) (x:α):Option β:=if h : ∃n,(JkK T n x).isSome then JkK T h.choose x else none
theorem JhA {T:α→Option (α ⊕ β)} {x:α} {y:β} {n:Nat} (h:JkK T n x=some y):Q4 T x=some y:=by
  unfold Q4;have hex : ∃n,(JkK T n x).isSome:=⟨n,by rw [h];rfl⟩
  rw [dif_pos hex];have:=hex.choose_spec
  obtain ⟨z,hz⟩:=Option.isSome_iff_exists.1 this;rw [hz];have h1:=JiZ h (Nat.le_max_left n hex.choose);have h2:=JiZ hz (Nat.le_max_right n hex.choose);rw [h1] at h2;exact h2.symm
theorem Jcr {T:α→Option (α ⊕ β)} {x:α} {y:β} (h:Q4 T x=some y) : ∃n,JkK T n x=some y:=by
  unfold Q4 at h;split at h
  · exact ⟨_,h⟩
  · cases h
theorem Qg (T : α → Option (α ⊕ β)) (x : α) : Q4 T x = (T x).bind (Sum.elim (Q4 T) some) := by
  cases hT:T x with
  | none =>
    cases h:Q4 T x with
    | none=>rfl
    | some y=>
      obtain ⟨n,hn⟩:=Jcr h;cases n with
      | zero=>cases hn
      | succ n=>simp only [JkK,hT] at hn;cases hn
  | some z =>
    cases z with
    | inr y=>exact JhA (n:=1) (by simp [JkK,hT])
    | inl x' =>
      simp only [Jb,Sum.elim_inl];cases h:Q4 T x' with
      | some y=>
        obtain ⟨n,hn⟩:=Jcr h;exact JhA (n:=n+1) (by simp [JkK,hT,hn])
      | none =>
        cases h2:Q4 T x with
        | none=>rfl
        | some y =>
          obtain ⟨n,hn⟩:=Jcr h2;cases n with
          | zero=>cases hn
          | succ n=>
            simp only [JkK,hT,Jb,Sum.elim_inl] at hn;rw [JhA hn] at h;cases h
end loops
end Go.IM.V
namespace Go.IM.V
open Go Go.IM
variable {P:Program}
def Jn1:Obj→Option TypeId
 | .cells _ e _=>some e
 | _=>none
def _root_.Go.IM.M.typ (m:M) (i:Nat):Option TypeId:=(m.get i).bind fun b=>Jn1 b.obj
def Jbu (P:Program) (S:Nat→Prop) (m:M) (n:Nat) {α:Type} (R:α→List Value→Prop) (xs:List α) (v:Value):Prop:=
 (v = .slice none 0 0∧xs = []) ∨ ∃i o sp cap,v = .slice (some ⟨i,o,sp⟩) xs.length cap∧xs.length≤cap ∧
  (cap=0 ∨ ∃c e,m.row i=some (c,e) ∧ ¬S i∧P.cellsOf e=n∧o+xs.length*n≤c.size ∧ ∀(k:Nat) (x:α),xs[k]? = some x→R x (c.extract (o+k*n) (o+k*n+n)).toList)
def QR (P:Program) (S:Nat→Prop) (m:M):(t:Ty)→t.El→List Value→Prop
 | .i k,n,cs=>cs = [.int k n]
 | .f k,n,cs=>cs = [.float k n]
 | .b,x,cs=>cs = [.bool x]
 | .s,x,cs=>cs = [.string x]
 | .l e,xs,cs => ∃v,cs = [v]∧Jbu P S m e.n (QR P S m e) xs v
 | .h e,xs,cs => ∃v,cs = [v]∧Jbu P S m e.n (QR P S m e) xs v
 | .p t1 t2,x,cs => ∃c1 c2,cs=c1++c2∧QR P S m t1 x.1 c1∧QR P S m t2 x.2 c2
 | .u,_,cs=>cs = []
structure Env where
 τ:Nat→Option Nat
 β:Nat→Nat
 φ:Nat→Prop
def capV (w:Value):Prop:=w = .slice none 0 0 ∨ ∃i o n,w = .slice (some ⟨i,o,some 0⟩) n n
def Jl7 (w:Value):Prop:=w = .slice none 0 0 ∨ ∃i o,w = .slice (some ⟨i,o,some 0⟩) 0 0
structure Cx where
 S:Nat→Prop
 m:M
 env:Env
 nb:Nat
 bf:List Bf
 has:Nat→Bool
 len:Nat→Option Nat
 S0:Nat→Prop
def JjO (P:Program) (X:Cx) (b:Bf) (t:Option Nat) (w:Value):Prop:=
 match t with
 | none=>capV w∧Jbu P X.S X.m b.e.n (QR P X.S X.m b.e) b.xs w
 | some i=>w = .slice (some ⟨i,0,none⟩) b.xs.length b.xs.length
def Jc1 (n:Nat):Value→Prop
 | .pointer (some q)=>q.block<n
 | .slice (some q) len cap=>(len=0∧cap=0)∨q.block<n
 | _=>True
theorem Jc1.mono {n n':Nat} (h:n≤n') {v:Value} (k:Jc1 n v):Jc1 n' v:=by
 unfold Jc1 at k ⊢;split at k
 ·omega
 ·exact k.imp id (fun q=>by omega)
 ·trivial
theorem JbH {w:Value} (h:Jl7 w) (n:Nat):Jc1 n w:=by
 rcases h with rfl|⟨i,o,rfl⟩
 ·trivial
 ·exact .inl ⟨rfl,rfl⟩
def Jap (P:Program) (X:Cx):Cl→Value→Prop
 | .c v,w=>w=v∧okc v=true
 | .l e xs,w=>Jbu P X.S X.m e.n (QR P X.S X.m e) xs w
 | .z e xs,w=>Jl7 w∧(xs = [] ∨ ∃i o,w = .slice (some ⟨i,o,some 0⟩) 0 0)
 | .o j,w => ∃b,X.bf[j]? = some b∧JjO P X b (X.env.τ j) w
 | .p j off,w=>j<X.nb ∧ ∃i,w = .pointer (some ⟨i,off,none⟩)∧i<X.m.nxt∧(X.has j=true→i=X.env.β j)
 | .m _ j,w=>j<X.nb∧(one w=true∧Jc1 X.m.nxt w) ∧ ∀L,X.len j=some L→(L=0→Jl7 w)∧(0<L→w = .slice (some ⟨X.env.β j,0,none⟩) L L)
 | .w e j o n cp,w=>j<X.nb∧(one w=true∧Jc1 X.m.nxt w) ∧ ∀L,X.len j=some L→o+n≤L∧(L=0→Jl7 w)∧(0<L → ∃sp cap,w = .slice (some ⟨X.env.β j,o*e.n,sp⟩) n cap∧n≤cap∧o+cap≤L∧(cp=true→sp=some 0∧cap=n))
 | .q e j i off,w=>j<X.nb ∧ ∃k,w = .pointer (some ⟨k,i.toNat*e.n+off,none⟩)∧k<X.m.nxt∧(X.has j=true→k=X.env.β j)
 | .r _ _ _,_=>False
 | .ra _ _,_=>False
 | .g,_=>False
 | .sb e j n,w=>j<X.nb∧(one w=true∧Jc1 X.m.nxt w)∧(X.has j=true→w = .slice (some ⟨X.env.β j,0,none⟩) n n ∧ ∃eo,X.m.typ (X.env.β j)=some eo∧P.cellsOf eo=e.n)
 | .mv j,w=>j<X.nb ∧ ∃i,w = .map (some i)∧i<X.m.nxt∧(X.has j=true→i=X.env.β j)
 | .mx _ _,_=>False
 | .mi _ _ _ _,_=>False
 | .sg _ _ _,_=>False
 | .ms _ _,_=>False
 | .mt _,_=>False
 | .ip t j off,w=>j<X.nb ∧ ∃i,w = .iface t (.pointer (some ⟨i,off,none⟩))∧i<X.m.nxt∧(X.has j=true→i=X.env.β j)
 | .e t x off,w => ∃i o c e',w = .pointer (some ⟨i,o+off,none⟩)∧X.m.row i=some (c,e') ∧ ¬X.S i∧o+t.n≤c.size∧QR P X.S X.m t x (c.extract o (o+t.n)).toList
 | .y,w=>one w=true∧Jc1 X.m.nxt w
 | .x,_=>True
def Qa (P:Program) (X:Cx):List Cl→List Value→Prop
 | [], []=>True
 | c::cs,v::vs=>Jap P X c v∧Qa P X cs vs
 | _,_=>False
def Ja3 (P:Program) (X:Cx):S1→Value→Prop
 | .s c,w=>Jap P X c w
 | .a cs,w => ∃a,w = .agg a∧Qa P X cs a.toList
 | .x,_=>True
def QZ (P:Program) (X:Cx):List S1→List Value→Prop
 | [], []=>True
 | c::cs,v::vs=>Ja3 P X c v∧QZ P X cs vs
 | _,_=>False
def J8 (P:Program) (X:Cx):Sl→Value→Prop
 | .v s,w=>Ja3 P X s w
 | .t l,w => ∃a,w = .tuple a∧QZ P X l a.toList
def XV (P:Program) (X:Cx) (j:Nat) (b:Bf):Prop:=
 0<b.e.n∧match X.env.τ j with
 | none=>b.cap=false→b.xs = []
 | some i => ¬X.S i ∧ ∃k c e fr,X.m.alive i=some k∧k.obj = .cells c e fr∧P.cellsOf e=b.e.n∧k.ro=false∧c.size=b.xs.length*b.e.n ∧
   (∀(q:Nat) (x:b.e.El),b.xs[q]? = some x→QR P X.S X.m b.e x (c.extract (q*b.e.n) (q*b.e.n+b.e.n)).toList)∧(b.live=true→k.sup=false∧k.root≤X.m.nxt)
def JaA (P:Program) (X:Cx) (j:Nat) (arr:Bool) (e:Ty) (xs:List e.El):Prop:=
 0<e.n∧(xs ≠ [] → ∃k c eo fr,X.m.alive (X.env.β j)=some k∧k.obj = .cells c eo fr∧k.ro=false∧k.sup=false∧(k.root≤X.m.nxt∧(arr=true→k.root=X.env.β j))∧(arr=false→P.cellsOf eo=e.n)∧c.size=xs.length*e.n ∧
  (∀(q:Nat) (x:e.El),xs[q]? = some x→QR P X.S X.m e x (c.extract (q*e.n) (q*e.n+e.n)).toList) ∧
  (∃rb,X.m.get k.root=some rb∧rb.root=k.root) ∧ ∀i b,X.m.get i=some b→b.root=k.root→i=X.env.β j∨(X.env.φ i∧b.sup=true))
def Xj (P:Program) (X:Cx):List (ByteArray × Nat × Nat)→List MapEntry→Prop
 | [], []=>True
 | a::l,e::r=>(e.key = .string a.1∧e.born=a.2.1∧Jap P X (.p a.2.2 0) e.val)∧Xj P X l r
 | _,_=>False
def Jf8 (P:Program) (X:Cx) (j clock:Nat) (l:List (ByteArray × Nat × Nat)):Prop:=
 ∃k es,X.m.alive (X.env.β j)=some k∧k.obj = .map es clock∧k.ro=false∧k.sup=false∧k.root=X.env.β j∧Xj P X l es.toList
def JgP (P:Program) (X:Cx) (j jm since:Nat) (seen:List Nat) (last:Nat):Prop:=
 jm<X.nb ∧ ∃k i,X.m.alive (X.env.β j)=some k∧k.obj = .mapIter (some i) since seen.toArray last∧k.ro=false∧k.sup=false∧k.root=X.env.β j∧i<X.m.nxt∧(X.has jm=true→i=X.env.β jm)
def JeA (P:Program) (X:Cx) (j:Nat) (cs:List Cl):Prop:=
 ∃k c e fr,X.m.alive (X.env.β j)=some k∧k.obj = .cells c e fr∧k.ro=false∧k.sup=false∧k.root=X.env.β j∧Qa P X cs c.toList
def Jt0 (P:Program) (X:Cx) (c:Cl) (ws:List Value):Prop:=
 match c with
 | .sg n e xs=>ws.length=n*e.n∧xs.length=n ∧ ∀(k:Nat) (x:e.El),xs[k]? = some x→QR P X.S X.m e x ((ws.drop (k*e.n)).take e.n)
 | .mt _=>ws = []
 | c => ∃w,ws = [w]∧Jap P X c w
def JeD (P:Program) (X:Cx):List Cl→List Value→Prop
 | [],ws=>ws = []
 | c::cs,ws => ∃w1 w2,ws=w1++w2∧Jt0 P X c w1∧JeD P X cs w2
def Jk0:List (ByteArray × Value)→List MapEntry→Prop
 | [], []=>True
 | a::l,q::r=>(q.key = .string a.1∧q.val=a.2)∧Jk0 l r
 | _,_=>False
def Jnw:Value→Bool
 | .slice _ n _=>Nat.blt 0 n
 | _=>false
def Jro (ks:List ByteArray) (ws:List Value) (es:List MapEntry):Prop:=
 ∃xs,Jk0 xs es∧(∀a∈xs,a.1∈ks)∧ks.length=ws.length ∧ ∀(i:Nat) (q:ByteArray) (w:Value),ks[i]? = some q→ws[i]? = some w→(QA q xs=if Jnw w=true then some w else none)∧(Jnw w=false→w = .slice none 0 0)
def objW (t:Option (List ByteArray)) (o:Obj) (ws:List Value):Prop:=
 match t with
 | none => ∃c e fr,o = .cells c e fr∧c.toList=ws
 | some ks => ∃es clock,o = .map es clock∧Jro ks ws es.toList
def JbP (P:Program) (X:Cx) (j:Nat) (cs:List Cl):Prop:=
 ∃k ws,X.m.alive (X.env.β j)=some k∧k.ro=false∧k.sup=false∧k.root=X.env.β j∧JeD P X cs ws∧objW (Jcn cs) k.obj ws
theorem JbP.cells {X:Cx} {j:Nat} {cs:List Cl} (h:JbP P X j cs) (ht:Jcn cs=none) : ∃k c e fr,X.m.alive (X.env.β j)=some k∧k.obj = .cells c e fr∧k.ro=false∧k.sup=false∧k.root=X.env.β j∧JeD P X cs c.toList:=by
 obtain ⟨k,ws,h1,h2,h3,h4,h5,h6⟩:=h;rw [ht] at h6;obtain ⟨c,e,fr,h7,rfl⟩:=h6;exact ⟨k,c,e,fr,h1,h7,h2,h3,h4,h5⟩
theorem JbP.ofCells {X:Cx} {j:Nat} {cs:List Cl} (ht:Jcn cs=none) (h : ∃k c e fr,X.m.alive (X.env.β j)=some k∧k.obj = .cells c e fr∧k.ro=false∧k.sup=false∧k.root=X.env.β j∧JeD P X cs c.toList):JbP P X j cs:=by
 obtain ⟨k,c,e,fr,h1,h7,h2,h3,h4,h5⟩:=h;refine ⟨k,_,h1,h2,h3,h4,h5, ?_⟩;rw [ht];exact ⟨c,e,fr,h7,rfl⟩
def JfD (P:Program) (X:Cx) (e:Ty):List (ByteArray × e.El)→List MapEntry→Prop
 | [], []=>True
 | a::l,q::r=>(q.key = .string a.1∧QR P X.S X.m e a.2 q.val.cells.toList∧(e.ag=true → ∃b,q.val = .agg b)∧(e.ag=false→one q.val=true))∧JfD P X e l r
 | _,_=>False
def Jqr (P:Program) (X:Cx) (j:Nat) (e:Ty) (l:List (ByteArray × e.El)):Prop:=
 ∃k es clock,X.m.alive (X.env.β j)=some k∧k.obj = .map es clock∧k.ro=false∧k.sup=false∧k.root=X.env.β j∧JfD P X e l es.toList
def Qy (P:Program) (X:Cx) (j:Nat) (cs:List Cl):Prop:=
 match cs with
 | [.g]=>True
 | [.ra e xs]=>JaA P X j true e xs
 | [.r own e xs]=>JaA P X j false e xs∧(own=true→xs ≠ [] → ¬X.S0 (X.env.β j))
 | [.mx c l]=>Jf8 P X j c l
 | [.mi jm s n t]=>JgP P X j jm s n t
 | [.ms e l]=>Jqr P X j e l
 | cs=>cond (cs.any Qh) (JbP P X j cs) (JeA P X j cs)
theorem JrK {cs:List Cl} (h:cs.any Qh=true):J9 cs=true:=by
 unfold J9;split <;> first | rfl | exact h
theorem JqK {cs:List Cl} (h:J9 cs=false):cs.any Qh=false:=by
 cases hs:cs.any Qh with
 | false=>rfl
 | true=>rw [JrK hs] at h;cases h
theorem Qy.cel {X:Cx} {j:Nat} {cs:List Cl} (h:J9 cs=false) (hc:Qy P X j cs):JeA P X j cs:=by
 have hs:=JqK h;unfold Qy at hc;split at hc
 ·cases h
 ·cases h
 ·cases h
 ·cases h
 ·cases h
 ·cases h
 ·rw [hs] at hc;exact hc
theorem Qy.of {X:Cx} {j:Nat} {cs:List Cl} (h:J9 cs=false) (hc:JeA P X j cs):Qy P X j cs:=by
 have hs:=JqK h;unfold Qy;split
 ·cases h
 ·cases h
 ·cases h
 ·cases h
 ·cases h
 ·cases h
 ·rw [hs];exact hc
theorem Jow {cs:List Cl} (hs:cs.any Qh=true):(∀o e xs,cs ≠ [.r o e xs])∧(∀e xs,cs ≠ [.ra e xs])∧cs ≠ [.g]∧(∀c l,cs ≠ [.mx c l])∧(∀j s n t,cs ≠ [.mi j s n t])∧(∀e l,cs ≠ [.ms e l]):=by
 refine ⟨fun o e xs q => ?_,fun e xs q => ?_,fun q => ?_,fun c l q => ?_,fun j s n t q => ?_,fun e l q => ?_⟩ <;> subst q <;> cases hs
theorem Qy.sg {X:Cx} {j:Nat} {cs:List Cl} (hs:cs.any Qh=true) (hc:Qy P X j cs):JbP P X j cs:=by
 obtain ⟨h1,h2,h3,h4,h5,h6⟩:=Jow hs;unfold Qy at hc;split at hc
 ·exact absurd rfl h3
 ·exact absurd rfl (h2 _ _)
 ·exact absurd rfl (h1 _ _ _)
 ·exact absurd rfl (h4 _ _)
 ·exact absurd rfl (h5 _ _ _ _)
 ·exact absurd rfl (h6 _ _)
 ·rw [hs] at hc;exact hc
theorem Qy.ofSg {X:Cx} {j:Nat} {cs:List Cl} (hs:cs.any Qh=true) (hc:JbP P X j cs):Qy P X j cs:=by
 obtain ⟨h1,h2,h3,h4,h5,h6⟩:=Jow hs;unfold Qy;split
 ·exact absurd rfl h3
 ·exact absurd rfl (h2 _ _)
 ·exact absurd rfl (h1 _ _ _)
 ·exact absurd rfl (h4 _ _)
 ·exact absurd rfl (h5 _ _ _ _)
 ·exact absurd rfl (h6 _ _)
 ·rw [hs];exact hc
theorem Q2 {cs:List Cl} (hs:cs.any Qh=true):Xo cs=true∧JaQ cs=none:=by
 obtain ⟨h1,h2,h3,h4,h5,h6⟩:=Jow hs
 constructor
 ·unfold Xo;split
  ·exact absurd rfl (h1 _ _ _)
  ·exact absurd rfl (h2 _ _)
  ·exact absurd rfl h3
  ·rfl
 ·unfold JaQ;split
  ·exact absurd rfl (h1 _ _ _)
  ·rfl
theorem Jbi {X:Cx} : ∀{cs:List Cl} {us:List Value},Qa P X cs us→cs.any Qh=false:=by
 intro cs;induction cs with
 | nil=>intro us h;rfl
 | cons c cs ih=>intro us h;cases us with
  | nil=>exact h.elim
  | cons v r=>
   rw [List.any_cons,ih h.2,Bool.or_false];cases c <;> first | rfl | exact h.1.elim
theorem JsV {X : Cx} {cs : List Cl} {us : List Value} (h : Qa P X cs us) : J9 cs = false := by
 cases hr:J9 cs with
 | false=>rfl
 | true=>
  exfalso
  unfold J9 at hr;split at hr
  all_goals first
   | (cases us with
    | nil=>exact h
    | cons v r=>exact h.1)
   | (rw [Jbi h] at hr;cases hr)
theorem Qs {cs:List Cl} (h:J9 cs=false):Xo cs=true:=by
 unfold Xo;split
 ·cases h
 ·cases h
 ·cases h
 ·rfl
theorem XN {cs:List Cl} (h:J9 cs=false):JaQ cs=none:=by
 unfold JaQ;split
 ·cases h
 ·rfl
def JnD (P:Program) (X:Cx):List (FuncId × List S1)→List Deferred→Prop
 | [], []=>True
 | (k,l)::r,d::ds=>d.target = .fn (.func k) #[]∧QZ P X l d.args.toList∧JnD P X r ds
 | _,_=>False
def VS.S (vs:VS) (S0:Nat→Prop) (env:Env):Nat→Prop:=fun i=>S0 i∨(∃j,j<vs.bx.length∧JM vs.bx j=true∧env.β j=i)∨env.φ i
def VS.cx (vs:VS) (S0:Nat→Prop) (env:Env) (m:M):Cx:=⟨vs.S S0 env,m,env,vs.bx.length,vs.bf,JM vs.bx,lenOf vs.bx,S0⟩
def JdA (m:M):Prop := ∀i b,m.get i=some b → ∃rb,m.get b.root=some rb∧rb.root=b.root
structure Uniq (m:M):Prop where
 one : ∀i j b c,m.get i=some b→m.get j=some c→b.root=c.root→b.sup=false→c.sup=false→i=j
 le : ∀i b,m.get i=some b→b.root≤i
theorem JdA.lt {m:M} (h:JdA m) (hf:JdB m) {i:Nat} {b:Blk} (hb:m.get i=some b):b.root<m.nxt:=by
 obtain ⟨rb,h1,_⟩:=h i b hb;rcases JB b.root m.nxt with q | q
 ·exact q
 ·rw [hf _ q] at h1;cases h1
structure Jao (P:Program) (X:Cx) (bx:List (List Cl)):Prop where
 free:JdB X.m
 bar:X.m.bar≤X.m.nxt
 nb:X.nb=bx.length
 has:X.has=JM bx
 len:X.len=lenOf bx
 inS : ∀j,j<X.nb→X.has j=true→X.S (X.env.β j)
 slt : ∀i,X.S i→i<X.m.nxt
 bf : ∀j b,X.bf[j]? = some b→XV P X j b
 bfd : ∀j j' b b' i,X.bf[j]? = some b→X.bf[j']? = some b'→b.live=true→b'.live=true→X.env.τ j=some i→X.env.τ j'=some i→j=j'
 bx : ∀j cs,bx[j]? = some cs→Qy P X j cs
 bxd : ∀j j',j<X.nb→j'<X.nb→X.has j=true→X.has j'=true→X.env.β j=X.env.β j'→j=j'
 φS : ∀i,X.env.φ i→X.S i
 φd : ∀j,j<X.nb→X.has j=true → ¬X.env.φ (X.env.β j)
 rts:JdA X.m
 unq:Uniq X.m
structure Rel (P:Program) (S0:Nat→Prop) (env:Env) (m:M) (a:Act) (vs:VS):Prop where
 T:Jao P (vs.cx S0 env m) vs.bx
 size:vs.N≤a.tmps.size
 sl : ∀i,J8 P (vs.cx S0 env m) (vs.sl i) (a.tmps.getD i undef)
 df:JnD P (vs.cx S0 env m) vs.df a.defers
theorem Jcx {m:M} (hf:JdB m) {i:Nat} {k:Blk} (h:m.alive i=some k):i<m.nxt:=by
 rcases JB i m.nxt with q | q
 ·exact q
 ·have:=JO h;rw [hf i q] at this;cases this
theorem Jth {m:M} (hf:JdB m) {i:Nat} {k:Blk} (h:m.get i=some k):i<m.nxt:=by
 rcases JB i m.nxt with q | q
 ·exact q
 ·rw [hf i q] at h;cases h
structure Fr2 (Wb Wl:Nat→Prop) (m m1:M):Prop where
 bar:m1.bar=m.bar
 nxt:m.nxt≤m1.nxt
 free:JdB m1
 al : ∀i k,m.alive i=some k → ¬Wb i → ∃k1,m1.alive i=some k1∧k1.root=k.root∧k1.ro=k.ro∧k1.obj=k.obj∧(¬Wl i→k1.sup=k.sup)
 old : ∀i b1,m1.get i=some b1→i<m.nxt → ∃b,m.get i=some b∧(b1.root=b.root∨(b1.root=i∧b.sup=false∧Wb i))∧(b.sup=true→b1.sup=true)
 new : ∀i b1,m1.get i=some b1→m.nxt≤i→m.nxt≤b1.root ∨ ∃j b,m.get j=some b∧(Wb j∨Wl j)∧b.sup=false∧(b1.root=b.root∨b1.root=j)
 get : ∀i b,m.get i=some b → ∃b1,m1.get i=some b1
 rts:JdA m→JdA m1
 unq:JdA m→Uniq m→Uniq m1
 ty : ∀i e,m.typ i=some e→m1.typ i=some e
theorem Fr2.refl {Wb Wl:Nat→Prop} {m:M} (h:JdB m):Fr2 Wb Wl m m:=
 ⟨rfl,Je _,h,fun i k hk _=>⟨k,hk,rfl,rfl,rfl,fun _=>rfl⟩,fun i b hb _=>⟨b,hb,.inl rfl,fun q=>q⟩,fun i b hb hi=>absurd (Jth h hb) (by omega),fun i b hb=>⟨b,hb⟩,fun q=>q,fun _ q=>q,fun _ _ q=>q⟩
theorem Fr2.mono {Wb Wl Wb' Wl':Nat→Prop} {m m1:M} (h:Fr2 Wb Wl m m1) (hb : ∀i,Wb i→Wb' i) (hl : ∀i,Wl i→Wl' i∨Wb' i):Fr2 Wb' Wl' m m1:=
 ⟨h.bar,h.nxt,h.free,fun i k hk q=>by
  obtain ⟨k1,h1,h2,h3,h4,h5⟩:=h.al i k hk (fun w=>q (hb i w));exact ⟨k1,h1,h2,h3,h4,fun q2=>h5 fun w=>by
   rcases hl i w with w | w
   ·exact q2 w
   ·exact q w⟩,fun i b1 hi hl1=>by
  obtain ⟨b,h1,h2,h3⟩:=h.old i b1 hi hl1;exact ⟨b,h1,h2.imp id (fun ⟨x,y,z⟩=>⟨x,y,hb i z⟩),h3⟩,fun i b1 hi hl1=>by
  rcases h.new i b1 hi hl1 with h1|⟨j,b,h1,h2,h3,h4⟩
  ·exact .inl h1
  ·refine .inr ⟨j,b,h1, ?_,h3,h4⟩;rcases h2 with w | w
   ·exact .inl (hb j w)
   ·exact (hl j w).symm,h.get,h.rts,h.unq,h.ty⟩
theorem Je3 {m:M} (hf:JdB m) {i:Nat} {r:Array Value × TypeId} (h:m.row i=some r):i<m.nxt:=by
 unfold M.row at h;split at h
 ·rename_i b hb;exact Jcx hf hb
 ·cases h
theorem Fr2.trans {Wb Wl Wb' Wl' : Nat → Prop} {m m1 m2 : M} (hf : JdB m) (h : Fr2 Wb Wl m m1) (k : Fr2 Wb' Wl' m1 m2) (hb : ∀ i, Wb' i → Wb i ∨ m.nxt ≤ i) (hl : ∀ i, Wl' i → Wl i ∨ Wb i ∨ m.nxt ≤ i) : Fr2 Wb Wl m m2 :=
 ⟨k.bar.trans h.bar, Jy h.nxt k.nxt, k.free, fun i x hx q => by
  have hlt:=Jcx hf hx;obtain ⟨x1,h1,h2,h3,h4,h5⟩:=h.al i x hx q;have q' : ¬Wb' i:=fun w=>by
   rcases hb i w with w | w
   ·exact q w
   ·omega
  obtain ⟨x2,k1,k2,k3,k4,k5⟩:=k.al i x1 h1 q';refine ⟨x2,k1,k2.trans h2,k3.trans h3,k4.trans h4,fun q2=>(k5 fun w => ?_).trans (h5 q2)⟩;rcases hl i w with w | w | w
  ·exact q2 w
  ·exact q w
  ·omega,fun i b2 hi hlt=>by
  obtain ⟨b1,k1,k2,k3⟩:=k.old i b2 hi (by have:=h.nxt;omega)
  obtain ⟨b,h1,h2,h3⟩:=h.old i b1 k1 hlt;refine ⟨b,h1, ?_,fun q=>k3 (h3 q)⟩;have hsf:b1.sup=false→b.sup=false:=fun q=>by
   cases hs:b.sup with
   | false=>rfl
   | true=>rw [h3 hs] at q;cases q
  rcases k2 with k2|⟨k2,k4,k5⟩
  ·rcases h2 with h2|⟨h2,h4,h5⟩
   ·exact .inl (k2.trans h2)
   ·exact .inr ⟨k2.trans h2,h4,h5⟩
  ·refine .inr ⟨k2,hsf k4, ?_⟩;rcases hb i k5 with w | w
   ·exact w
   ·omega,fun i b2 hi hge=>by
  have key : ∀ j b1, m1.get j = some b1 → (Wb' j ∨ Wl' j) → b1.sup = false → (m.nxt ≤ j ∧ (m.nxt ≤ b1.root ∨ ∃ j' b, m.get j' = some b ∧ (Wb j' ∨ Wl j') ∧ b.sup = false ∧ (b1.root = b.root ∨ b1.root = j'))) ∨ ∃ b, m.get j = some b ∧ (Wb j ∨ Wl j) ∧ b.sup = false ∧ (b1.root = b.root ∨ b1.root = j) := by
   intro j b1 hj hw hs;rcases JB j m.nxt with hjl | hjl
   ·obtain ⟨b,h1,h2,h3⟩:=h.old j b1 hj hjl;refine .inr ⟨b,h1, ?_, ?_,h2.imp id (fun x=>x.1)⟩
    ·rcases hw with w | w
     ·rcases hb j w with w | w
      ·exact .inl w
      ·omega
     ·rcases hl j w with w | w | w
      ·exact .inr w
      ·exact .inl w
      ·omega
    ·cases hq:b.sup with
     | false=>rfl
     | true=>rw [h3 hq] at hs;cases hs
   ·exact .inl ⟨hjl,h.new j b1 hj hjl⟩
  rcases JB i m1.nxt with hi1 | hi1
  ·obtain ⟨b1,k1,k2,_⟩:=k.old i b2 hi hi1;rcases k2 with k2|⟨k2,_⟩
   ·rw [k2];exact h.new i b1 k1 hge
   ·left;omega
  ·rcases k.new i b2 hi hi1 with k1|⟨j,b1,k1,k2,k3,k4⟩
   ·left;have:=h.nxt;omega
   ·rcases key j b1 k1 k2 k3 with ⟨g1,g2⟩|⟨b,g1,g2,g3,g4⟩
    ·rcases k4 with k4 | k4
     ·rw [k4];exact g2
     ·left;omega
    ·right;refine ⟨j,b,g1,g2,g3, ?_⟩;rcases k4 with k4 | k4
     ·rw [k4];exact g4
     ·exact .inr k4,fun i b hb=>by
  obtain ⟨b1,h1⟩:=h.get i b hb;exact k.get i b1 h1,fun q=>k.rts (h.rts q),fun q u=>k.unq (h.rts q) (h.unq q u),fun i e q=>k.ty i e (h.ty i e q)⟩
def Jex (S:Nat→Prop) (m:M) (S':Nat→Prop) (m':M):Prop := ∀i r,m.row i=some r → ¬S i→m'.row i=some r ∧ ¬S' i
theorem Fr2.row {Wb Wl:Nat→Prop} {m m1:M} (h:Fr2 Wb Wl m m1) {i:Nat} {r:Array Value × TypeId} (hr:m.row i=some r) (hw : ¬Wb i):m1.row i=some r:=by
 unfold M.row at hr ⊢;cases hal:m.alive i with
 | none=>rw [hal] at hr;cases hr
 | some k=>
  obtain ⟨k1,h1,_,_,h4,_⟩:=h.al i k hal hw;rw [hal] at hr;rw [h1];dsimp only at hr ⊢;rw [h4];exact hr
theorem Fr2.mono_row {Wb Wl:Nat→Prop} {m m1:M} {S S':Nat→Prop} (hf:JdB m) (h:Fr2 Wb Wl m m1) (hb : ∀i,Wb i→S i) (hs : ∀i,S' i→S i∨m.nxt≤i):Jex S m S' m1:=by
 intro i r hr hS;refine ⟨h.row hr fun w=>hS (hb i w),fun w => ?_⟩;rcases hs i w with w | w
 ·exact hS w
 ·have:=Je3 hf hr;omega
theorem Jbu.mono {S S':Nat→Prop} {m m':M} (h:Jex S m S' m') {n:Nat} {α:Type} {R R':α→List Value→Prop} (hR : ∀x cs,R x cs→R' x cs) {xs:List α} {v:Value} (hr:Jbu P S m n R xs v):Jbu P S' m' n R' xs v:=by
 rcases hr with hr|⟨i,o,sp,cap,h1,h2,h3⟩
 ·exact .inl hr
 ·refine .inr ⟨i,o,sp,cap,h1,h2, ?_⟩;rcases h3 with h3|⟨c,e,h4,h5,h6,h7,h8⟩
  ·exact .inl h3
  ·obtain ⟨h9,h10⟩:=h i _ h4 h5;exact .inr ⟨c,e,h9,h10,h6,h7,fun k x hx=>hR _ _ (h8 k x hx)⟩
theorem QR.mono {S S':Nat→Prop} {m m':M} (h:Jex S m S' m') : ∀{t:Ty} {x:t.El} {cs:List Value},QR P S m t x cs→QR P S' m' t x cs:=by
 intro t;induction t with
 | l e ih=>intro x cs hr;obtain ⟨v,h1,h2⟩:=hr;exact ⟨v,h1,h2.mono h fun _ _ q=>ih q⟩
 | h e ih=>intro x cs hr;obtain ⟨v,h1,h2⟩:=hr;exact ⟨v,h1,h2.mono h fun _ _ q=>ih q⟩
 | p t1 t2 ih1 ih2=>intro x cs hr;obtain ⟨c1,c2,h1,h2,h3⟩:=hr;exact ⟨c1,c2,h1,ih1 h2,ih2 h3⟩
 | _=>intro x cs hr;exact hr
structure Jac (X Y:Cx):Prop where
 mono:Jex X.S X.m Y.S Y.m
 nb:X.nb≤Y.nb
 β : ∀j,j<X.nb→Y.env.β j=X.env.β j
 bf : ∀(j:Nat) (b:Bf),X.bf[j]? = some b → ∃l,Y.bf[j]? = some { b with live:=l }∧Y.env.τ j=X.env.τ j
 has : ∀j,j<X.nb→Y.has j=true→X.has j=true
 len : ∀j L,j<X.nb→Y.len j=some L→X.len j=some L
 s0 : ∀i,Y.S0 i→X.S0 i
 φ : ∀i,X.env.φ i→Y.env.φ i
 nxt:X.m.nxt≤Y.m.nxt
 ty : ∀i e,X.m.typ i=some e→Y.m.typ i=some e
theorem Jap.le {X Y:Cx} (h:Jac X Y) {c:Cl} {w:Value} (hr:Jap P X c w):Jap P Y c w:=by
 cases c with
 | c v=>exact hr
 | l e xs=>exact Jbu.mono (P:=P) (n:=e.n) (R:=QR P X.S X.m e) h.mono (fun _ _ q=>QR.mono h.mono q) hr
 | z e xs=>exact hr
 | o j=>
  obtain ⟨b,h1,h2⟩:=hr;obtain ⟨l,h3,h5⟩:=h.bf j b h1;refine ⟨_,h3, ?_⟩;rw [h5];unfold JjO at h2 ⊢;split at h2
  ·exact ⟨h2.1,h2.2.mono h.mono fun _ _ q=>QR.mono h.mono q⟩
  ·exact h2
 | p j off=>
  obtain ⟨h1,i,h2,h4,h3⟩:=hr;exact ⟨Jt h1 h.nb,i,h2,Jt h4 h.nxt,fun q=>by rw [h.β j h1];exact h3 (h.has j h1 q)⟩
 | e t x off=>
  obtain ⟨i,o,c,e',h1,h2,h3,h4,h5⟩:=hr;obtain ⟨h6,h7⟩:=h.mono i _ h2 h3;exact ⟨i,o,c,e',h1,h6,h7,h4,QR.mono h.mono h5⟩
 | m e j=>exact ⟨Jt hr.1 h.nb,⟨hr.2.1.1,hr.2.1.2.mono h.nxt⟩,fun L hL=>by rw [h.β j hr.1];exact hr.2.2 L (h.len j L hr.1 hL)⟩
 | w e j o n cp=>exact ⟨Jt hr.1 h.nb,⟨hr.2.1.1,hr.2.1.2.mono h.nxt⟩,fun L hL=>by rw [h.β j hr.1];exact hr.2.2 L (h.len j L hr.1 hL)⟩
 | q e j i off=>
  obtain ⟨h1,k,h2,h4,h3⟩:=hr;exact ⟨Jt h1 h.nb,k,h2,Jt h4 h.nxt,fun q=>by rw [h.β j h1];exact h3 (h.has j h1 q)⟩
 | r=>exact hr
 | ra=>exact hr
 | g=>exact hr
 | sb e j n=>exact ⟨Jt hr.1 h.nb,⟨hr.2.1.1,hr.2.1.2.mono h.nxt⟩,fun q=>by
   rw [h.β j hr.1];obtain ⟨h1,eo,h2,h3⟩:=hr.2.2 (h.has j hr.1 q);exact ⟨h1,eo,h.ty _ _ h2,h3⟩⟩
 | ip t j off=>
  obtain ⟨h1,i,h2,h4,h3⟩:=hr;exact ⟨Jt h1 h.nb,i,h2,Jt h4 h.nxt,fun q=>by rw [h.β j h1];exact h3 (h.has j h1 q)⟩
 | mv j=>
  obtain ⟨h1,i,h2,h4,h3⟩:=hr;exact ⟨Jt h1 h.nb,i,h2,Jt h4 h.nxt,fun q=>by rw [h.β j h1];exact h3 (h.has j h1 q)⟩
 | mx=>exact hr
 | mi=>exact hr
 | sg=>exact hr
 | ms=>exact hr
 | mt=>exact hr
 | y=>exact ⟨hr.1,hr.2.mono h.nxt⟩
 | x=>trivial
theorem Qa.le {X Y:Cx} (h:Jac X Y) : ∀{cs:List Cl} {ws:List Value},Qa P X cs ws→Qa P Y cs ws:=by
 intro cs;induction cs with
 | nil=>intro ws hr;cases ws <;> exact hr
 | cons c cs ih=>intro ws hr;cases ws with
  | nil=>exact hr.elim
  | cons w ws=>exact ⟨hr.1.le h,ih hr.2⟩
theorem Ja3.le {X Y:Cx} (h:Jac X Y) {s:S1} {w:Value} (hr:Ja3 P X s w):Ja3 P Y s w:=by
 cases s with
 | x=>trivial
 | s c=>exact Jap.le (c:=c) h hr
 | a cs=>obtain ⟨a,h1,h2⟩:=hr;exact ⟨a,h1,h2.le h⟩
theorem QZ.le {X Y:Cx} (h:Jac X Y) : ∀{cs:List S1} {ws:List Value},QZ P X cs ws→QZ P Y cs ws:=by
 intro cs;induction cs with
 | nil=>intro ws hr;cases ws <;> exact hr
 | cons c cs ih=>intro ws hr;cases ws with
  | nil=>exact hr.elim
  | cons w ws=>exact ⟨hr.1.le h,ih hr.2⟩
theorem J8.le {X Y:Cx} (h:Jac X Y) {s:Sl} {w:Value} (hr:J8 P X s w):J8 P Y s w:=by
 cases s with
 | v s=>exact Ja3.le h hr
 | t l=>obtain ⟨a,h1,h2⟩:=hr;exact ⟨a,h1,h2.le h⟩
theorem JnD.le {X Y:Cx} (h:Jac X Y) : ∀{l:List (FuncId × List S1)} {ds:List Deferred},JnD P X l ds→JnD P Y l ds:=by
 intro l;induction l with
 | nil=>intro ds hr;cases ds <;> exact hr
 | cons c l ih=>intro ds hr;cases ds with
  | nil=>obtain ⟨k,l'⟩:=c;exact hr.elim
  | cons d ds=>obtain ⟨k,l'⟩:=c;exact ⟨hr.1,hr.2.1.le h,ih hr.2.2⟩
theorem XV.le {X Y:Cx} {Wb Wl:Nat→Prop} (hfr:Fr2 Wb Wl X.m Y.m) (hm:Jex X.S X.m Y.S Y.m) (hb : ∀i,Wb i→X.S i) {j j':Nat} {b:Bf} (hτ:Y.env.τ j'=X.env.τ j) (h:XV P X j b) (hl:b.live=true → ∀i,X.env.τ j=some i → ¬Wl i):XV P Y j' b:=by
 refine ⟨h.1, ?_⟩;have h2:=h.2;rw [hτ];cases hi:X.env.τ j with
 | none=>rw [hi] at h2;exact h2
 | some i=>
  rw [hi] at h2;obtain ⟨hS,k,c,e,fr,h3,h4,h5,h6,h7,h8,h9⟩:=h2;have hW : ¬Wb i:=fun w=>hS (hb i w)
  obtain ⟨k1,g1,g2,g3,g4,g5⟩:=hfr.al i k h3 hW;have hrow:X.m.row i=some (c,e):=JcE h3 h4;refine ⟨(hm i _ hrow hS).2,k1,c,e,fr,g1,by rw [g4];exact h4,h5,by rw [g3];exact h6,h7,fun q x hx=>QR.mono hm (h8 q x hx),fun q => ?_⟩
  obtain ⟨h10,h11⟩:=h9 q;exact ⟨by rw [g5 (hl q i hi)];exact h10,by rw [g2];exact Jy h11 hfr.nxt⟩
theorem JaA.le {X Y : Cx} {Wb Wl : Nat → Prop} (hf : JdB X.m) (hr : JdA X.m) (hfr : Fr2 Wb Wl X.m Y.m) (hm : Jex X.S X.m Y.S Y.m) (hφ : ∀ i, X.env.φ i → Y.env.φ i) {j j' : Nat} {arr : Bool} {e : Ty} {xs : List e.El} (hβ : xs ≠ [] → Y.env.β j' = X.env.β j) (h : JaA P X j arr e xs) (hb : xs ≠ [] → ¬ Wb (X.env.β j)) (hl : xs ≠ [] → ¬ Wl (X.env.β j)) : JaA P Y j' arr e xs := by
 refine ⟨h.1, fun hne => ?_⟩;obtain ⟨k, c, eo, fr, h1, h2, h3, h4, h5, h6, h7, h8, ⟨rb, h9, h10⟩, h11⟩ := h.2 hne;obtain ⟨k1, g1, g2, g3, g4, g5⟩ := hfr.al _ k h1 (hb hne);rw [hβ hne];have hrl := hr.lt hf (JO h1);have hfam : ∀ i b1, Y.m.get i = some b1 → b1.root = k.root → i = X.env.β j ∨ (Y.env.φ i ∧ b1.sup = true) := by
  intro i b1 hi hroot;have hself : ∀b,X.m.get k.root=some b→b.sup=false→k.root=X.env.β j:=by
   intro b hb1 hs;rw [h9] at hb1;cases hb1;rcases h11 _ rb h9 h10 with q|⟨_,q⟩
   ·exact q
   ·rw [hs] at q;cases q
  rcases JB i X.m.nxt with hil | hil
  ·obtain ⟨b,k1',k2',k3'⟩:=hfr.old i b1 hi hil;rcases k2' with k2' | ⟨k2',k4',k5'⟩
   ·rcases h11 i b k1' (by rw [←k2'];exact hroot) with q|⟨q,q2⟩
    ·exact .inl q
    ·exact .inr ⟨hφ i q,k3' q2⟩
   ·rw [hroot] at k2';subst k2';exact .inl (hself b k1' k4')
  ·rcases hfr.new i b1 hi hil with q | ⟨j2, b, q1, q2, q3, q4⟩
   ·omega
   ·have:j2=X.env.β j:=by
     rcases q4 with q4 | q4
     ·rcases h11 j2 b q1 (by rw [←q4];exact hroot) with q|⟨_,q⟩
      ·exact q
      ·rw [q3] at q;cases q
     ·rw [hroot] at q4;subst q4;exact hself b q1 q3
    subst this;rcases q2 with q2 | q2
    ·exact absurd q2 (hb hne)
    ·exact absurd q2 (hl hne)
 obtain ⟨rb1,hrb1⟩:=hfr.get _ _ h9;refine ⟨k1,c,eo,fr,g1,by rw [g4];exact h2,by rw [g3];exact h3,by rw [g5 (hl hne)];exact h4,by rw [g2];exact ⟨Jy h5.1 hfr.nxt,h5.2⟩,h6,h7,fun q x hx=>QR.mono hm (h8 q x hx), ?_,fun i b hi hroot=>hfam i b hi (by rw [hroot,g2])⟩
 rw [g2];obtain ⟨b,k1',k2',_⟩:=hfr.old _ rb1 hrb1 hrl;rw [h9] at k1';cases k1';refine ⟨rb1,hrb1, ?_⟩;rcases k2' with q|⟨q,_⟩
 ·rw [q,h10]
 ·exact q
theorem JeA.le {X Y:Cx} {Wb Wl:Nat→Prop} (hfr:Fr2 Wb Wl X.m Y.m) (hle:Jac X Y) {j j':Nat} {cs:List Cl} (hβ:Y.env.β j'=X.env.β j) (h:JeA P X j cs) (hb : ¬Wb (X.env.β j)) (hl : ¬Wl (X.env.β j)):JeA P Y j' cs:=by
 obtain ⟨k,c,e,fr,h1,h2,h3,h4,h5,h7⟩:=h;obtain ⟨k1,g1,g2,g3,g4,g5⟩:=hfr.al _ k h1 hb;unfold JeA;rw [hβ];exact ⟨k1,c,e,fr,g1,by rw [g4];exact h2,by rw [g3];exact h3,by rw [g5 hl];exact h4,by rw [g2];exact h5,h7.le hle⟩
theorem Xj.le {X Y:Cx} (h:Jac X Y) : ∀{l:List (ByteArray × Nat × Nat)} {es:List MapEntry},Xj P X l es→Xj P Y l es:=by
 intro l;induction l with
 | nil=>intro es hr;cases es <;> exact hr
 | cons a l ih=>intro es hr;cases es with
  | nil=>exact hr.elim
  | cons e es=>exact ⟨⟨hr.1.1,hr.1.2.1,Jap.le (c := .p a.2.2 0) h hr.1.2.2⟩,ih hr.2⟩
theorem JbO (a b:Cl) (l:List Cl):J9 (a::b::l)=(a::b::l).any Qh∧Xo (a::b::l)=true∧JaQ (a::b::l)=none:=by cases a <;> exact ⟨rfl,rfl,rfl⟩
theorem JaK {X:Cx} {c:Cl} {ws:List Value} (h:Qh c=false):Jt0 P X c ws ↔ ∃w,ws = [w]∧Jap P X c w:=by
 cases c <;> first | exact Iff.rfl | cases h
theorem JlC {X Y:Cx} {f:Cl→Cl} (hf : ∀c,Qh c=true→f c=c) (hg : ∀c,Qh (f c)=Qh c) (hle:Jac X Y) (hc : ∀c w,Jap P X c w→Jap P Y (f c) w) : ∀{cs:List Cl} {ws:List Value},JeD P X cs ws→JeD P Y (cs.map f) ws:=by
 intro cs;induction cs with
 | nil=>intro ws h;exact h
 | cons c cs ih=>
  intro ws h;obtain ⟨w1,w2,h1,h2,h3⟩:=h;refine ⟨w1,w2,h1, ?_,ih h3⟩;cases hs:Qh c with
  | true=>
   rw [hf c hs];cases c with
   | sg n e xs=>exact ⟨h2.1,h2.2.1,fun k x hx=>QR.mono hle.mono (h2.2.2 k x hx)⟩
   | mt ks=>exact h2
   | _=>cases hs
  | false=>
   obtain ⟨w,h4,h5⟩:=(JaK hs).1 h2;exact (JaK (by rw [hg];exact hs)).2 ⟨w,h4,hc c w h5⟩
theorem Jh7 {f:Cl→Cl} (hg : ∀c,Qh (f c)=Qh c) (cs:List Cl):(cs.map f).any Qh=cs.any Qh:=by
 induction cs with
 | nil=>rfl
 | cons c cs ih=>rw [List.map_cons,List.any_cons,List.any_cons,ih,hg]
theorem JaJ {c:Cl} {cs:List Cl} (h:Qh c=false):Jcn (c::cs)=none:=by cases c <;> first | rfl | cases h
theorem Jls {f:Cl→Cl} (hf : ∀c,Qh c=true→f c=c) (hg : ∀c,Qh (f c)=Qh c) (cs:List Cl):Jcn (cs.map f)=Jcn cs:=by
 cases cs with
 | nil=>rfl
 | cons c cs=>
  rw [List.map_cons];cases hs:Qh c with
  | true=>rw [hf c hs];cases c <;> rfl
  | false=>rw [JaJ hs,JaJ (by rw [hg];exact hs)]
theorem Jt0.le {X Y:Cx} (h:Jac X Y) {c:Cl} {ws:List Value} (hr:Jt0 P X c ws):Jt0 P Y c ws:=by
 unfold Jt0 at hr ⊢;split at hr
 ·exact ⟨hr.1,hr.2.1,fun k x hx=>QR.mono h.mono (hr.2.2 k x hx)⟩
 ·exact hr
 ·obtain ⟨w,h1,h2⟩:=hr;exact ⟨w,h1,Jap.le h h2⟩
theorem JeD.le {X Y:Cx} (h:Jac X Y) : ∀{cs:List Cl} {ws:List Value},JeD P X cs ws→JeD P Y cs ws:=by
 intro cs;induction cs with
 | nil=>intro ws hr;exact hr
 | cons c cs ih=>intro ws hr;obtain ⟨w1,w2,h1,h2,h3⟩:=hr;exact ⟨w1,w2,h1,h2.le h,ih h3⟩
theorem JbP.le {X Y:Cx} {Wb Wl:Nat→Prop} (hfr:Fr2 Wb Wl X.m Y.m) (hle:Jac X Y) {j j':Nat} {cs:List Cl} (hβ:Y.env.β j'=X.env.β j) (h:JbP P X j cs) (hb : ¬Wb (X.env.β j)) (hl : ¬Wl (X.env.β j)):JbP P Y j' cs:=by
 obtain ⟨k,ws,h1,h3,h4,h5,h7,h8⟩:=h;obtain ⟨k1,g1,g2,g3,g4,g5⟩:=hfr.al _ k h1 hb;unfold JbP;rw [hβ];exact ⟨k1,ws,g1,by rw [g3];exact h3,by rw [g5 hl];exact h4,by rw [g2];exact h5,h7.le hle,by rw [g4];exact h8⟩
theorem JfD.mono {X Y:Cx} (h:Jex X.S X.m Y.S Y.m) {e:Ty} : ∀{l:List (ByteArray × e.El)} {es:List MapEntry},JfD P X e l es→JfD P Y e l es:=by
 intro l;induction l with
 | nil=>intro es hr;cases es <;> exact hr
 | cons a l ih=>intro es hr;cases es with
  | nil=>exact hr.elim
  | cons q es=>exact ⟨⟨hr.1.1,QR.mono h hr.1.2.1,hr.1.2.2⟩,ih hr.2⟩
theorem Jqr.le {X Y:Cx} {Wb Wl:Nat→Prop} (hfr:Fr2 Wb Wl X.m Y.m) (hle:Jac X Y) {j j':Nat} {e:Ty} {l:List (ByteArray × e.El)} (hβ:Y.env.β j'=X.env.β j) (h:Jqr P X j e l) (hb : ¬Wb (X.env.β j)) (hl : ¬Wl (X.env.β j)):Jqr P Y j' e l:=by
 obtain ⟨k,es,clock,h1,h2,h3,h4,h5,h7⟩:=h;obtain ⟨k1,g1,g2,g3,g4,g5⟩:=hfr.al _ k h1 hb;unfold Jqr;rw [hβ];exact ⟨k1,es,clock,g1,by rw [g4];exact h2,by rw [g3];exact h3,by rw [g5 hl];exact h4,by rw [g2];exact h5,h7.mono hle.mono⟩
theorem Jf8.le {X Y:Cx} {Wb Wl:Nat→Prop} (hfr:Fr2 Wb Wl X.m Y.m) (hle:Jac X Y) {j j' clock:Nat} {l:List (ByteArray × Nat × Nat)} (hβ:Y.env.β j'=X.env.β j) (h:Jf8 P X j clock l) (hb : ¬Wb (X.env.β j)) (hl : ¬Wl (X.env.β j)):Jf8 P Y j' clock l:=by
 obtain ⟨k,es,h1,h2,h3,h4,h5,h7⟩:=h;obtain ⟨k1,g1,g2,g3,g4,g5⟩:=hfr.al _ k h1 hb;unfold Jf8;rw [hβ];exact ⟨k1,es,g1,by rw [g4];exact h2,by rw [g3];exact h3,by rw [g5 hl];exact h4,by rw [g2];exact h5,h7.le hle⟩
theorem JgP.le {X Y:Cx} {Wb Wl:Nat→Prop} (hfr:Fr2 Wb Wl X.m Y.m) (hle:Jac X Y) {j j' jm since last:Nat} {seen:List Nat} (hβ:Y.env.β j'=X.env.β j) (h:JgP P X j jm since seen last) (hb : ¬Wb (X.env.β j)) (hl : ¬Wl (X.env.β j)):JgP P Y j' jm since seen last:=by
 obtain ⟨h0,k,i,h1,h2,h3,h4,h5,h6,h7⟩:=h;obtain ⟨k1,g1,g2,g3,g4,g5⟩:=hfr.al _ k h1 hb;unfold JgP;rw [hβ];exact ⟨Jt h0 hle.nb,k1,i,g1,by rw [g4];exact h2,by rw [g3];exact h3,by rw [g5 hl];exact h4,by rw [g2];exact h5,Jt h6 hle.nxt,fun q=>by rw [hle.β jm h0];exact h7 (hle.has jm h0 q)⟩
theorem QG {o:Bool} {e:Ty} {xs:List e.El} (h:xs ≠ []):Xo [.r o e xs]=true:=by
 unfold Xo;dsimp only;cases xs with
 | nil=>exact absurd rfl h
 | cons=>rfl
theorem JcY {o:Bool} {e:Ty} {xs:List e.El} (h:Xo [.r o e xs]=true):xs ≠ []:=by
 intro hx;subst hx;cases h
theorem Jcf {e:Ty} {xs:List e.El} (h:xs ≠ []):Xo [.ra e xs]=true:=by
 unfold Xo;dsimp only;cases xs with
 | nil=>exact absurd rfl h
 | cons=>rfl
theorem Qy.le {X Y : Cx} {Wb Wl : Nat → Prop} (hf : JdB X.m) (hr : JdA X.m) (hfr : Fr2 Wb Wl X.m Y.m) (hle : Jac X Y) {j j' : Nat} {cs : List Cl} (hβ : Xo cs = true → Y.env.β j' = X.env.β j) (h : Qy P X j cs) (hb : Xo cs = true → ¬ Wb (X.env.β j)) (hl : Xo cs = true → ¬ Wl (X.env.β j)) : Qy P Y j' cs := by
 cases hrun:J9 cs with
 | false=>
  have hh:=Qs hrun;exact Qy.of hrun (JeA.le hfr hle (hβ hh) (h.cel hrun) (hb hh) (hl hh))
 | true=>
  unfold Qy at h ⊢;split at h
  ·trivial
  ·rename_i e xs;exact JaA.le hf hr hfr hle.mono hle.φ (fun q=>hβ (Jcf q)) h (fun q=>hb (Jcf q)) (fun q=>hl (Jcf q))
  ·rename_i own e xs;refine ⟨JaA.le hf hr hfr hle.mono hle.φ (fun q=>hβ (QG q)) h.1 (fun q=>hb (QG q)) (fun q=>hl (QG q)),fun q1 q2 w=>h.2 q1 q2 ?_⟩;rw [hβ (QG q2)] at w;exact hle.s0 _ w
  ·exact Jf8.le hfr hle (hβ rfl) h (hb rfl) (hl rfl)
  ·exact JgP.le hfr hle (hβ rfl) h (hb rfl) (hl rfl)
  ·exact Jqr.le hfr hle (hβ rfl) h (hb rfl) (hl rfl)
  ·rename_i h1 h2 h3 h4 h5 h6;have hsg:cs.any Qh=true:=by
    unfold J9 at hrun;split at hrun
    ·exact absurd rfl (h3 _ _ _)
    ·exact absurd rfl (h2 _ _)
    ·exact absurd rfl (h4 _ _)
    ·exact absurd rfl (h5 _ _ _ _)
    ·exact absurd rfl h1
    ·exact absurd rfl (h6 _ _)
    ·exact hrun
   have hh:=(Q2 hsg).1;rw [hsg] at h ⊢;exact JbP.le hfr hle (hβ hh) h (hb hh) (hl hh)
end Go.IM.V