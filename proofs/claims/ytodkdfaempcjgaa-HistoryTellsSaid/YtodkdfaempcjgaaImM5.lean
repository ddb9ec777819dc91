/- An ideal machine, and a machine of values: part 5 of 5. Lemmas alone; no conditions. -/
import Derived.Test.YtodkdfaempcjgaaImM4
set_option linter.unusedVariables false
set_option linter.unusedSimpArgs false
set_option linter.constructorNameAsVariable false
namespace Go.IM.V
open Go Go.IM
variable {P:Program} {m m1:M} {S0:Nat→Prop} {env env1:Env} {a:Act} {vs:VS} {X Y:Cx} {ρ:Type} {C:Tab}
theorem Jhs (tm:Array Value) (ds:List Deferred) {d:Option Tmp} {t:Nat} (v:Value) (h:d≠some t):((⟨tm,ds⟩:Act).put d v).tmps.getD t undef=tm.getD t undef:=by
 cases d with
 | none=>rfl
 | some d=>
  have hne:d≠t:=fun e=>h (by rw [e])
  show (tm.setIfInBounds d v).getD t undef=_;rw [JH, JL,Jd hne,←Array.getD_eq_getD_getElem?]
theorem JsQ (vs:VS) {d:Option Tmp} {t:Nat} (x:Sl) (h:d≠some t):(vs.put d x).sl t=vs.sl t:=by
 cases d with
 | none=>rfl
 | some d=>
  have hne:d≠t:=fun e=>h (by rw [e])
  show (bif Nat.beq t d then x else vs.sl t)=_;cases hb:Nat.beq t d with
  | true=>exact absurd (Jr hb).symm hne
  | false=>rfl
theorem JrW {v:Value} {k:Nat} (h:flat k v=true) (n:Nat):Jc1 n v:=by
 cases k with
 | zero=>cases h
 | succ k=>
  match v,h with
  | .pointer none,_=>trivial
  | .pointer (some q),h=>cases h
  | .slice none _ _,_=>trivial
  | .slice (some q) l c,h=>simp [flat] at h
  | .bool _,_ | .int _ _,_ | .float _ _,_ | .complex _ _ _,_ | .string _,_ | .nilFunc,_ | .nilIface,_ | .map _,_ | .chan _,_ | .func _ _ _,_ | .iface _ _,_ | .agg _,_ | .tuple _,_=>trivial
theorem JtU [Orc P] {tm : Array Value} {ds : List Deferred} {o : Oper} {v : Value} {mm : M} (h : Jc2 P ⟨tm, ds⟩ o mm v m1) : ∀ y, Jeq o.op = some y → ∀ n, Jc1 n ((⟨tm, ds⟩ : Act).eval y) → Jc1 n v := by
 intro y hy n hO;have hi:iop P (⟨tm,ds⟩:Act).eval o mm=some (.val v m1):=by
  rcases h with h|⟨h,rfl⟩|⟨f,args,m0,h,_⟩
  ·exact h
  ·exfalso
   unfold Jeq at hy;unfold iop at h;split at hy <;> first | (cases hy;done) | skip
   all_goals rename_i ho
   all_goals rw [ho] at h
   all_goals dsimp only at h
   all_goals first | (cases h;done) | (simp only [Ja] at h;obtain ⟨_,_,h⟩:=h;cases h;done) | (split at h <;> cases h;done) | (split at h;cases h;unfold QT at h;split at h;split at h;split at h;cases h;cases h;cases h;cases h;done)
  ·exfalso
   unfold Jeq at hy;unfold iop at h;split at hy <;> first | (cases hy;done) | skip
   all_goals rename_i ho
   all_goals rw [ho] at h
   all_goals dsimp only at h
   all_goals first | (cases h;done) | (simp only [Ja] at h;obtain ⟨_,_,h⟩:=h;cases h;done) | (split at h <;> cases h;done) | (split at h;cases h;unfold QT at h;split at h;split at h;split at h;cases h;cases h;cases h;cases h;done)
 unfold Jeq at hy;unfold iop at hi;split at hy <;> first | (cases hy;done) | skip
 ·rename_i s z f ho;cases hy;rw [ho] at hi;simp only [Ja] at hi;obtain ⟨w, h1, h2⟩ := hi;cases h2;unfold Q1 at h1;split at h1
  ·rename_i hz;rw [hz] at hO;split at h1
   ·split at h1
    ·split at h1
     ·cases h1
     ·cases h1;exact hO
    ·cases h1
   ·cases h1
  ·cases h1
 ·rename_i t z ix ho;cases hy;rw [ho] at hi;simp only [Ja] at hi;obtain ⟨w, h1, h2⟩ := hi;cases h2;unfold Ql at h1;split at h1
  ·rename_i hz hk;rw [hz] at hO;split at h1
   ·split at h1
    ·rename_i hc;cases h1;rcases hO with hO | hO
     ·omega
     ·exact hO
    ·cases h1
   ·cases h1
  ·rename_i hz hk;rw [hz] at hO;split at h1
   ·split at h1
    ·cases h1;exact hO
    ·cases h1
   ·cases h1
  ·cases h1
 ·rename_i z ho;cases hy;rw [ho] at hi;cases hi;exact hO
 ·rename_i z ho;cases hy;rw [ho] at hi;cases hi;exact hO
 ·rename_i z ho;cases hy;rw [ho] at hi;dsimp only at hi;split at hi <;> cases hi <;> first | exact hO | (rename_i q;rw [←q];exact hO)
 ·rename_i t z lo hi' mx ho;cases hy;rw [ho] at hi;dsimp only at hi;split at hi
  ·rename_i w hw;cases hi;unfold QD at hw;split at hw
   ·rename_i e a len cap hu hz;rw [hz] at hO;split at hw
    ·split at hw
     ·cases hw
     ·split at hw
      ·split at hw
       ·split at hw
        ·split at hw
         ·split at hw
          ·cases hw;trivial
          ·cases hw
         ·split at hw
          ·cases hw;exact .inl ⟨rfl,rfl⟩
          ·rename_i hc;split at hw
           ·split at hw
            ·cases hw;rcases hO with hO | hO
             ·exact absurd hO.2 hc
             ·exact .inr hO
            ·cases hw
           ·cases hw
        ·cases hw
       ·cases hw
      ·cases hw
    ·cases hw
   ·cases hw
  ·unfold QT at hi;split at hi
   ·split at hi
    ·split at hi
     ·rename_i hf;cases hi;exact JrW hf n
     ·cases hi
    ·cases hi
   ·cases hi
theorem Jsb [Orc P] {tm:Array Value} {ds:List Deferred} {o:Oper} {v:Value} {mm:M} (h:Jc2 P ⟨tm,ds⟩ o mm v m1):Fr mm m1:=by
 rcases h with h|⟨h,rfl⟩|⟨f,args,m0,h,n,hc⟩
 ·exact (Jad (k:=0) (b:=⟨.cells #[] 0 (0,0),0,false,false,false⟩) h).1
 ·exact (Jad (k:=0) (b:=⟨.cells #[] 0 (0,0),0,false,false,false⟩) h).1
 ·have h1:Fr mm m0:=(Jad (k:=0) (b:=⟨.cells #[] 0 (0,0),0,false,false,false⟩) h).1;exact h1.trans ((Jbs (Jel n) _ _ _ _ _ (hc n (Je _))).1)
theorem Jrn {o:Obj} (hf:JdB m) (hr:JdA m) {i:Nat} (hi:i<m.nxt):(m.mk1 o).look i=m.look i:=by
 have hg : ∀q,q<m.nxt→(m.mk1 o).get q=m.get q:=by
  intro q hq;unfold M.mk1;rw [M.get_bump,M.get_set,Jd (by omega)]
 unfold M.look M.alive;rw [hg i hi];cases hb:m.get i with
 | none=>rfl
 | some b=>
  dsimp only;rw [hg _ (hr.lt hf hb)]
theorem Jk6 [Orc P] {tm:Array Value} {ds:List Deferred} {o:Oper} {v:Value} {mm:M} (hf:JdB mm) (hro:JdA mm) (h:Jc2 P ⟨tm,ds⟩ o mm v m1) (hk:JoI (JS P o)=true) : ∀i,i<mm.nxt→m1.look i=mm.look i:=by
 have key : ∀{r:Res},iop P (⟨tm,ds⟩:Act).eval o mm=some r → ∃v m2,r = .val v m2 ∧ ∀i,i<mm.nxt→m2.look i=mm.look i:=by
  intro r hr;cases hkk:JS P o with
  | p=>obtain ⟨v,h1,_⟩:=Jur hkk hr;exact ⟨v,mm,h1,fun _ _=>rfl⟩
  | l=>obtain ⟨v,h1,_⟩:=iop_l hkk hr;exact ⟨v,mm,h1,fun _ _=>rfl⟩
  | a=>
   rcases iop_a hkk hr with ⟨v,h1,_⟩|⟨v,obj,h1,_⟩
   ·exact ⟨v,mm,h1,fun _ _=>rfl⟩
   ·exact ⟨v,_,h1,fun i hi=>Jrn hf hro hi⟩
  | x=>rw [hkk] at hk;cases hk
  | s=>rw [hkk] at hk;cases hk
 rcases h with h|⟨h,rfl⟩|⟨f,args,m0,h,hc⟩
 ·obtain ⟨v',m2,h1,h2⟩:=key h;cases h1;exact h2
 ·obtain ⟨v',m2,h1,h2⟩:=key h;cases h1
 ·obtain ⟨v',m2,h1,h2⟩:=key h;cases h1
def Jf6:Value→Option Nat
 | .pointer (some q)=>some q.block
 | .slice (some q) len cap=>if len=0∧cap=0 then none else some q.block
 | _=>none
theorem Jso [Orc P] {tm : Array Value} {ds : List Deferred} {o : Oper} {v : Value} {mm : M} (h : Jc2 P ⟨tm, ds⟩ o mm v m1) {y : Operand} (hy : adOf o.op = some y) {b : Nat} (hv : Jf6 v = some b) :
  Jf6 ((⟨tm,ds⟩:Act).eval y)=some b:=by
 have hi:iop P (⟨tm,ds⟩:Act).eval o mm=some (.val v m1):=by
  rcases h with h|⟨h,rfl⟩|⟨f,args,m0,h,_⟩
  ·exact h
  ·cases hv
  ·exfalso
   unfold adOf at hy;unfold iop at h;split at hy <;> first | (cases hy;done) | skip
   all_goals rename_i ho
   all_goals rw [ho] at h
   all_goals dsimp only at h
   all_goals first | (cases h;done) | (simp only [Ja] at h;obtain ⟨_,_,h⟩:=h;cases h;done) | (split at h <;> cases h;done)
 unfold adOf at hy;unfold iop at hi;split at hy <;> first | (cases hy;done) | skip
 ·rename_i s x f ho;cases hy;rw [ho] at hi;simp only [Ja, Res.val.injEq] at hi;obtain ⟨w, hw, rfl, _⟩ := hi;unfold Q1 at hw;split at hw
  ·rename_i hx;split at hw
   ·split at hw
    ·split at hw
     ·cases hw
     ·cases hw;rw [hx];exact hv
    ·cases hw
   ·cases hw
  ·cases hw
 ·rename_i t x ix ho;cases hy;rw [ho] at hi;simp only [Ja,Res.val.injEq] at hi;obtain ⟨w,hw,rfl,_⟩:=hi;unfold Ql at hw;split at hw
  ·rename_i hx _;split at hw
   ·split at hw
    ·rename_i hk;cases hw;rw [hx];simp only [Jf6];rw [Jd (by rintro ⟨q1,_⟩;have:=hk.2;omega)];exact hv
    ·cases hw
   ·cases hw
  ·rename_i hx _;split at hw
   ·split at hw
    ·cases hw;rw [hx];exact hv
    ·cases hw
   ·cases hw
  ·cases hw
 ·rename_i x ho;cases hy;rw [ho] at hi;dsimp only at hi;split at hi
  ·cases hi
  ·cases hi
  ·cases hi
  ·cases hi
  ·simp only [Jg,Res.val.injEq] at hi;rw [hi.1];exact hv
 ·rename_i x ho;cases hy;rw [ho] at hi;dsimp only at hi;simp only [Jg,Res.val.injEq] at hi;rw [hi.1];exact hv
 ·rename_i x ho;cases hy;rw [ho] at hi;dsimp only at hi;simp only [Jg,Res.val.injEq] at hi;rw [hi.1];exact hv
theorem Jot [Orc P] {tm : Array Value} {ds : List Deferred} {o : Oper} {v : Value} {mm : M} (h : Jc2 P ⟨tm, ds⟩ o mm v m1) {s : Nat} (hs : Jkf o.op = some s) :
  ∃q t x,o.op = .store t (.tmp s) x∧tm.getD s undef = .pointer (some q):=by
 unfold Jkf at hs;split at hs
 ·rename_i t s' x hop;cases hs;have key : ∀{r:Res},iop P (⟨tm,ds⟩:Act).eval o mm=some r → ∃q,tm.getD s undef = .pointer (some q):=by
   intro r hr;unfold iop at hr;rw [hop] at hr;dsimp only at hr;cases hst:XO P t ((⟨tm,ds⟩:Act).eval (.tmp s)) ((⟨tm,ds⟩:Act).eval x) mm with
   | none=>rw [hst] at hr;cases hr
   | some m2=>
    unfold XO at hst;split at hst
    ·rename_i i0 o0 ti he _;exact ⟨_,he⟩
    ·cases hst
  have : ∃r,iop P (⟨tm,ds⟩:Act).eval o mm=some r:=by
   rcases h with h|⟨h,rfl⟩|⟨f,args,mm0,h,_⟩
   ·exact ⟨_,h⟩
   ·exact ⟨_,h⟩
   ·exact ⟨_,h⟩
  obtain ⟨r,hr⟩:=this;obtain ⟨q,hq⟩:=key hr;exact ⟨q,t,x,hop,hq⟩
 ·cases hs
theorem JtY {Wb Wl:Nat→Prop} {m m1:M} (hf:JdB m) (h:Fr2 Wb Wl m m1) {b:Nat} {x:Blk} (hx:m.get b=some x) (hr:x.root=b) : ∃x',m1.get b=some x'∧x'.root=b:=by
 obtain ⟨b1,h1⟩:=h.get b x hx;obtain ⟨b0,g1,g2,_⟩:=h.old b b1 h1 (Jth hf hx);rw [hx] at g1;cases g1;refine ⟨b1,h1, ?_⟩;rcases g2 with g2 | g2
 ·rw [g2,hr]
 ·exact g2.1
theorem Jj4 [Orc P] (hC : JaU P C) {ops : Array Oper} (D : List Deferred) {fl : Nat → Bool} {ff : Nat → Option Nat} {lf : Nat → List Nat} {dp : Nat → Bool} (hdraw : ∀ i, i < ops.size → fl i = true → ∀ j, ff i = some j → (∀ x, (ops[i]?).bind Jcb = some x → j < i ∧ JhS P fl dp ops j i x = true) ∧ ∀ o, ops[i]? = some o → Jdi o.op = true → ∃ x, Jcb o = some x) (hnd : ∀ (i : Nat) (o : Oper), ops[i]? = some o → ∀ c, o.op ≠ .defer c) {m0 : M} {B0 : Nat → Option Nat} (hdp : ∀ t0 b, dp t0 = true → B0 t0 = some b → b < m0.nxt ∧ ∀ c e, m0.row b = some (c, e) → ∀ v ∈ c.toList, Jc1 m0.nxt v)
  (hlate : ∀j i,j<ops.size→i∈lf j→i<j ∧ ∃t0 t1,JbN ops i lookT=some t0∧JbN ops j Jkf=some t1 ∧ ∀b0 b1,B0 t0=some b0→B0 t1=some b1→b0≠b1 ∧ ∃x,m0.get b1=some x∧x.root=b1)
  {K:VS→Option ρ} {r:ρ} : ∀(k p:Nat),p+k=ops.size → ∀{env:Env} {m:M} {tm:Array Value} {ds:List Deferred} {vs:VS} {ss:Nat→Nat} {tt:Nat→Option Nat},Joe P C true fl ops (List.range' p k) vs K (fun _ _=>none)=some r→Rel P S0 env m ⟨tm,ds⟩ vs→Jf9 (vs.cx S0 env m) →
  (∀j,j<p → ∀t,JcJ P fl dp ops j p t=true→QS (vs.sl t)=true→Jc1 (ss j) (tm.getD t undef)) →
  (∀t t0,Jko ops p t=some t0 → ∀b,Jf6 (tm.getD t undef)=some b→B0 t0=some b)→(Jm2 P fl ops p=true → ∀i,i<m0.nxt→m.look i=m0.look i)→(m0.nxt≤m.nxt ∧ ∀j,j<p→m0.nxt≤ss j) →
  (∀i,i<p → ∀t0,JbN ops i lookT=some t0 → ∀b,tt i=some b→B0 t0=some b)→(∀b x,m0.get b=some x→x.root=b → ∃x',m.get b=some x'∧x'.root=b) →
  ∃tm1 m1 env1 vs1,m1.bar=m.bar∧(∃n0,∀n,n0≤n→JjK P (Ja8 P (E P n)) ops m.bar fl ff lf (List.range' p k) ss tt ⟨tm,ds++D⟩ m.nxt m.tr=some (⟨tm1,ds++D⟩,m1.nxt,m1.tr))∧Rel P S0 env1 m1 ⟨tm1,ds⟩ vs1∧Stp (vs.cx S0 env m) (vs1.cx S0 env1 m1)∧tm1.size=tm.size∧K vs1=some r:=by
 intro k;induction k with
 | zero=>intro p hp env m tm ds vs ss tt hv h hb hss _ _ _ _ _;exact ⟨tm,m,env,vs,rfl,⟨0,fun n _=>rfl⟩,h,Stp.refl h.T.free,rfl,hv⟩
 | succ k ih =>
  intro p hp env m tm ds vs ss tt hv h hb hss hrt hqu hnx0 htt hself;rw [List.range'_succ] at hv ⊢;simp only [Joe] at hv;split at hv
  ·cases hv
  ·rename_i o ho;obtain ⟨hok, hv⟩ := Qw hv;have hpl : p < ops.size := (Jv.1 ho).1;obtain ⟨vg, hg, hsame, hv⟩ := JbT h hv;have hcxg := hsame.cx S0 env m;have hold0 : ∀ t, QS (vg.sl t) = true → vg.sl t = vs.sl t ∨ ∃ b, vg.sl t = .v (.s (.c (.bool b))) := fun t _ => hsame.2.2.2 t
   have hssg : ∀j,j<p → ∀t,JcJ P fl dp ops j p t=true→QS (vg.sl t)=true→Jc1 (ss j) (tm.getD t undef):=by
    intro j hj t hq hpl2;rcases hold0 t hpl2 with q|⟨b,q⟩
    ·exact hss j hj t hq (by rw [←q];exact hpl2)
    ·have h2:=hg.sl t;rw [q] at h2;have h3:tm.getD t undef = .bool b:=h2.1;rw [h3];trivial
   have nexts : ∀ {v : Value} {x : Sl} {vs' : VS}, (∀ t, o.dst ≠ some t → vs'.sl t = vg.sl t) → (∀ t, o.dst = some t → t < tm.size → vs'.sl t = x) → (∀ t, o.dst = some t → ¬ t < tm.size → False) →
     (∀y,Jeq o.op=some y→QS x=true→QS (vg.ev y)=true ∧ ∀n,Jc1 n ((⟨tm,ds⟩:Act).eval y)→Jc1 n v)→(Jr8 P fl dp ops p o.op=true→Jc1 m0.nxt v) →
     ∀j,j<p+1 → ∀t,JcJ P fl dp ops j (p+1) t=true→QS (vs'.sl t)=true→Jc1 (Jox ss p m.nxt j) (((⟨tm,ds⟩:Act).put o.dst v).tmps.getD t undef):=by
    intro v x vs' h2 h3 h3' h4 h4d j hj t hq hpl2;have base : ∀t,JcJ P fl dp ops j p t=true→QS (vg.sl t)=true→Jc1 (Jox ss p m.nxt j) (tm.getD t undef):=by
     intro t hq hk;unfold Jox;cases hb2:Nat.beq j p with
     | true=>exact Jb5 hg.T (hg.sl t) hk
     | false=>
      have:=Nat.ne_of_beq_eq_false hb2
      exact hssg j (by omega) t hq hk
    simp only [JcJ] at hq;have hnb:Nat.blt p j=false:=by
     cases hb2:Nat.blt p j with
     | false=>rfl
     | true=>have:p<j:=JC hb2;omega
    rw [hnb] at hq;simp only [Jl] at hq;rw [ho] at hq;dsimp only at hq;by_cases hd:o.dst=some t
    ·rw [show (o.dst == some t)=true by rw [hd];simp] at hq
     simp only [Jk] at hq;have htm:t<tm.size:=by
      rcases JB t tm.size with q | q
      ·exact q
      ·exact (h3' t hd (Nat.not_lt.2 q)).elim
     split at hq
     ·rename_i t' hsrc;rw [h3 t hd htm] at hpl2;obtain ⟨h5,h6⟩:=h4 _ hsrc hpl2;have hval:((⟨tm,ds⟩:Act).put o.dst v).tmps.getD t undef=v:=by
       rw [hd];show (tm.setIfInBounds t v).getD t undef=v;rw [JH, JL,Jf rfl,Jf htm];rfl
      rw [hval];exact h6 _ (base t' hq h5)
     ·have hval:((⟨tm,ds⟩:Act).put o.dst v).tmps.getD t undef=v:=by
       rw [hd];show (tm.setIfInBounds t v).getD t undef=v;rw [JH, JL,Jf rfl,Jf htm];rfl
      rw [hval];refine (h4d hq).mono ?_;unfold Jox;cases hb2:Nat.beq j p with
      | true=>exact hnx0.1
      | false=>
       have:=Nat.ne_of_beq_eq_false hb2
       exact hnx0.2 j (by omega)
    ·rw [show (o.dst == some t)=false by simpa using hd] at hq;simp only [Jl] at hq;rw [Jhs _ _ _ hd];rw [h2 t hd] at hpl2;exact base t hq hpl2
   have roots1 : ∀{v:Value},(∀y b,adOf o.op=some y→Jf6 v=some b→Jf6 ((⟨tm,ds⟩:Act).eval y)=some b) →
     ∀t t0,Jko ops (p+1) t=some t0 → ∀b,Jf6 (((⟨tm,ds⟩:Act).put o.dst v).tmps.getD t undef)=some b→B0 t0=some b:=by
    intro v hv1 t t0 hq q hval;simp only [Jko] at hq;rw [ho] at hq;dsimp only at hq;by_cases hd:o.dst=some t
    ·rw [show (o.dst == some t)=true by rw [hd];simp] at hq
     simp only [Jk] at hq;have hvv:Jf6 v=some q:=by
      rw [hd] at hval;have hval2:Jf6 ((tm.setIfInBounds t v).getD t undef)=some q:=hval;rw [JH, JL,Jf rfl] at hval2;split at hval2
      ·exact hval2
      ·cases hval2
     split at hq
     ·rename_i t' had;exact hrt t' t0 hq q (hv1 _ q had hvv)
     ·cases hq
    ·rw [show (o.dst == some t)=false by simpa using hd] at hq;simp only [Jl] at hq;rw [Jhs _ _ _ hd] at hval;exact hrt t t0 hq q hval
   have nxts1 : ∀j,j<p+1→m0.nxt≤Jox ss p m.nxt j:=by
    intro j hj;unfold Jox;cases hb2:Nat.beq j p with
    | true=>exact hnx0.1
    | false=>
     have:=Nat.ne_of_beq_eq_false hb2
     exact hnx0.2 j (by omega)
   have htt1 : ∀ i, i < p + 1 → ∀ t0, JbN ops i lookT = some t0 → ∀ b, setT tt p (JcD ops ⟨tm, ds ++ D⟩ o) i = some b → B0 t0 = some b := by
    intro i hi t0 hq b hbb;unfold setT at hbb;cases hb2:Nat.beq i p with
    | true =>
     rw [hb2] at hbb;obtain rfl:=Jr hb2
     simp only [Jk] at hbb;unfold JbN at hq;rw [ho] at hq;dsimp only at hq;split at hq
     ·rename_i t hl;unfold lookT at hl;split at hl
      ·rename_i ty t' hop;cases hl;unfold JcD at hbb;split at hbb
       ·unfold Jah at hbb;rw [hop] at hbb;dsimp only at hbb;split at hbb
        ·rename_i q hq2;cases hbb;have hq2':tm.getD t undef = .pointer (some q):=hq2
         exact hrt t t0 hq q.block (by rw [hq2'];rfl)
        ·cases hbb
       ·cases hbb
      ·cases hl
     ·cases hq
    | false=>
     rw [hb2] at hbb;have:=Nat.ne_of_beq_eq_false hb2
     exact htt i (by omega) t0 hq b hbb
   have hWf:Wf m:=fun i x hx=>by
    obtain ⟨rb,h1,_⟩:=h.T.rts i x hx;exact ⟨h.T.unq.le i x hx,rb,h1⟩
   have hnxt0:m0.nxt≤m.nxt:=hnx0.1;rw [←hcxg] at hb ⊢;rcases hv with ⟨hw,hv⟩|⟨hw,hv⟩
   ·
    have main : ∃(v:Value) (m1:M) (env1:Env) (x:Sl) (vs1:VS),Jc2 P ⟨tm,ds⟩ o (if fl p then m.rebar m.nxt else m) v m1∧Rel P S0 env1 (m1.rebar m.bar) ⟨tm,ds⟩ { vs1 with sl:=vg.sl }∧Stp (vg.cx S0 env m) (vs1.cx S0 env1 (m1.rebar m.bar))∧J8 P (vs1.cx S0 env1 (m1.rebar m.bar)) x v∧vs1.fits o.dst=true ∧
      Joe P C true fl ops (List.range' (p+1) k) (({ vs1 with sl:=vg.sl }:VS).put o.dst x) K (fun _ _=>none)=some r∧(∀y,Jeq o.op=some y→QS x=true→QS (vg.ev y)=true):=by
     cases hf:fl p with
     | false=>
      rw [hf] at hv;rcases Jc6 hC hg (low:=false) (fun _=>hb) hv with ⟨v,m1,env1,x,vs1,h1,h2,h3,h4,h5,h9⟩|⟨d,k',l,h1,h2,h3,⟨c,hc⟩,h5⟩|⟨w,m1,env1,vs1,h1,h2,h3,h5⟩
      ·obtain ⟨hfit,h5⟩:=Qw (X4 h5);have hbar:m1.bar=m.bar:=h3.fr.bar;have hm1:m1.rebar m.bar=m1:=by rw [←hbar];rfl
       rw [←hm1] at h2 h3 h4;exact ⟨v,m1,env1,x,vs1,h1,h2.slots hg h3,h3,h4,hfit,h5,h9⟩
      ·exact absurd hc (hnd p o ho c)
      ·cases h5
     | true=>
      rw [hf] at hv;have hr:=hg.rebar (b:=m.nxt) (Je _);rcases Jc6 hC hr (low:=true) (fun q=>by cases q) hv with ⟨v,m1,env1,x,vs1,h1,h2,h3,h4,h5,h9⟩|⟨d,k',l,h1,h2,h3,⟨c,hc⟩,h5⟩|⟨w,m1,env1,vs1,h1,h2,h3,h5⟩
      ·obtain ⟨hfit,h5⟩:=Qw (X4 h5);have hble:m.bar≤m1.nxt:=Jy h.T.bar h3.fr.nxt;have h2':=h2.rebar (b:=m.bar) hble
       have h3':=Stp.rebar (m:=m) h3
       exact ⟨v,m1,env1,x,vs1,h1,h2'.slots hg h3',h3',h4.le (Jac.rebar _ _),hfit,h5,h9⟩
      ·exact absurd hc (hnd p o ho c)
      ·cases h5
    obtain ⟨v,m1,env1,x,vs1,h1,h2,h3,h4,hfit,h5,h9⟩:=main;have hprop:=JtU (P:=P) h1;have hlk:fl p=true∨JoI (JS P o)=true → ∀i,i<m.nxt→(m1.rebar m.bar).look i=m.look i:=by
     intro hq i hi;show m1.look i=m.look i;cases hf:fl p with
     | true=>
      rw [hf] at h1;have hfr:=Jsb h1;exact hfr.look hWf (Je _) i hi
     | false=>
      rw [hf] at h1 hq;exact Jk6 h.T.free h.T.rts h1 (hq.resolve_left (by simp)) i hi
    have hqu1:Jm2 P fl ops (p+1)=true → ∀i,i<m0.nxt→(m1.rebar m.bar).look i=m0.look i:=by
     intro hq i hi;simp only [Jm2,Jh] at hq;rw [ho] at hq;have hq1:=hq.1;simp only [Bool.or_eq_true] at hq1;rw [hlk hq1 i (Jt hi hnxt0)];exact hqu hq.2 i hi
    have hdeep : Jr8 P fl dp ops p o.op = true → Jc1 m0.nxt v := by
     intro hd;unfold Jr8 at hd;split at hd
     ·rename_i tt t1 hop;rw [Jh] at hd;obtain ⟨hd1, hd2⟩ := hd;split at hd2
      ·rename_i t0 hroot;have hi:iop P (⟨tm,ds⟩:Act).eval o (if fl p then m.rebar m.nxt else m)=some (.val v m1):=by
        rcases h1 with h1|⟨h1,rfl⟩|⟨f,args,mm0,h1,_⟩
        ·exact h1
        ·exfalso;unfold iop at h1;rw [hop] at h1;simp only [Ja] at h1;obtain ⟨_,_,h1⟩:=h1;cases h1
        ·exfalso;unfold iop at h1;rw [hop] at h1;simp only [Ja] at h1;obtain ⟨_,_,h1⟩:=h1;cases h1
       unfold iop at hi;rw [hop] at hi;simp only [Ja,Res.val.injEq] at hi;obtain ⟨v',hv',rfl,_⟩:=hi;have hrowm : ∀i,(if fl p then m.rebar m.nxt else m).row i=m.row i:=fun i=>by split <;> rfl
       unfold Ja5 at hv';split at hv'
       ·rename_i i o' ha;have ha':tm.getD t1 undef = .pointer (some ⟨i,o',none⟩):=ha
        obtain ⟨g1,g2⟩:=hdp t0 i hd2 (hrt t1 t0 hroot i (by rw [ha'];rfl))
        split at hv'
        ·rename_i ti _ _;simp only [Ja] at hv';obtain ⟨cs,_,rfl⟩:=hv';trivial
        ·unfold M.cell at hv';rw [hrowm,JeC (hqu hd1 i g1)] at hv';split at hv'
         ·rename_i c e hrow;exact g2 c e hrow v' (by rw [Array.mem_toList_iff];exact J2 hv')
         ·cases hv'
        ·cases hv'
       ·cases hv'
      ·cases hd2
     ·cases hd
    have hput:=h2.put hfit h4;rw [Qu tm ds ds] at hput;have hcx:(({ vs1 with sl:=vg.sl }:VS).put o.dst x).cx S0 env1 (m1.rebar m.bar)=vs1.cx S0 env1 (m1.rebar m.bar):=by cases o.dst <;> rfl
    have hb1:=h3.bars h.T.bar hb;obtain ⟨tm2,m2,env2,vs2,g0,⟨n1,g1⟩,g2,g3,g4,g5⟩:=ih (p+1) (by omega) h5 hput (by rw [hcx];exact hb1) (nexts (vs':=({ vs1 with sl:=vg.sl }:VS).put o.dst x) (x:=x) (fun t ht=>JsQ _ _ ht) (fun t ht _=>by rw [ht];show (bif Nat.beq t t then _ else _)=_;rw [Nat.beq_refl];rfl) (fun t ht hlt=>by rw [ht] at hfit;have:t<vs1.N:=JC hfit;have h10:=h2.size;exact hlt (Jt this h10)) (fun y hy hx=>⟨h9 y hy hx,hprop y hy⟩) hdeep) (roots1 fun y q hy hvq=>Jso h1 hy hvq) hqu1 ⟨Jy hnxt0 h3.fr.nxt,nxts1⟩ htt1 (fun b x hx hr=>by
     obtain ⟨x',e1,e2⟩:=hself b x hx hr;exact JtY h.T.free h3.fr e1 e2)
    rw [hcx] at g3;have ht : fl p = true → JbX (⟨tm, ds ++ D⟩ : Act).eval o (Jes ff ss p m.nxt) = true := by
     intro hf;unfold JbX;cases hto:Jah (⟨tm,ds++D⟩:Act).eval o with
     | none=>rfl
     | some j' =>
      dsimp only;rw [decide_eq_true_eq];rw [QU tm (ds++D) ds] at hto;rcases Jkc hg hf hv hto with ⟨y,hy,hpy⟩|⟨hlk,hlt⟩
      case inr=>
       unfold Jes;cases hff:ff p with
       | none=>exact hlt
       | some j=>
        obtain ⟨x,hx⟩:=(hdraw p hpl hf j hff).2 o ho hlk;unfold Jdi at hlk;split at hlk
        ·rename_i hop;unfold Jcb at hx;rw [hop] at hx;cases hx
        ·cases hlk
      have hold : ∀ {n : Nat}, Jc1 n ((⟨tm, ds⟩ : Act).eval y) → j' < n := by
       intro n hO;unfold Jah at hto;unfold Jcb at hy;split at hto
       ·rename_i t z hz;rw [hz] at hy;cases hy;split at hto
        ·rename_i q hq;rw [hq] at hO;cases hto;exact hO
        ·cases hto
       ·rename_i t z lo hi mx hz;rw [hz] at hy;cases hy;split at hto
        ·rename_i q len c hq;rw [hq] at hO;split at hto
         ·cases hto
         ·rename_i hc;cases hto;rcases hO with hO | hO
          ·exact absurd hO.2 hc
          ·exact hO
        ·cases hto
       ·rename_i s d z hz;rw [hz] at hy;cases hy;split at hto
        ·rename_i q len c hq;rw [hq] at hO;split at hto
         ·cases hto
         ·rename_i hc;cases hto;rcases hO with hO | hO
          ·exact absurd hO hc
          ·exact hO
        ·cases hto
       ·rename_i hz;rw [hz] at hy;cases hy
       ·cases hto
      unfold Jes;cases hff:ff p with
      | none=>exact hold (Jb5 hg.T (QE hg y) hpy)
      | some j =>
       dsimp only;obtain ⟨hjp,hfr⟩:=(hdraw p hpl hf j hff).1 y (by rw [ho];exact hy)
       refine hold ?_;cases y with
       | tmp t=>exact hssg j hjp t hfr hpy
       | const v=>
        have hrep:=QE (P:=P) hg (.const v);have hk:QS (ofV v)=true:=hpy;have hrep2:J8 P (vg.cx S0 env m) (ofV v) v:=hrep
        revert hk hrep2
        unfold ofV;split
        ·intro _ _;trivial
        ·unfold of1;split
         ·intro _ _;trivial
         ·intro _ _;trivial
         ·split
          ·rename_i h1 h2 hn;intro _ hrep2;exact JlJ hrep2.2 _
          ·intro hk;cases hk
       | global g=>cases hfr
       | func f=>cases hfr
    refine ⟨tm2,m2,env2,vs2,g0, ?_,g2,h3.trans h.T.free g3,by rw [g4];exact Jau _ _ _,g5⟩
    have hst : JjJ ((lf p).filterMap tt) (⟨tm, ds ++ D⟩ : Act).eval o m.tr = true := by
     unfold JjJ;cases hem:((lf p).filterMap tt).isEmpty with
     | true=>rfl
     | false =>
      rw [Bool.false_or];cases hlf:(lf p).filterMap tt with
      | nil=>rw [hlf] at hem;cases hem
      | cons b0 bs =>
       have hmem0:b0∈(lf p).filterMap tt:=by rw [hlf];simp
       obtain ⟨i0,hi0,hti0⟩:=List.mem_filterMap.1 hmem0;obtain ⟨_,_,t1,_,hr1,_⟩:=hlate p i0 hpl hi0;have hr1':=hr1
       unfold JbN at hr1;rw [ho] at hr1;dsimp only at hr1;split at hr1
       ·rename_i s hs;obtain ⟨q,ty,x,hop,hq⟩:=Jot h1 hs;rw [hop];dsimp only;have hev:(⟨tm,ds++D⟩:Act).eval (.tmp s) = .pointer (some q):=hq;rw [hev];dsimp only;have hB1:=hrt s t1 hr1 q.block (by rw [hq];rfl)
        rw [←hlf,Jh]
        constructor
        ·cases hcon:((lf p).filterMap tt).contains q.block with
         | false=>rfl
         | true=>
          exfalso
          rw [List.contains_iff_mem] at hcon;obtain ⟨i,hi,hti⟩:=List.mem_filterMap.1 hcon;obtain ⟨hip,t0,t1',hr0,hr2,hsep⟩:=hlate p i hpl hi;rw [hr1'] at hr2;cases hr2;exact (hsep _ _ (htt i hip t0 hr0 _ hti) hB1).1 rfl
        ·obtain ⟨hip,t0,t1',hr0,hr2,hsep⟩:=hlate p i0 hpl hi0;rw [hr1'] at hr2;cases hr2;obtain ⟨_,x0,e1,e2⟩:=hsep _ _ (htt i0 hip t0 hr0 _ hti0) hB1;obtain ⟨x1,e3,e4⟩:=hself _ x0 e1 e2;unfold JmU;have e3':(⟨m.tr,0,0⟩:M).get q.block=some x1:=e3
         rw [e3'];simp [e4]
       ·cases hr1
    obtain ⟨n2,h8⟩:=JoW (n0:=Jes ff ss p m.nxt) (β:=m.bar) (f:=fl p) rfl hok ht hst (Jc2.defers (ds':=ds++D) h1);refine ⟨n1+n2,fun n hn => ?_⟩;simp only [JjK,ho,hw];have hw':Region.wanted o (yielded ops (⟨tm,ds++D⟩:Act).tmps)=true:=hw
    rw [h8 n (by omega)];have hp2:(⟨tm,ds++D⟩:Act).put o.dst v=⟨((⟨tm,ds⟩:Act).put o.dst v).tmps,ds++D⟩:=Qu _ _ _ _ _;dsimp only;rw [hp2];exact g1 n (by omega)
   ·obtain ⟨hfit, hv⟩ := Qw hv;have h6 := hg.put hfit JaB;rw [Qu tm ds ds] at h6;have hcx : (vg.put o.dst Qn).cx S0 env m = vg.cx S0 env m := by cases o.dst <;> rfl
    have hnx : ∀j,j<p+1 → ∀t,JcJ P fl dp ops j (p+1) t=true→QS ((vg.put o.dst Qn).sl t)=true→Jc1 (Jox ss p m.nxt j) (((⟨tm,ds⟩:Act).put o.dst undef).tmps.getD t undef):=by
     intro j hj t hq hpl2;by_cases hd:o.dst=some t
     ·have htm:t<tm.size:=by rw [hd] at hfit;have:t<vg.N:=JC hfit;exact Jt this hg.size
      have hval:((⟨tm,ds⟩:Act).put o.dst undef).tmps.getD t undef=undef:=by
       rw [hd];show (tm.setIfInBounds t undef).getD t undef=undef;rw [JH, JL,Jf rfl,Jf htm];rfl
      rw [hval];trivial
     ·rw [Jhs _ _ _ hd];rw [JsQ _ _ hd] at hpl2;simp only [JcJ] at hq;have hnb:Nat.blt p j=false:=by
       cases hb2:Nat.blt p j with
       | false=>rfl
       | true=>have:p<j:=JC hb2;omega
      rw [hnb] at hq;simp only [Jl] at hq;rw [ho] at hq;dsimp only at hq;rw [show (o.dst == some t)=false by simpa using hd] at hq;simp only [Jl] at hq;unfold Jox;cases hb2:Nat.beq j p with
      | true=>exact Jb5 hg.T (hg.sl t) hpl2
      | false=>
       have:=Nat.ne_of_beq_eq_false hb2
       exact hssg j (by omega) t hq hpl2
    obtain ⟨tm2,m2,env2,vs2,g0,⟨n1,g1⟩,g2,g3,g4,g5⟩:=ih (p+1) (by omega) hv h6 (by rw [hcx];exact hb) hnx (roots1 fun y q _ hvq=>by cases hvq) (fun hq=>by
     simp only [Jm2,Jh] at hq;exact hqu hq.2) ⟨hnxt0,nxts1⟩ htt1 hself
    rw [hcx] at g3;refine ⟨tm2,m2,env2,vs2,g0,⟨n1,fun n hn => ?_⟩,g2,g3,by rw [g4];exact Jau _ _ _,g5⟩
    have hp2:(⟨tm,ds++D⟩:Act).put o.dst undef=⟨((⟨tm,ds⟩:Act).put o.dst undef).tmps,ds++D⟩:=Qu _ _ _ _ _;have hopD:opD P (Ja8 P (E P n)) ((lf p).filterMap tt) (Jes ff ss p m.nxt) m.bar (fl p) (Region.wanted o (yielded ops (⟨tm,ds++D⟩:Act).tmps)) o (⟨tm,ds++D⟩:Act).eval m.nxt m.tr=some (undef,m.tr,m.nxt):=by
     have hw':Region.wanted o (yielded ops (⟨tm,ds++D⟩:Act).tmps)=false:=hw
     rw [hw'];rfl
    simp only [JjK,ho];rw [hopD];dsimp only;rw [hp2];exact g1 n hn
end Go.IM.V
namespace Go.IM.V
open Go Go.IM
variable {P:Program} {m m1:M} {S0:Nat→Prop} {env env1:Env} {a a1:Act} {vs:VS} {X Y:Cx} {ρ:Type} {C LO:Tab} {e:Out}
theorem Jnk {ops : Array Oper} {ms : List Nat} : ∀ {l : List Nat} {K : Option ρ} {r : ρ}, Jo8 P ops ms vs l K = some r → K = some r ∧ ∀ j ∈ l, ∀ t, Jcc P ops ms j ≠ [] → JbN ops j Jkf = some t → neB vs t = true := by
 intro l;induction l with
 | nil=>intro K r h;exact ⟨h,fun j hj=>by cases hj⟩
 | cons j l ih=>
  intro K r h;simp only [Jo8] at h;split at h
  ·rename_i hn;obtain ⟨h1,h2⟩:=ih h;refine ⟨h1,fun j' hj' t hne hr => ?_⟩;rcases JJ.1 hj' with rfl | hj'
   ·exact absurd hn hne
   ·exact h2 j' hj' t hne hr
  ·split at h
   ·rename_i t ht;obtain ⟨hb,h⟩:=Qw h;obtain ⟨h1,h2⟩:=ih h;refine ⟨h1,fun j' hj' t' hne hr => ?_⟩;rcases JJ.1 hj' with rfl | hj'
    ·rw [ht] at hr;cases hr;exact hb
    ·exact h2 j' hj' t' hne hr
   ·cases h
theorem Jmb (h:Rel P S0 env m a vs) {j:Nat} {cs:List Cl} (hcs:vs.bx[j]? = some cs) (hp:(!(J9 cs) || cs.any Qh)=true):JM vs.bx j=true ∧ ∃x,m.get (env.β j)=some x∧x.root=env.β j:=by
 cases hs:cs.any Qh with
 | true=>
  obtain ⟨k,ws,q1,q3,q4,q5,q6⟩:=(h.T.bx j cs hcs).sg hs;exact ⟨(JK hcs).trans (Q2 hs).1,k,JO q1,q5⟩
 | false=>
  rw [hs,Bool.or_false,Bool.not_eq_true'] at hp;obtain ⟨k,c',e',fr,q1,q2,q3,q4,q5,q6⟩:=(h.T.bx j cs hcs).cel hp;exact ⟨(JK hcs).trans (Qs hp),k,JO q1,q5⟩
theorem JcS (h:Rel P S0 env m a vs) {j off:Nat} {t:Nat} (hs:vs.sl t = .v (.s (.p j off))) (hp:Jfb vs j=true) :
  j<vs.bx.length∧JM vs.bx j=true∧(∃o,a.tmps.getD t undef = .pointer (some ⟨env.β j,o,none⟩)) ∧ ∃x,m.get (env.β j)=some x∧x.root=env.β j:=by
 unfold Jfb at hp;split at hp
 ·rename_i cs hcs;obtain ⟨hhas,hx⟩:=Jmb h hcs hp;have hrep:=h.sl t;rw [hs] at hrep;obtain ⟨hjl,i,hval,hil,hib⟩:=hrep;refine ⟨Jx hcs,hhas,⟨off, ?_⟩,hx⟩;rw [hval,hib hhas];rfl
 ·cases hp
theorem Jly (h:Rel P S0 env m a vs) {e:Ty} {j off:Nat} {i:Int} {t:Nat} {cs:List Cl} (hs:vs.sl t = .v (.s (.q e j i off))) (hcs:vs.bx[j]? = some cs) (hp:cs.any Qh=true) :
  j<vs.bx.length∧JM vs.bx j=true∧(∃o,a.tmps.getD t undef = .pointer (some ⟨env.β j,o,none⟩)) ∧ ∃x,m.get (env.β j)=some x∧x.root=env.β j:=by
 obtain ⟨hhas,hx⟩:=Jmb h hcs (by rw [hp,Bool.or_true]);have hrep:=h.sl t;rw [hs] at hrep;obtain ⟨hjl,k,hval,hil,hib⟩:=hrep;refine ⟨Jx hcs,hhas,⟨i.toNat*e.n+off, ?_⟩,hx⟩;rw [hval,hib hhas];rfl
theorem JlD (h:Rel P S0 env m a vs) {e:Ty} {j off:Nat} {i:Int} {t:Nat} (hs:vs.sl t = .v (.s (.q e j i off))) (hp:raB vs j=true) (hn:neB vs t=true) :
  j<vs.bx.length∧JM vs.bx j=true∧(∃o,a.tmps.getD t undef = .pointer (some ⟨env.β j,o,none⟩)) ∧ ∃x,m.get (env.β j)=some x∧x.root=env.β j:=by
 unfold raB at hp;split at hp
 ·rename_i e' xs hcs;unfold neB at hn;rw [hs] at hn;dsimp only at hn;rw [hcs] at hn;dsimp only at hn;have hhas:JM vs.bx j=true:=by rw [JK hcs];exact hn
  have hne:xs ≠ []:=fun q=>by subst q;cases hn
  have hrep:=h.sl t;rw [hs] at hrep;obtain ⟨hjl,k,hval,hil,hib⟩:=hrep;have hbx:=h.T.bx j _ hcs;have hrun:JaA P (vs.cx S0 env m) j true e' xs:=hbx;obtain ⟨k',c,eo,fr,h1,h2,h3,h4,h5,_⟩:=hrun.2 hne;refine ⟨Jx hcs,hhas,⟨i.toNat*e.n+off, ?_⟩,k',JO h1,h5.2 rfl⟩;rw [hval,hib hhas];rfl
 ·rename_i cs _ hcs;exact Jly h hs hcs hp
 ·cases hp
theorem JoA (h : Rel P S0 env m a vs) {t0 t1 : Nat} (hs : JtX vs t0 t1 = true) (hn : neB vs t1 = true) :
  ∀b0 b1,Jf6 (a.tmps.getD t0 undef)=some b0→Jf6 (a.tmps.getD t1 undef)=some b1→b0≠b1 ∧ ∃x,m.get b1=some x∧x.root=b1:=by
 intro b0 b1 hb0 hb1;have fin : ∀{j0:Nat},j0<vs.bx.length→JM vs.bx j0=true→(∃o,a.tmps.getD t0 undef = .pointer (some ⟨env.β j0,o,none⟩))→(match vs.sl t1 with
   | .v (.s (.p j1 _)) => !(Nat.beq j0 j1) && Jfb vs j1
   | .v (.s (.q _ j1 _ _)) => !(Nat.beq j0 j1) && raB vs j1
   | _=>false)=true→b0≠b1 ∧ ∃x,m.get b1=some x∧x.root=b1:=by
  intro j0 g1 g2 hv hs;obtain ⟨o,g3⟩:=hv;rw [g3] at hb0;cases hb0;have fin : ∀{j1:Nat},j1<vs.bx.length→JM vs.bx j1=true→Nat.beq j0 j1=false→env.β j0≠env.β j1:=by
   intro j1 hl hh hne he;exact Nat.ne_of_beq_eq_false hne (h.T.bxd j0 j1 g1 hl g2 hh he)
  split at hs
  ·rename_i j1 f1 hs1;simp only [Jh,Bool.not_eq_true'] at hs;obtain ⟨k1,k2,⟨o',k3⟩,k4⟩:=JcS h hs1 hs.2;rw [k3] at hb1;cases hb1;exact ⟨fin k1 k2 hs.1,k4⟩
  ·rename_i e1 j1 i1 f1 hs1;simp only [Jh,Bool.not_eq_true'] at hs;obtain ⟨k1,k2,⟨o',k3⟩,k4⟩:=JlD h hs1 hs.2 hn;rw [k3] at hb1;cases hb1;exact ⟨fin k1 k2 hs.1,k4⟩
  ·cases hs
 have finB : ¬(vs.cx S0 env m).S b0→sepB vs t1=true→b0≠b1 ∧ ∃x,m.get b1=some x∧x.root=b1:=by
  intro hn0 hs;unfold sepB at hs;split at hs
  ·rename_i j1 f1 hs1;obtain ⟨k1,k2,⟨o',k3⟩,k4⟩:=JcS h hs1 hs;rw [k3] at hb1;cases hb1;exact ⟨fun q=>hn0 (by rw [q];exact h.T.inS j1 k1 k2),k4⟩
  ·rename_i e1 j1 i1 f1 hs1;obtain ⟨k1,k2,⟨o',k3⟩,k4⟩:=JlD h hs1 hs hn;rw [k3] at hb1;cases hb1;exact ⟨fun q=>hn0 (by rw [q];exact h.T.inS j1 k1 k2),k4⟩
  ·cases hs
 unfold JtX at hs;split at hs
 ·rename_i j0 f0 hs0;rw [Jh] at hs;obtain ⟨g1,g2,g3,_⟩:=JcS h hs0 hs.1;exact fin g1 g2 g3 hs.2
 ·rename_i e0 j0 i0 f0 hs0;rw [Jh] at hs;obtain ⟨cs,hcs⟩:=Option.isSome_iff_exists.1 hs.1;obtain ⟨hcs,hsg,_⟩:=Jbg hcs;obtain ⟨g1,g2,g3,_⟩:=Jly h hs0 hcs hsg;exact fin g1 g2 g3 hs.2
 ·rename_i e0 xs0 hs0;have hrep := h.sl t0;rw [hs0] at hrep;refine finB (fun q => ?_) hs;have hr : Jbu P (vs.cx S0 env m).S (vs.cx S0 env m).m e0.n (QR P (vs.cx S0 env m).S (vs.cx S0 env m).m e0) xs0 (a.tmps.getD t0 undef) := hrep;rcases hr with ⟨h1, _⟩ | ⟨i, o, sp, cap, h1, h2, h3⟩
  ·rw [h1] at hb0;cases hb0
  ·rcases h3 with h3|⟨c,e,h3,h4,_⟩
   ·subst h3;have hl:xs0.length=0:=by omega
    rw [h1,hl] at hb0;cases hb0
   ·rw [h1] at hb0;have:b0=i:=by
     have hb2:(if xs0.length=0∧cap=0 then none else some i)=some b0:=hb0;split at hb2
     ·cases hb2
     ·cases hb2;rfl
    rw [this] at q;exact h4 q
 ·rename_i e0 x0 o0 hs0;have hrep:=h.sl t0;rw [hs0] at hrep;refine finB (fun q => ?_) hs;obtain ⟨i,o,c,e',h1,h2,h3,_⟩:=hrep;rw [h1] at hb0;cases hb0;exact h3 q
 ·cases hs
theorem Jl6 {w:Value} (h:Jl7 w):Jf6 w=none:=by
 rcases h with rfl|⟨i,o,rfl⟩
 ·rfl
 ·rfl
theorem Jgv : ∀{t:Ty} {x:t.El} {c:Cl},c∈exp t x→QS (.v (.s c))=true:=by
 intro t;induction t with
 | p t1 t2 ih1 ih2=>
  intro x c h;rcases List.mem_append.1 h with h | h
  ·exact ih1 h
  ·exact ih2 h
 | u=>intro x c h;cases h
 | _=>intro x c h;simp only [exp,List.mem_singleton] at h;subst h;rfl
theorem JoD (h:Rel P S0 env m a vs) {j:Nat} {own:Bool} {e:Ty} {xs:List e.El} (hj:vs.bx[j]? = some [.r own e xs]) (hne:xs ≠ []) :
  env.β j<m.nxt ∧ ∀c eo,m.row (env.β j)=some (c,eo) → ∀v∈c.toList,Jc1 m.nxt v:=by
 obtain ⟨hpos,hrow⟩:=Je0 h.T hj;obtain ⟨c,eo,h1,h2,h3,h4⟩:=hrow hne;refine ⟨Je3 h.T.free h1,fun c' eo' hr v hv => ?_⟩;have hr':m.row (env.β j)=some (c,eo):=h1
 rw [hr'] at hr;cases hr;obtain ⟨k,hk⟩:=List.getElem?_of_mem hv;have hkl:k<c.size:=by have:=Jx hk;simpa using this
 have hdiv:e.n*(k / e.n)+k % e.n=k:=Nat.div_add_mod k e.n;have hmod:=Nat.mod_lt k hpos;have hq:k / e.n<xs.length:=by
  rw [Nat.div_lt_iff_lt_mul hpos];rw [h3] at hkl;exact hkl
 obtain ⟨x,hx⟩ : ∃x,xs[k / e.n]? = some x:=⟨xs[k / e.n],by simp [hq]⟩;have hrep:=Ja7 (X:=vs.cx S0 env m) (P:=P) (h4 _ x hx);have hlen:=Qe hrep;have hend:k / e.n*e.n+e.n≤c.size:=by
  rw [h3,←Nat.succ_mul];exact Jw _ hq
 have hsz:(c.extract (k / e.n*e.n) (k / e.n*e.n+e.n)).toList.length=e.n:=by
  rw [Jq,Array.size_extract];omega
 have hr2:k % e.n<(exp e x).length:=by rw [hlen,hsz];exact hmod
 obtain ⟨u,hu,huc⟩:=Xr hrep (k:=k % e.n) (c:=(exp e x)[k % e.n]) (by simp [hr2]);have huv:u=v:=by
  rw [Jn,JA] at hu;rw [Jf (by omega),show k / e.n*e.n+k % e.n=k by rw [Nat.mul_comm];exact hdiv,←Array.getElem?_toList] at hu
  rw [hk] at hu;cases hu;rfl
 rw [←huv];exact Jb5 (s := .v (.s _)) h.T huc (Jgv (List.getElem_mem hr2))
theorem Jq7 {bx:List (List Cl)} (hT:Jao P X bx) {t:Ty} {x:t.El} {ws:List Value} (h:QR P X.S X.m t x ws) : ∀v∈ws,Jc1 X.m.nxt v:=by
 intro v hv;obtain ⟨k,hk⟩:=List.getElem?_of_mem hv;have hrep:=Ja7 h;have hlen:=Qe hrep;have hkl:k<(exp t x).length:=by rw [hlen];exact Jx hk
 obtain ⟨u,hu,huc⟩:=Xr hrep (k:=k) (c:=(exp t x)[k]) (by simp [hkl]);rw [hk] at hu;cases hu;exact Jb5 (s := .v (.s _)) hT huc (Jgv (List.getElem_mem hkl))
theorem Jq6 {bx : List (List Cl)} (hT : Jao P X bx) : ∀ {cs : List Cl} {ws : List Value}, cs.all (fun c => Qh c || JcW c) = true → JeD P X cs ws → ∀ v ∈ ws, Jc1 X.m.nxt v := by
 intro cs;induction cs with
 | nil=>intro ws _ h v hv;rw [show ws = [] from h] at hv;cases hv
 | cons c cs ih =>
  intro ws hk h v hv;obtain ⟨w1,w2,rfl,h2,h3⟩:=h;rw [List.all_cons,Jh] at hk;rcases List.mem_append.1 hv with hv | hv
  ·cases hs : Qh c with
   | true=>
    cases c with
    | sg n e xs=>
     obtain ⟨g1,g2,g3⟩:=h2;obtain ⟨k,hkk⟩:=List.getElem?_of_mem hv;have hkl:k<n*e.n:=by rw [←g1];exact Jx hkk
     have hpos:0<e.n:=by
      rcases Nat.eq_zero_or_pos e.n with q | q
      ·rw [q,Nat.mul_zero] at hkl;omega
      ·exact q
     have hq:k / e.n<n:=Nat.div_lt_of_lt_mul (by rw [Nat.mul_comm];exact hkl)
     have hmod:=Nat.mod_lt k hpos;have hdiv:=Nat.div_add_mod k e.n;have hr:=g3 (k / e.n) xs[k / e.n] (by simp [g2,hq]);refine Jq7 hT hr v ?_;refine JW (i:=k % e.n) ?_;rw [List.getElem?_take,Jf hmod,List.getElem?_drop,show k / e.n*e.n+k % e.n=k by rw [Nat.mul_comm];exact hdiv]
     exact hkk
    | mt ks=>
     have e1:w1 = []:=h2;rw [e1] at hv;cases hv
    | _=>cases hs
   | false=>
    obtain ⟨w,rfl,h4⟩:=(JaK hs).1 h2;rw [List.mem_singleton] at hv;subst hv;have hkn:=hk.1;rw [hs,Bool.false_or] at hkn;refine Jb5 (s := .v (.s c)) hT h4 ?_;cases c <;> first | rfl | cases hkn
  ·exact ih hk.2 h3 v hv
theorem Jiv [Orc P] (hC : JaU P C) {id : Nat} {ops : Array Oper} (D : List Deferred) {K : VS → Option ρ} {r : ρ} {tm : Array Value} {ds : List Deferred} (hv : JtN P C ops vs K = some r) (h : Rel P S0 env m ⟨tm, ds⟩ vs) (hb : Jf9 (vs.cx S0 env m)) :
  ∃tm1 m1 env1 vs1,Ev.To P (.region id ops true) ⟨tm,ds++D⟩ m .normal ⟨tm1,ds++D⟩ m1∧Rel P S0 env1 m1 ⟨tm1,ds⟩ vs1∧Stp (vs.cx S0 env m) (vs1.cx S0 env1 m1)∧tm1.size=tm.size∧K vs1=some r:=by
 unfold JtN at hv;split at hv
 ·rename_i hc;simp only [Jh] at hc;obtain ⟨⟨⟨⟨c1, c2⟩, c3⟩, c4⟩, c5⟩ := hc;obtain ⟨hv, hne⟩ := Jnk hv;rw [List.range_eq_range'] at hv
  let B0:Nat→Option Nat:=fun t=>Jf6 (tm.getD t undef)
  have hdp : ∀ t0 b, Jl2 vs t0 = true → B0 t0 = some b → b < m.nxt ∧ ∀ c e, m.row b = some (c, e) → ∀ v ∈ c.toList, Jc1 m.nxt v := by
   intro t0 b hd hb0;unfold Jl2 at hd;split at hd
   ·rename_i j off hsl;split at hd
    ·rename_i cs hcs;cases hsg:cs.any Qh with
     | true=>
      rw [hsg] at hd;simp only [Jk] at hd;have hrep:=h.sl t0;rw [hsl] at hrep;obtain ⟨hjl,i,hval,hil,hib⟩:=hrep;have hb1:b=i:=by
       have:B0 t0=some i:=by show Jf6 (tm.getD t0 undef)=_;rw [show tm.getD t0 undef=_ from hval];rfl
       rw [this] at hb0;cases hb0;rfl
      subst hb1;have hβ:=hib ((JK hcs).trans (Q2 hsg).1);refine ⟨hil,fun c e hrow v hv => ?_⟩;rw [Jh,Option.isNone_iff_eq_none] at hd;obtain ⟨k,c',e',fr,q1,q2,q3,q4,q5,q6⟩:=((h.T.bx j cs hcs).sg hsg).cells hd.1;have hrow':m.row b=some (c',e'):=by rw [hβ];exact JcE q1 q2
      rw [hrow'] at hrow;cases hrow;exact Jq6 h.T hd.2 q6 v hv
     | false=>
     rw [hsg] at hd;simp only [Jl,Jh,Bool.not_eq_true'] at hd;obtain ⟨hrun,hkn⟩:=hd;have hrep:=h.sl t0;rw [hsl] at hrep;obtain ⟨hjl,i,hval,hil,hib⟩:=hrep;have hb1:b=i:=by
      have:B0 t0=some i:=by show Jf6 (tm.getD t0 undef)=_;rw [show tm.getD t0 undef=_ from hval];rfl
      rw [this] at hb0;cases hb0;rfl
     subst hb1;have hβ:=hib ((JK hcs).trans (Qs hrun));refine ⟨hil,fun c e hrow v hv => ?_⟩;obtain ⟨k,c',e',fr,q1,q2,q3,q4,q5,q6⟩:=(h.T.bx j cs hcs).cel hrun;have hrow':m.row b=some (c',e'):=by rw [hβ];exact JcE q1 q2
     rw [hrow'] at hrow;cases hrow;obtain ⟨n,hn⟩:=List.getElem?_of_mem hv;have hlen:=Qe q6;have hnl:n<cs.length:=by rw [hlen];exact Jx hn
     obtain ⟨u,hu,huc⟩:=Xr q6 (k:=n) (c:=cs[n]) (by simp [hnl]);rw [hn] at hu;cases hu;rw [List.all_eq_true] at hkn;have hk:=hkn cs[n] (List.getElem_mem hnl);refine Jb5 (s := .v (.s cs[n])) h.T huc ?_;cases hcc:cs[n] <;> first | rfl | (rw [hcc] at hk;cases hk)
    ·cases hd
   ·rename_i e j hsl;split at hd
    ·rename_i own e' xs hj;have hrep := h.sl t0;rw [hsl] at hrep;obtain ⟨k1, k2⟩ := JcR (e' := e) h.T hj hrep;by_cases hne : xs = []
     ·rw [show B0 t0=Jf6 (tm.getD t0 undef) from rfl,Jl6 (k1 hne)] at hb0;cases hb0
     ·have hw:=k2 hne;have hpos:0<xs.length:=JR.2 hne;have hb1:b=env.β j:=by
       have:B0 t0=some (env.β j):=by
        show Jf6 (tm.getD t0 undef)=_;rw [show tm.getD t0 undef=_ from hw];simp only [Jf6];rw [Jd (by omega)];rfl
       rw [this] at hb0;cases hb0;rfl
      rw [hb1];exact JoD h hj hne
    ·cases hd
   ·rename_i e j o n cp hsl;split at hd
    ·rename_i own e' xs hj;have hrep:=h.sl t0;rw [hsl] at hrep;have hL:(vs.cx S0 env m).len j=some xs.length:=by rw [h.T.len];exact QN hj
     obtain ⟨_,_,u3⟩:=hrep;obtain ⟨_,w2,w3⟩:=u3 _ hL;by_cases hne:xs = []
     ·rw [show B0 t0=Jf6 (tm.getD t0 undef) from rfl,Jl6 (w2 (by rw [hne];rfl))] at hb0;cases hb0
     ·have hpos:0<xs.length:=JR.2 hne;obtain ⟨sp,cap,hw,_⟩:=w3 hpos;have hb1:b=env.β j:=by
       have hb2:Jf6 (tm.getD t0 undef)=some b:=hb0;rw [show tm.getD t0 undef=_ from hw] at hb2;simp only [Jf6] at hb2;split at hb2
       ·cases hb2
       ·cases hb2;rfl
      rw [hb1];exact JoD h hj hne
    ·cases hd
   ·cases hd
  have hlate : ∀j i,j<ops.size→i∈Jcc P ops (QH ops.toList []) j→i<j ∧ ∃t0 t1,JbN ops i lookT=some t0∧JbN ops j Jkf=some t1 ∧ ∀b0 b1,B0 t0=some b0→B0 t1=some b1→b0≠b1 ∧ ∃x,m.get b1=some x∧x.root=b1:=by
   intro j i hj hi;refine ⟨JiX hi, ?_⟩;rw [List.all_eq_true] at c5;have h5:=c5 j (List.mem_range.2 hj);unfold Js0 at h5;rw [List.all_eq_true] at h5;have h6:=h5 i hi;split at h6
   ·rename_i t0 t1 e0 e1;refine ⟨t0,t1,e0,e1,fun b0 b1 hb0 hb1 => ?_⟩;have hn:=hne j (List.mem_range.2 hj) t1 (fun q=>by rw [q] at hi;cases hi) e1
    exact JoA h h6 hn b0 b1 hb0 hb1
   ·cases h6
  obtain ⟨tm1,m1,env1,vs1,g0,⟨n0,g1⟩,g2,g3,g4,g5⟩:=Jj4 (ff:=XQ P ops (QH ops.toList [])) (lf:=Jcc P ops (QH ops.toList [])) hC D (fun i hi hf j hj=>by
   unfold Jtn at c3;rw [List.all_eq_true] at c3;have:=c3 i (List.mem_range.2 hi)
   rw [hf,hj] at this;refine ⟨fun x hx => ?_,fun o ho hlk => ?_⟩
   ·rw [hx] at this;simp only [Bool.not_true,Bool.false_or,Jh,decide_eq_true_eq] at this;exact this
   ·cases hx:Jcb o with
    | some x=>exact ⟨x,rfl⟩
    | none=>
     rw [ho] at this;simp only [Jb,hx,hlk,Bool.not_true,Bool.false_or] at this;cases this) (fun i o ho c hop=>by
   unfold noPan at c4;rw [Array.all_eq_true'] at c4;have:=c4 o (J2 ho)
   rw [hop] at this;cases this) (dp:=Jl2 vs) (m0:=m) (B0:=B0) hdp hlate ops.size 0 (by omega) (ss:=fun _=>0) (tt:=fun _=>none) hv h hb (fun j hj=>by omega) (fun t t0 ht q hq=>by
    cases ht;exact hq) (fun _ i _=>rfl) ⟨Je _,fun j hj=>by omega⟩ (fun i hi=>by omega) (fun b x hx hr=>⟨x,hx,hr⟩)
  refine ⟨tm1,m1,env1,vs1,⟨n0+1,fun k hk => ?_⟩,g2,g3,g4,g5⟩;obtain ⟨k,rfl⟩ : ∃j,k=j+1:=⟨k - 1,by omega⟩;simp only [E,if_true];unfold Jb0;have hbar:m.bar≤m.nxt:=h.T.bar;rw [Jf (by rw [c1,c2];simpa using hbar)]
  dsimp only;rw [List.range_eq_range',g1 k (by omega)];dsimp only;rw [←g0]
 ·cases hv
theorem JhR {l:List Nat} {j:Nat}:JrS l j=true↔j∈l:=by
 induction l with
 | nil=>simp [JrS]
 | cons b l ih=>
  simp only [JrS,JJ];cases hb:Nat.beq j b with
  | true=>simp [Jr hb]
  | false=>simp [Nat.ne_of_beq_eq_false hb,ih]
theorem Jr5 {l:List Oper} {o:Oper} {d:Nat} (h:o∈l) (hd:o.dst=some d):d∈Jtm l:=by
 induction l with
 | nil=>cases h
 | cons p l ih=>
  simp only [Jtm];rcases JJ.1 h with rfl | h
  ·rw [hd];simp
  ·split
   ·exact J5 _ (ih h)
   ·exact ih h
def Unw (w:List Nat) (a a1:Act):Prop:=a1.tmps.size=a.tmps.size ∧ ∀i,JrS w i=false→a1.tmps.getD i undef=a.tmps.getD i undef
theorem Unw.refl (w:List Nat) (a:Act):Unw w a a:=⟨rfl,fun _ _=>rfl⟩
theorem Unw.trans {w:List Nat} {a b c:Act} (h:Unw w a b) (k:Unw w b c):Unw w a c:=⟨k.1.trans h.1,fun i hi=>(k.2 i hi).trans (h.2 i hi)⟩
theorem Unw.mono {w w':List Nat} {a b:Act} (h:Unw w a b) (hw : ∀i,i∈w→i∈w'):Unw w' a b:=⟨h.1,fun i hi=>h.2 i (by
 cases hq:JrS w i with
 | false=>rfl
 | true=>rw [JhR.2 (hw i (JhR.1 hq))] at hi;cases hi)⟩
theorem Unw.put {ops:Array Oper} {i:Nat} {o:Oper} (ho:ops[i]? = some o) (a:Act) (v:Value):Unw (Jtm ops.toList) a (a.put o.dst v):=by
 refine ⟨Jau _ _ _,fun j hj => ?_⟩;obtain ⟨tm,ds⟩:=a;refine Jhs tm ds v ?_;intro hd;have:=Jr5 (Array.mem_toList_iff.2 (J2 ho)) hd
 rw [JhR.2 this] at hj;cases hj
theorem JmW {Cf : JbL} {ops : Array Oper} : ∀ {l : List Nat} {a a1 : Act} {m m1 : M} {e : Out}, Q5 P Cf ops l a m = some (e, a1, m1) → Unw (Jtm ops.toList) a a1 := by
 intro l;induction l with
 | nil=>intro a a1 m m1 e h;simp only [Q5,Jg,Jm] at h;obtain ⟨_,rfl,_⟩:=h;exact Unw.refl _ _
 | cons i l ih =>
  intro a a1 m m1 e h;simp only [Q5] at h;split at h
  ·cases h
  ·rename_i o ho;split at h
   ·split at h
    ·split at h
     ·exact (Unw.put ho a _).trans (ih h)
     ·exact (Unw.put ho a _).trans (ih h)
     ·have:=ih h
      refine Unw.trans ?_ this;exact Unw.put ho _ _
     ·split at h
      ·exact (Unw.put ho a _).trans (ih h)
      ·cases h;exact Unw.refl _ _
      ·cases h
     ·cases h;exact Unw.refl _ _
     ·cases h
    ·cases h
   ·exact (Unw.put ho a _).trans (ih h)
theorem Jq4 {Cf:JbL} {ops:Array Oper} {β:Nat} {fl:Nat→Bool} {ff:Nat→Option Nat} {lf:Nat→List Nat} : ∀{l:List Nat} {ss:Nat→Nat} {tt:Nat→Option Nat} {a a1:Act} {k k1:Nat} {t t1:Tr},JjK P Cf ops β fl ff lf l ss tt a k t=some (a1,k1,t1)→Unw (Jtm ops.toList) a a1:=by
 intro l;induction l with
 | nil=>intro ss tt a a1 k k1 t t1 h;simp only [JjK,Jg,Jm] at h;obtain ⟨rfl,_⟩:=h;exact Unw.refl _ _
 | cons i l ih=>
  intro ss tt a a1 k k1 t t1 h;simp only [JjK] at h;split at h
  ·cases h
  ·rename_i o ho;split at h
   ·exact (Unw.put ho a _).trans (ih h)
   ·cases h
theorem E_unw [Orc P] : ∀ {n : Nat} {c : Code} {a a1 : Act} {m m1 : M} {e : Out}, E P n c a m = some (e, a1, m1) → Unw (JbS c) a a1 := by
 intro n;induction n with
 | zero=>intro c a a1 m m1 e h;cases h
 | succ n ih =>
  intro c a a1 m m1 e h;cases c with
  | region id ops draw=>
   simp only [E] at h;split at h
   ·unfold Jb0 at h;split at h
    ·dsimp only at h;split at h
     ·rename_i hr;cases h;exact Jq4 hr
     ·cases h
    ·cases h
   ·exact JmW h
  | seq x y=>
   simp only [E] at h;split at h
   ·rename_i a2 m2 h1;exact ((ih h1).mono fun i hi=>List.mem_append_left _ hi).trans ((ih h).mono fun i hi=>List.mem_append_right _ hi)
   ·exact (ih h).mono fun i hi=>List.mem_append_left _ hi
  | cond c x y=>
   simp only [E] at h;split at h
   ·split at h
    ·rename_i b hb;cases b with
     | true=>exact (ih h).mono fun i hi=>List.mem_append_left _ hi
     | false=>exact (ih h).mono fun i hi=>List.mem_append_right _ hi
    ·cases h
   ·cases h
  | block id b=>
   simp only [E] at h;split at h
   ·rename_i h1;split at h <;> (cases h;exact ih (c:=b) h1)
   ·exact ih (c:=b) h
  | loop b=>
   simp only [E] at h;split at h
   ·rename_i a2 m2 h1;exact (ih (c:=b) h1).trans (ih (c := .loop b) h)
   ·exact ih (c:=b) h
  | skip=>simp only [E,Jg,Jm] at h;obtain ⟨_,rfl,_⟩:=h;exact Unw.refl _ _
  | label=>simp only [E,Jg,Jm] at h;obtain ⟨_,rfl,_⟩:=h;exact Unw.refl _ _
  | exit=>simp only [E,Jg,Jm] at h;obtain ⟨_,rfl,_⟩:=h;exact Unw.refl _ _
  | ret=>simp only [E,Jg,Jm] at h;obtain ⟨_,rfl,_⟩:=h;exact Unw.refl _ _
  | _=>cases h
theorem To.unw [Orc P] {c:Code} (h:Ev.To P c a m e a1 m1):Unw (JbS c) a a1:=by
 obtain ⟨n,h⟩:=h;exact E_unw (h n (Je _))
theorem Jkv : ∀ {pl : List (Nat × Pt)} {bf : List Ty} {env : Env} {vs vs1 : VS}, Rel P S0 env m a vs → Je9 pl bf vs = vs1 → ∃ env1, Rel P S0 env1 m a vs1 ∧ Stp (vs.cx S0 env m) (vs1.cx S0 env1 m) := by
 intro pl;induction pl with
 | nil=>intro bf env vs vs1 h hp;cases hp;exact ⟨env,h,Stp.refl h.T.free⟩
 | cons p pl ih =>
  intro bf env vs vs1 h hp;obtain ⟨k,p⟩:=p;cases p with
  | o t =>
   simp only [Je9] at hp;split at hp
   ·rename_i v e hk he;cases hc : (XU v && Nat.blt 0 e.n) with
    | false=>rw [hc] at hp;exact ih h hp
    | true=>
     rw [hc] at hp;simp only [Jk] at hp;simp only [Jh] at hc;obtain ⟨hn,hlt⟩:=hc;obtain ⟨k1,k2,k3⟩:=h.newNil (ty:=e) (JC hlt);have hs:=h.sl k;rw [hk] at hs;have hval:a.tmps.getD k undef = .slice none 0 0:=by rw [hs.1];exact Q7 hn
     have hR:Rel P S0 (env.setτ vs.bf.length none) m a { (vs.put (some k) (.v (.s (.o vs.bf.length)))) with bf:=vs.bf ++ [⟨e, [],true,false⟩] }:=by
      refine ⟨k1.T,k1.size,fun i => ?_,k1.df⟩;show J8 P ((V.newBuf vs e []).2.cx S0 (env.setτ vs.bf.length none) m) (bif Nat.beq i k then _ else vs.sl i) _;cases hb:Nat.beq i k with
      | true=>
       have:=Jr hb
       subst this;rw [hval];exact k3
      | false=>exact k1.sl i
     obtain ⟨env1,g1,g2⟩:=ih hR hp;exact ⟨env1,g1,k2.trans h.T.free g2⟩
   ·exact ih h hp
  | m e t =>
   simp only [Je9] at hp;split at hp
   ·rename_i v hk;cases hc : (XU v && Nat.blt 0 e.n) with
    | false=>rw [hc] at hp;exact ih h hp
    | true=>
     rw [hc] at hp;simp only [Jk] at hp;simp only [Jh] at hc;obtain ⟨hn,hlt⟩:=hc;obtain ⟨k1,k2,k3⟩:=h.newRunE (ty:=e) (v := .slice none 0 0) (JC hlt) (.inl rfl);have hs:=h.sl k;rw [hk] at hs;have hval:a.tmps.getD k undef = .slice none 0 0:=by rw [hs.1];exact Q7 hn
     have hR:Rel P S0 (env.setβ vs.bx.length 0) m a { (vs.put (some k) (.v (.s (.m e vs.bx.length)))) with bx:=vs.bx ++ [[.r true e []]] }:=by
      refine ⟨k1.T,k1.size,fun i => ?_,k1.df⟩;show J8 P ((V.newRun vs e []).2.cx S0 (env.setβ vs.bx.length 0) m) (bif Nat.beq i k then _ else vs.sl i) _;cases hb:Nat.beq i k with
      | true=>
       have:=Jr hb
       subst this;rw [hval];exact k3
      | false=>exact k1.sl i
     obtain ⟨env1,g1,g2⟩:=ih hR hp;exact ⟨env1,g1,k2.trans h.T.free g2⟩
   ·exact ih h hp
  | _=>exact ih h hp
theorem JmS {cs:List Cl} {i q:Nat} (h:J9 cs=false):J9 (QC cs i (.o q))=false:=JcQ rfl h
theorem Jkz {bf : List Ty} {j : Nat} : ∀ {ps : List Pt} {i : Nat} {env : Env} {vs vs1 : VS}, Rel P S0 env m a vs → JdM bf j ps i vs = vs1 → ∃ env1, Rel P S0 env1 m a vs1 ∧ Stp (vs.cx S0 env m) (vs1.cx S0 env1 m) := by
 intro ps;induction ps with
 | nil=>intro i env vs vs1 h hp;cases hp;exact ⟨env,h,Stp.refl h.T.free⟩
 | cons p ps ih =>
  intro i env vs vs1 h hp;cases p with
  | o t =>
   simp only [JdM] at hp;split at hp
   ·rename_i cs e hj he;split at hp
    ·rename_i v hv;cases hc:(XU v && Nat.blt 0 e.n && !(J9 cs)) with
     | false=>rw [hc] at hp;exact ih h hp
     | true=>
      rw [hc] at hp;simp only [Jk] at hp;simp only [Jh,Bool.not_eq_true'] at hc;obtain ⟨⟨hn,hlt⟩,hrun⟩:=hc;obtain ⟨k1,k2,k3⟩:=h.newNil (ty:=e) (JC hlt);have hj1:(V.newBuf vs e []).2.bx[j]? = some cs:=hj;have hns:J9 (QC cs i (.o vs.bf.length))=false:=JmS hrun;obtain ⟨g1,g2⟩:=k1.setBox (ns:=QC cs i (.o vs.bf.length)) hj1 (Qs hrun) ((Qs hns).trans (Qs hrun).symm) ((XN hns).trans (XN hrun).symm) (Wb':=fun _=>False) (Fr2.refl h.T.free) (fun _ w=>w.elim) (Qy.of hns (by
       obtain ⟨k,c,eo,fr,q1,q2,q3,q4,q5,q6⟩:=(k1.T.bx j cs hj1).cel hrun;refine ⟨k,c,eo,fr,q1,q2,q3,q4,q5, ?_⟩;obtain ⟨w,hw,hwc⟩:=Xr q6 hv;have hwn:w = .slice none 0 0:=by rw [hwc.1];exact Q7 hn
       subst hwn;exact JdL q6 hw k3))
      obtain ⟨env1,r1,r2⟩:=ih g1 hp;exact ⟨env1,r1,(k2.trans h.T.free g2).trans h.T.free r2⟩
    ·exact ih h hp
   ·exact ih h hp
  | m e t =>
   simp only [JdM] at hp;split at hp
   ·rename_i cs hj;split at hp
    ·rename_i v hv;cases hc:(XU v && Nat.blt 0 e.n && !(J9 cs)) with
     | false=>rw [hc] at hp;exact ih h hp
     | true=>
      rw [hc] at hp;simp only [Jk] at hp;simp only [Jh,Bool.not_eq_true'] at hc;obtain ⟨⟨hn,hlt⟩,hrun⟩:=hc;obtain ⟨k1,k2,k3⟩:=h.newRunE (ty:=e) (v := .slice none 0 0) (JC hlt) (.inl rfl);have hj1:(V.newRun vs e []).2.bx[j]? = some cs:=by
       show (vs.bx ++ [_])[j]? = _;rw [JF (Jx hj)];exact hj
      have hns:J9 (QC cs i (.m e vs.bx.length))=false:=JcQ rfl hrun;obtain ⟨g1,g2⟩:=k1.setBox (ns:=QC cs i (.m e vs.bx.length)) hj1 (Qs hrun) ((Qs hns).trans (Qs hrun).symm) ((XN hns).trans (XN hrun).symm) (Wb':=fun _=>False) (Fr2.refl h.T.free) (fun _ w=>w.elim) (Qy.of hns (by
       obtain ⟨k,c,eo,fr,q1,q2,q3,q4,q5,q6⟩:=(k1.T.bx j cs hj1).cel hrun;refine ⟨k,c,eo,fr,q1,q2,q3,q4,q5, ?_⟩;obtain ⟨w,hw,hwc⟩:=Xr q6 hv;have hwn:w = .slice none 0 0:=by rw [hwc.1];exact Q7 hn
       subst hwn;exact JdL q6 hw k3))
      obtain ⟨env1,r1,r2⟩:=ih g1 hp;exact ⟨env1,r1,(k2.trans h.T.free g2).trans h.T.free r2⟩
    ·exact ih h hp
   ·exact ih h hp
  | _=>exact ih h hp
theorem Jky {bf:List Ty} : ∀{g:List Nat} {r:List (List Pt)} {env:Env} {vs vs1:VS},Rel P S0 env m a vs→Jt7 bf g r vs=vs1 → ∃env1,Rel P S0 env1 m a vs1∧Stp (vs.cx S0 env m) (vs1.cx S0 env1 m):=by
 intro g;induction g with
 | nil=>intro r env vs vs1 h hp;cases hp;exact ⟨env,h,Stp.refl h.T.free⟩
 | cons j g ih=>
  intro r env vs vs1 h hp;cases r with
  | nil=>cases hp;exact ⟨env,h,Stp.refl h.T.free⟩
  | cons ps r=>
   obtain ⟨env1,k1,k2⟩:=Jkz (bf:=bf) (j:=j) (ps:=ps) (i:=0) h rfl;obtain ⟨env2,g1,g2⟩:=ih k1 hp;exact ⟨env2,g1,k2.trans h.T.free g2⟩
theorem JiO {t:Tm} {env:Env} {vs vs1:VS} (h:Rel P S0 env m a vs) (hp:Jgi t vs=vs1) : ∃env1,Rel P S0 env1 m a vs1∧Stp (vs.cx S0 env m) (vs1.cx S0 env1 m):=by
 unfold Jgi at hp;split at hp
 ·exact Jky h hp
 ·cases hp;exact ⟨env,h,Stp.refl h.T.free⟩
theorem Jkw {pl:List (Nat × Pt)} {bf:List Ty} {env:Env} {vs vs1:VS} (h:Rel P S0 env m a vs) (hp:JoN pl bf vs=vs1) : ∃env1,Rel P S0 env1 m a vs1∧Stp (vs.cx S0 env m) (vs1.cx S0 env1 m):=by
 obtain ⟨env1,k1,k2⟩:=JcZ (pl:=pl) h rfl;obtain ⟨env2,g1,g2⟩:=Jkv k1 hp;exact ⟨env2,g1,k2.trans h.T.free g2⟩
theorem Jsp {vs:VS} {w:List Nat} {av:Nat→Value} (hbase : ∀i,JrS w i=false→J8 P X (vs.sl i) (av i)) : ∀{l:List (Nat × S1)},Qm P X av l → ∀i,J8 P X (Jsq vs w l i) (av i):=by
 intro l;induction l with
 | nil=>
  intro _ i;simp only [Jsq];cases hw:JrS w i with
  | true=>trivial
  | false=>exact hbase i hw
 | cons p l ih=>
  intro h i;obtain ⟨k,s⟩:=p;simp only [Jsq];cases hb:Nat.beq i k with
  | true=>have:=Jr hb;subst this;exact h.1
  | false=>exact ih h.2 i
theorem Jod {vs:VS} {w:List Nat} {q:GH} {K:Out→VS→Option ρ} {r:ρ} : ∀{o:OT} {y:o.E},vout vs w q K o y=some r →
  K (o.out y).1 { (after vs q (o.out y).2.1 (o.out y).2.2).2 with sl:=Jsq vs w (after vs q (o.out y).2.1 (o.out y).2.2).1 }=some r:=by
 intro o;induction o with
 | ret t=>intro y h;exact h
 | exit id t=>intro y h;exact h
 | pnc tid k t=>intro y h;exact h
 | two a b iha ihb=>intro y h;cases y with
  | inl y=>exact iha h
  | inr y=>exact ihb h
def Xb:Code→List Code
 | .seq x y=>Xb x++Xb y
 | .cond _ x y=>Xb x++Xb y
 | .block _ x=>Xb x
 | .loop b => [b]
 | _ => []
theorem JdD [Orc P] (hC : JaU P C) {N : Nat} (D : List Deferred) : ∀ (n : Nat) {c : Code} (hL : ∀ b ∈ Xb c, ∀ con, Jca LO (Xd b) = some con → con.LOK P N b) {K : Out → VS → Option ρ} {r : ρ} {env : Env} {m : M} {tm : Array Value} {ds : List Deferred} {vs : VS},
  Jii P C LO n c vs K=some r→Rel P S0 env m ⟨tm,ds⟩ vs→Jf9 (vs.cx S0 env m)→N≤tm.size →
  ∃e tm1 ds1 m1 env1 vs1,Ev.To P c ⟨tm,ds++D⟩ m e ⟨tm1,ds1++D⟩ m1∧Rel P S0 env1 m1 ⟨tm1,ds1⟩ vs1∧Stp (vs.cx S0 env m) (vs1.cx S0 env1 m1)∧tm1.size=tm.size∧K e vs1=some r:=by
 intro n;induction n generalizing LO with
 | zero=>intro c hL K r env m tm ds vs hv;cases hv
 | succ n ih =>
  intro c hL K r env m tm ds vs hv h hb hN;cases c with
  | skip=>exact ⟨_,tm,ds,m,env,vs,To.skip,h,Stp.refl h.T.free,rfl,hv⟩
  | label=>exact ⟨_,tm,ds,m,env,vs,To.label,h,Stp.refl h.T.free,rfl,hv⟩
  | exit id=>exact ⟨_,tm,ds,m,env,vs,To.exit,h,Stp.refl h.T.free,rfl,hv⟩
  | ret=>exact ⟨_,tm,ds,m,env,vs,To.ret,h,Stp.refl h.T.free,rfl,hv⟩
  | region id ops draw=>
   cases draw with
   | true=>
    simp only [Jii] at hv;obtain ⟨tm1,m1,env1,vs1,g1,g2,g3,g4,g5⟩:=Jiv (id:=id) hC D hv h hb;exact ⟨_,tm1,ds,m1,env1,vs1,g1,g2,g3,g4,g5⟩
   | false=>
    simp only [Jii] at hv;obtain ⟨e,tm1,ds1,m1,env1,vs1,g1,g2,g3,g4,g5⟩:=JmA hC D _ hv h (fun _=>hb);refine ⟨e,tm1,ds1,m1,env1,vs1,To.region rfl g1,g2,g3,g4, ?_⟩;rcases g5 with ⟨rfl,g5⟩|⟨w,rfl,g5⟩ <;> exact g5
  | seq x y=>
   simp only [Jii] at hv;obtain ⟨e,tm1,ds1,m1,env1,vs1,g1,g2,g3,g4,g5⟩:=ih (fun b hb=>hL b (List.mem_append_left _ hb)) hv h hb hN;by_cases he:e = .normal
   ·subst he;dsimp only at g5;obtain ⟨e2,tm2,ds2,m2,env2,vs2,k1,k2,k3,k4,k5⟩:=ih (fun b hb=>hL b (List.mem_append_right _ hb)) g5 g2 (g3.bars h.T.bar hb) (by rw [g4];exact hN)
    exact ⟨e2,tm2,ds2,m2,env2,vs2,To.seq g1 k1,k2,g3.trans h.T.free k3,k4.trans g4,k5⟩
   ·refine ⟨e,tm1,ds1,m1,env1,vs1,To.seq_out g1 he,g2,g3,g4, ?_⟩;cases e <;> first | exact absurd rfl he | exact g5
  | cond c x y =>
   simp only [Jii] at hv;split at hv
   ·rename_i hok;split at hv
    ·rename_i b hcv;have hrc:=QE h c;rw [hcv] at hrc;have hev:(⟨tm,ds++D⟩:Act).eval c = .bool b:=by rw [QU tm (ds++D) ds];exact hrc.1
     have hset:Rel P S0 env m ⟨tm,ds⟩ (vs.setO c b)∧(vs.setO c b).cx S0 env m=vs.cx S0 env m:=by
      cases c with
      | tmp t=>exact ⟨h.setB hcv,rfl⟩
      | _=>exact ⟨h,rfl⟩
     obtain ⟨hset,hcxs⟩:=hset;cases b with
     | true=>
      obtain ⟨e,tm1,ds1,m1,env1,vs1,g1,g2,g3,g4,g5⟩:=ih (fun b hb=>hL b (List.mem_append_left _ hb)) hv hset (by rw [hcxs];exact hb) hN
      rw [hcxs] at g3;exact ⟨e,tm1,ds1,m1,env1,vs1,To.cond hok hev g1,g2,g3,g4,g5⟩
     | false=>
      obtain ⟨e,tm1,ds1,m1,env1,vs1,g1,g2,g3,g4,g5⟩:=ih (fun b hb=>hL b (List.mem_append_right _ hb)) hv hset (by rw [hcxs];exact hb) hN
      rw [hcxs] at g3;exact ⟨e,tm1,ds1,m1,env1,vs1,To.cond hok hev g1,g2,g3,g4,g5⟩
    ·cases hv
   ·cases hv
  | block id b=>
   simp only [Jii] at hv;obtain ⟨e,tm1,ds1,m1,env1,vs1,g1,g2,g3,g4,g5⟩:=ih (c:=b) hL hv h hb hN;by_cases he : ∃id',e = .exit id'
   ·obtain ⟨id',rfl⟩:=he;dsimp only at g5;cases hq:Nat.beq id' id with
    | true=>
     rw [hq] at g5;have:=Jr hq
     subst this;exact ⟨_,tm1,ds1,m1,env1,vs1,To.block g1,g2,g3,g4,g5⟩
    | false=>
     rw [hq] at g5;exact ⟨_,tm1,ds1,m1,env1,vs1,To.block_out g1 (by intro h2;cases h2;exact Nat.ne_of_beq_eq_false hq rfl),g2,g3,g4,g5⟩
   ·refine ⟨e,tm1,ds1,m1,env1,vs1,To.block_out g1 (fun h2=>he ⟨_,h2⟩),g2,g3,g4, ?_⟩;cases e <;> first | exact absurd ⟨_,rfl⟩ he | exact g5
  | loop b =>
   simp only [Jii] at hv;split at hv
   ·rename_i con hcon;have hok := hL b (by simp [Xb]) con hcon;obtain ⟨env', h1, hs1⟩ : ∃ env1, Rel P S0 env1 m ⟨tm, ds⟩ (Jgi con.ins (JoN con.ins.sl con.ins.bf vs)) ∧ Stp (vs.cx S0 env m) ((Jgi con.ins (JoN con.ins.sl con.ins.bf vs)).cx S0 env1 m) := by
     obtain ⟨e1,a1,a2⟩:=Jkw (pl:=con.ins.sl) (bf:=con.ins.bf) h rfl;obtain ⟨e2,b1,b2⟩:=JiO (t:=con.ins) a1 rfl;exact ⟨e2,b1,a2.trans h.T.free b2⟩
    generalize Jgi con.ins (JoN con.ins.sl con.ins.bf vs)=vs1 at hv h1 hs1;split at hv
    ·rename_i x q hm;obtain ⟨g1,g2,g3,g4,g5,g6,g7,g8,g9,g10⟩:=Jbk (X:=vs1.cx S0 env' m) h1.T rfl rfl (av:=fun i=>tm.getD i undef) (fun p _=>h1.sl p.1) hm (p:=q.g ≠ []) (fun w=>w) (S0:=vs1.S S0 env') (fun i w=>w) 0;obtain ⟨f1,f2,f3,f4⟩:=Jb7 (p:=q.g ≠ []) (S0:=S0) (env:=env') (m:=m) (vs:=vs1) (x:=undef) g3 g7 g5;simp only [Jp] at hv
     obtain ⟨y,hy,hv⟩:=hv;have hbars:Jf9 (con.ins.cx x (vs1.S S0 env') (env'.sub q (q.g ≠ [])) m):=by
      intro i w;rcases f4 i w with ⟨k',j,h3,hh3,h4⟩|⟨_,h3⟩
      ·exact (hs1.bars h.T.bar hb) i (.inl ⟨j,(g8 k' j h3).1,show JM vs1.bx j=true by rw [←(g8 k' j h3).2.1];exact hh3,h4⟩)
      ·exact (hs1.bars h.T.bar hb) i (.inr h3)
     obtain ⟨a1,m1,env2,hto,hend,hne,hdf,hret⟩:=hok x y hy (vs1.S S0 env') (env'.sub q (q.g ≠ [])) m ⟨tm,ds++D⟩ hN g1 hbars g2;obtain ⟨r1,r2,r3⟩:=Jud (env1:=env2) h1.T (fun k j hk=>(g8 k j hk).1) f3 g9 (Xc:=con.ins.cx x (vs1.S S0 env') (env'.sub q (q.g ≠ [])) m) rfl f1 rfl (fun k j hk=>(g8 k j hk).2.1) (fun k j hk=>(g8 k j hk).2.2) f2 hend;obtain ⟨tm1,df1⟩:=a1;have hdf':df1=ds++D:=hdf
     subst hdf';have hun:=To.unw hto;refine ⟨_,tm1,ds,m1,_,{ (after vs1 q (con.out.out y).2.1 (con.out.out y).2.2).2 with sl:=Jsq vs1 (JbS b) (after vs1 q (con.out.out y).2.1 (con.out.out y).2.2).1 },hto, ?_,hs1.trans h.T.free r2,hun.1,Jod hv⟩;refine ⟨r1, ?_,fun i => ?_,h1.df.le r2.le⟩
     ·show vs1.N≤tm1.size;have:=hun.1
      dsimp only at this;rw [this];exact h1.size
     ·exact Jsp (w:=JbS b) (av:=fun i=>tm1.getD i undef) (fun i hi=>by
       have:=hun.2 i hi
       dsimp only at this;rw [this];exact (h1.sl i).le r2.le) (JtW r3 hret) i
    ·cases hv
   ·cases hu:Jlr C b with
    | false=>rw [hu] at hv;cases hv
    | true=>
     rw [hu] at hv;simp only [Jk] at hv;obtain ⟨e,tm1,ds1,m1,env1,vs1,g1,g2,g3,g4,g5⟩:=ih (LO := []) (c:=b) (fun _ _ _ q=>by cases q) hv h hb hN;by_cases he:e = .normal
     ·subst he;dsimp only at g5;obtain ⟨e2,tm2,ds2,m2,env2,vs2,k1,k2,k3,k4,k5⟩:=ih (LO:=LO) (c := .loop b) hL g5 g2 (g3.bars h.T.bar hb) (by rw [g4];exact hN)
      exact ⟨e2,tm2,ds2,m2,env2,vs2,To.loop g1 k1,k2,g3.trans h.T.free k3,k4.trans g4,k5⟩
     ·refine ⟨e,tm1,ds1,m1,env1,vs1,To.loop_out g1 he,g2,g3,g4, ?_⟩;cases e <;> first | exact absurd rfl he | exact g5
  | _=>cases hv
end Go.IM.V
namespace Go.IM.V
open Go Go.IM
variable {P:Program} {m m1 m2:M} {S0:Nat→Prop} {env env1 env2:Env} {a a1:Act} {vs vs1:VS} {X Y:Cx} {ρ:Type} {C LO:Tab} {e:Out}
theorem OT.mat_some : ∀ {o : OT} {out : Out} {acc : Nat → Sl} {vs : VS} {g : List Nat} {y : o.E}, o.mat out acc vs g = some y → (o.out y).1 = out ∧ (∃ q, (o.out y).2.1.mat acc vs g = some ((o.out y).2.2, q)) ∧ out ≠ .normal ∧ (out = .ret → ∀ n, o.keys n = true → (o.out y).2.1.sl.map (·.1) = List.range n) := by
 intro o;induction o with
 | ret t=>
  intro out acc vs g y h;cases out with
  | ret=>
   simp only [OT.mat,Ja] at h;obtain ⟨⟨z,q⟩,h1,rfl⟩:=h;exact ⟨rfl,⟨q,h1⟩,by simp,fun _ n hn=>by show t.sl.map (·.1)=_;simpa [OT.keys] using hn⟩
  | _=>simp [OT.mat] at h
 | exit id t=>
  intro out acc vs g y h;cases out with
  | exit id'=>
   simp only [OT.mat] at h;cases hb:Nat.beq id id' with
   | false=>rw [hb] at h;cases h
   | true=>
    rw [hb] at h;simp only [Jk,Ja] at h;obtain ⟨⟨z,q⟩,h1,rfl⟩:=h;have:=Jr hb
    subst this;exact ⟨rfl,⟨q,h1⟩,by simp,fun h=>by cases h⟩
  | _=>simp [OT.mat] at h
 | pnc tid k t =>
  intro out acc vs g y h;cases out with
  | pnc v=>
   cases v <;> first | (simp [OT.mat] at h;done) | skip
   rename_i tid' w;cases w <;> first | (simp [OT.mat] at h;done) | skip
   rename_i b;simp only [OT.mat] at h;split at h
   ·rename_i k' n hl;split at h
    ·rename_i hc;obtain ⟨rfl,rfl⟩:=hc;simp only [Ja] at h;obtain ⟨⟨z,q⟩,h1,rfl⟩:=h;refine ⟨?_,⟨q,h1⟩,by simp,fun h=>by cases h⟩;show Out.pnc (.iface tid (.agg #[.int k n]))=_;have:b = #[.int k n]:=by apply Array.ext';exact hl
     rw [this]
    ·cases h
   ·cases h
  | _=>simp [OT.mat] at h
 | two a b iha ihb=>
  intro out acc vs g y h;simp only [OT.mat] at h;split at h
  ·rename_i x hx;cases h;obtain ⟨h1,h2,h3,h4⟩:=iha hx;exact ⟨h1,h2,h3,fun hr n hn=>h4 hr n (by simp only [OT.keys,Jh] at hn;exact hn.1)⟩
  ·simp only [Ja] at h;obtain ⟨x,hx,rfl⟩:=h;obtain ⟨h1,h2,h3,h4⟩:=ihb hx;exact ⟨h1,h2,h3,fun hr n hn=>h4 hr n (by simp only [OT.keys,Jh] at hn;exact hn.2)⟩
theorem JbJ.of_mat {Xs:Cx} (hs:Stp Xs (vs1.cx S0 env1 m1)) (hT:Jao P (vs1.cx S0 env1 m1) vs1.bx) {n:Nat} (hn:Xs.nb=n) {t:Tm} {acc:Nat→Sl} {av:Nat→Value} (hacc : ∀p∈t.sl,J8 P (vs1.cx S0 env1 m1) (acc p.1) (av p.1)) {x:t.E} {q:GH} (hm:t.mat acc vs1 (JrN n)=some (x,q)) :
  JbJ P Xs S0 (env1.sub q True) m1 t x∧Qm P (t.cx x S0 (env1.sub q True) m1) av (slI id id t.sl x.1):=by
 obtain ⟨g1,g2,g3,g4,g5,g6,g7,g8,g9,g10⟩:=Jbk (X:=vs1.cx S0 env1 m1) hT rfl rfl hacc hm (p:=True) (fun _=>trivial) (S0:=S0) (fun i w => .inl w) 0;obtain ⟨f1,f2,f3,f4⟩:=Jb7 (p:=True) (S0:=S0) (env:=env1) (m:=m1) (vs:=vs1) (x:=undef) g3 g7 g5;have hjj : ∀j,j<Xs.nb→q.g[j]? = some j:=fun j hj=>g6 j j (by unfold JrN;rw [List.getElem?_range (by rw [←hn];exact hj)])
 refine ⟨⟨hs.fr,g1,fun j hj => ?_,fun i w => ?_,fun i w => ?_,fun j hj w => ?_,fun j L hj w => ?_,fun i w=>⟨trivial,hs.le.φ i w⟩⟩,g2⟩
 ·rw [hn] at hj;have hq:q.g[j]? = some j:=g6 j j (by unfold JrN;rw [List.getElem?_range hj])
  refine ⟨by rw [←g3];exact Jx hq,fun _ => ?_⟩
  have:(env1.sub q True).β j=env1.β j:=by show (match q.g[j]? with | some j=>_ | none=>_)=_;rw [hq]
  rw [this];exact hs.le.β j (by rw [hn];exact hj)
 ·rcases f4 i w with ⟨k,j,h1,h3,h2⟩|⟨_,h1⟩
  ·exact hs.wb i (.inl ⟨j,(g8 k j h1).1,show JM vs1.bx j=true by rw [←(g8 k j h1).2.1];exact h3,h2⟩)
  ·exact hs.wb i (.inr h1)
 ·obtain ⟨k,j,h1,h2⟩:=f2 i w;obtain ⟨b,h3,h4⟩:=f3 k j h1;exact hs.wl i ⟨j,b,h3,h4,h2⟩
 ·refine hs.le.has j hj ?_;show JM vs1.bx j=true;rw [←(g8 j j (hjj j hj)).2.1];exact w
 ·refine hs.le.len j L hj ?_;show lenOf vs1.bx j=some L;rw [←(g8 j j (hjj j hj)).2.2];exact w
theorem Jt4 {o : OT} {g : List Nat} : ∀ {n : Nat}, reb o g n = true → ∀ j < n, g[j]? = some j ∨ gAt j o = true := by
 intro n;induction n with
 | zero=>intro _ j hj;omega
 | succ n ih=>
  intro h j hj;simp only [reb,Jh,Bool.or_eq_true] at h;by_cases hjn:j=n
  ·subst hjn;rcases h.1 with q | q
   ·left;split at q
    ·rename_i j' hj';rw [hj',Jr q]
    ·cases q
   ·exact .inr q
  ·exact ih h.2 j (by omega)
theorem JkT : ∀{o:OT} (y:o.E) {k:Nat},gAt k o=true→(o.out y).2.1.bx[k]? = some [.g]
 | .ret t,y,k,h | .exit _ t,y,k,h=>by
  simp only [gAt] at h;split at h
  ·rename_i hq;exact hq
  ·cases h
 | .pnc _ _ t,y,k,h=>by
  simp only [gAt] at h;split at h
  ·rename_i hq;exact hq
  ·cases h
 | .two a b,.inl y,k,h=>by
  simp only [gAt,Jh] at h;exact JkT (o:=a) y h.1
 | .two a b,.inr y,k,h=>by
  simp only [gAt,Jh] at h;exact JkT (o:=b) y h.2
theorem bxI_g : ∀{l:List (List Pt)} {x:BxE l} {k:Nat},l[k]? = some [.g]→(bxI id id l x)[k]? = some [.g]:=by
 intro l;induction l with
 | nil=>intro x k h;cases h
 | cons p l ih=>
  intro x k h;cases k with
  | zero=>
   simp only [List.getElem?_cons_zero,Jg] at h;subst h;rfl
  | succ k=>exact ih (by simpa using h)
theorem g_inst {t:Tm} {y:t.E} {k:Nat} (h:t.bx[k]? = some [.g]):JM (t.inst 0 y).bx k=false∧lenOf (t.inst 0 y).bx k=none:=by
 have:(t.inst 0 y).bx[k]? = some [.g]:=by
  show (bxI id id t.bx y.2.1)[k]? = some [.g];exact bxI_g h
 exact ⟨by rw [JK this];rfl,by unfold lenOf;rw [this];rfl⟩
theorem Jb3 {o : OT} : ∀ {n : Nat} {env : Env} {vs vs1 : VS}, Rel P S0 env m a vs → Jd7 o n vs = vs1 → ∃ env1, Rel P S0 env1 m a vs1 ∧ Stp (vs.cx S0 env m) (vs1.cx S0 env1 m) := by
 intro n;induction n with
 | zero=>intro env vs vs1 h hp;cases hp;exact ⟨env,h,Stp.refl h.T.free⟩
 | succ n ih=>
  intro env vs vs1 h hp;simp only [Jd7] at hp;split at hp
  ·rename_i own e xs hb;cases hg:gAt n o with
   | false=>rw [hg] at hp;exact ih h hp
   | true=>
    rw [hg] at hp;obtain ⟨env1,k1,k2⟩:=h.move hb;obtain ⟨env2,g1,g2⟩:=ih k1 hp;exact ⟨env2,g1,k2.trans h.T.free g2⟩
  ·exact ih h hp
theorem JbJ.rebind {Xs:Cx} (hs:Stp Xs (vs1.cx S0 env1 m1)) (hT:Jao P (vs1.cx S0 env1 m1) vs1.bx) (hf:JdB Xs.m) {n:Nat} (hn:Xs.nb=n) {t:Tm} (ht:t.bx.length=n) {acc:Nat→Sl} {av:Nat→Value} (hacc : ∀p∈t.sl,J8 P (vs1.cx S0 env1 m1) (acc p.1) (av p.1)) {x:t.E} {q:GH} (hm:t.mat acc vs1 []=some (x,q)) :
  Jao P (t.cx x S0 (env1.sub q True) m1) (t.inst 0 x).bx∧Qm P (t.cx x S0 (env1.sub q True) m1) av (slI id id t.sl x.1)∧(∀i,Wb (t.cx x S0 (env1.sub q True) m1) i→Wb Xs i∨Xs.m.nxt≤i) ∧
  ∀{t2:Tm} {y:t2.E} {env2:Env} {m2:M},(∀j<n,q.g[j]? = some j∨(JM (t2.inst 0 y).bx j=false∧lenOf (t2.inst 0 y).bx j=none))→JbJ P (t.cx x S0 (env1.sub q True) m1) S0 env2 m2 t2 y→JbJ P Xs S0 env2 m2 t2 y:=by
 obtain ⟨g1,g2,g3,g4,g5,g6,g7,g8,g9,g10⟩:=Jbk (X:=vs1.cx S0 env1 m1) hT rfl rfl hacc hm (p:=True) (fun _=>trivial) (S0:=S0) (fun i w => .inl w) 0;obtain ⟨f1,f2,f3,f4⟩:=Jb7 (p:=True) (S0:=S0) (env:=env1) (m:=m1) (vs:=vs1) (x:=undef) g3 g7 g5;have hwb : ∀i,Wb (t.cx x S0 (env1.sub q True) m1) i→Wb Xs i∨Xs.m.nxt≤i:=fun i w=>by
  rcases f4 i w with ⟨k,j,h1,h3,h2⟩|⟨_,h1⟩
  ·exact hs.wb i (.inl ⟨j,(g8 k j h1).1,show JM vs1.bx j=true by rw [←(g8 k j h1).2.1];exact h3,h2⟩)
  ·exact hs.wb i (.inr h1)
 have hwl : ∀i,Wl (t.cx x S0 (env1.sub q True) m1) i→Wl Xs i∨Wb Xs i∨Xs.m.nxt≤i:=fun i w=>by
  obtain ⟨k,j,h1,h2⟩:=f2 i w;obtain ⟨b,h3,h4⟩:=f3 k j h1;exact hs.wl i ⟨j,b,h3,h4,h2⟩
 have hnb:(t.cx x S0 (env1.sub q True) m1).nb=n:=by rw [←ht];exact Xl
 refine ⟨g1,g2,hwb,fun {t2 y env2 m2} hg k2 => ?_⟩;refine ⟨hs.fr.trans hf k2.fr hwb hwl,k2.T,fun j hj => ?_,fun i w => ?_,fun i w => ?_,fun j hj w => ?_,fun j L hj w => ?_,fun i w=>k2.φ i ⟨trivial,hs.le.φ i w⟩⟩
 ·obtain ⟨h1,h2⟩:=k2.β j (by rw [hnb,←hn];exact hj)
  refine ⟨h1,fun w => ?_⟩;rcases hg j (by rw [←hn];exact hj) with hq | hq
  ·rw [h2 w];have:(env1.sub q True).β j=env1.β j:=by show (match q.g[j]? with | some j=>_ | none=>_)=_;rw [hq]
   show (env1.sub q True).β j=_;rw [this];exact hs.le.β j hj
  ·have w':JM (t2.inst 0 y).bx j=true:=w
   rw [hq.1] at w';cases w'
 ·rcases k2.wb i w with w | w
  ·exact hwb i w
  ·exact .inr (Jy hs.fr.nxt w)
 ·rcases k2.wl i w with w | w | w
  ·exact hwl i w
  ·rcases hwb i w with w | w
   ·exact .inr (.inl w)
   ·exact .inr (.inr w)
  ·exact .inr (.inr (Jy hs.fr.nxt w))
 ·rcases hg j (by rw [←hn];exact hj) with hq | hq
  ·refine hs.le.has j hj ?_;show JM vs1.bx j=true;rw [←(g8 j j hq).2.1];exact k2.has j (by rw [hnb,←hn];exact hj) w
  ·have w':JM (t2.inst 0 y).bx j=true:=w
   rw [hq.1] at w';cases w'
 ·rcases hg j (by rw [←hn];exact hj) with hq | hq
  ·refine hs.le.len j L hj ?_;show lenOf vs1.bx j=some L;rw [←(g8 j j hq).2.2];exact k2.len j L (by rw [hnb,←hn];exact hj) w
  ·have w':lenOf (t2.inst 0 y).bx j=some L:=w
   rw [hq.2] at w';cases w'
theorem JeL {av:Nat→Value} : ∀{l:List (Nat × S1)},Qm P X av l → ∀i,J8 P X (accL l i) (av i):=by
 intro l;induction l with
 | nil=>intro _ i;trivial
 | cons p l ih=>
  intro h i;obtain ⟨k,s⟩:=p;simp only [accL];cases hb:Nat.beq i k with
  | true=>have:=Jr hb;subst this;exact h.1
  | false=>exact ih h.2 i
theorem Jue [Orc P] (hC : JaU P C) {N : Nat} {b : Code} (hL : ∀ b' ∈ Xb b, ∀ con, Jca LO (Xd b') = some con → con.LOK P N b') (ins : Tm) (out : OT) : Con.LOK P N b ⟨ins, out, Q4 (Job P C LO N b ins out)⟩ := by
 intro x y hF S0 env m a hN hT hB hsl;obtain ⟨n, hn⟩ := Jcr hF;clear hF;obtain ⟨tm, D⟩ := a;have key : ∀ (n : Nat) (x : ins.E) (y : out.E), JkK (Job P C LO N b ins out) n x = some y → ∀ (env : Env) (m : M) (tm : Array Value), N ≤ tm.size → Jao P (ins.cx x S0 env m) (ins.inst 0 x).bx → Jf9 (ins.cx x S0 env m) → Qm P (ins.cx x S0 env m) (fun i => tm.getD i undef) (slI id id ins.sl x.1) →
   ∃tm1 m1 env1,Ev.To P (.loop b) ⟨tm,D⟩ m (out.out y).1 ⟨tm1,D⟩ m1∧JbJ P (ins.cx x S0 env m) S0 env1 m1 (out.out y).2.1 (out.out y).2.2∧(out.out y).1 ≠ .normal ∧
    Qm P ((out.out y).2.1.cx (out.out y).2.2 S0 env1 m1) (fun i=>tm1.getD i undef) (slI id id (out.out y).2.1.sl (out.out y).2.2.1):=by
  intro n;induction n with
  | zero=>intro x y h;cases h
  | succ n ih =>
   intro x y h env m tm hN hT hB hsl;simp only [JkK,Jp] at h;obtain ⟨z,hz,h⟩:=h;have hRel:Rel P S0 env m ⟨tm, []⟩ (ins.inst N x):=⟨hT,hN,fun i=>JeL hsl i,trivial⟩;obtain ⟨e,tm1,ds1,m1,env1,vs1,g1,g2,g3,g4,g5⟩:=JdD hC D 100 hL hz hRel hB hN;split at g5
   ·cases g5
   ·rename_i hdf;have hds : ds1 = [] := by
     have:=g2.df
     rw [hdf] at this;cases ds1 with
     | nil=>rfl
     | cons=>exact this.elim
    subst hds;have hnb:(ins.cx x S0 env m).nb=ins.bx.length:=Xl;split at g5
    ·split at g5
     ·rename_i yy hm;obtain ⟨x',q⟩:=yy;cases g5;simp only [Sum.elim_inl] at h;obtain ⟨hE,hs2⟩:=JbJ.of_mat g3 g2.T hnb (av:=fun i=>tm1.getD i undef) (fun p _=>g2.sl p.1) hm;have hB1:Jf9 (ins.cx x' S0 (env1.sub q True) m1):=by
       intro i w;show m1.bar≤i;rw [hE.fr.bar];rcases hE.wb i w with w | w
       ·exact hB i w
       ·exact Jy hT.bar w
      obtain ⟨tm2,m2,env2,k1,k2,k3,k4⟩:=ih x' y h (env1.sub q True) m1 tm1 (by rw [g4];exact hN) hE.T hB1 hs2
      refine ⟨tm2,m2,env2,To.loop g1 k1, ?_,k3,k4⟩;have hnb':(ins.cx x' S0 (env1.sub q True) m1).nb=ins.bx.length:=Xl
      refine ⟨hE.fr.trans hT.free k2.fr hE.wb hE.wl,k2.T,fun j hj => ?_,fun i w => ?_,fun i w => ?_,fun j hj w=>hE.has j hj (k2.has j (by rw [hnb',←hnb];exact hj) w),fun j L hj w=>hE.len j L hj (k2.len j L (by rw [hnb',←hnb];exact hj) w),fun i w=>k2.φ i (hE.φ i w)⟩
      ·obtain ⟨h1,h2⟩:=k2.β j (by rw [hnb',←hnb];exact hj)
       exact ⟨h1,fun w=>(h2 w).trans ((hE.β j hj).2 (k2.has j (by rw [hnb',←hnb];exact hj) w))⟩
      ·rcases k2.wb i w with w | w
       ·exact hE.wb i w
       ·exact .inr (Jy hE.fr.nxt w)
      ·rcases k2.wl i w with w | w | w
       ·exact hE.wl i w
       ·rcases hE.wb i w with w | w
        ·exact .inr (.inl w)
        ·exact .inr (.inr w)
       ·exact .inr (.inr (Jy hE.fr.nxt w))
     ·skip
      simp only [Jp] at g5;obtain ⟨⟨x',q⟩,hm,hz'⟩:=g5;cases hre:reb out q.g ins.bx.length with
      | false=>rw [hre] at hz';cases hz'
      | true=>
      rw [hre] at hz';simp only [Jk,Jg] at hz';subst hz';simp only [Sum.elim_inl] at h;obtain ⟨hT2,hs2,hwb,hfin⟩:=JbJ.rebind g3 g2.T hT.free hnb rfl (av:=fun i=>tm1.getD i undef) (fun p _=>g2.sl p.1) hm;have hB1:Jf9 (ins.cx x' S0 (env1.sub q True) m1):=by
       intro i w;show m1.bar≤i;rw [show m1.bar=m.bar from g3.fr.bar];rcases hwb i w with w | w
       ·exact hB i w
       ·exact Jy hT.bar w
      obtain ⟨tm2,m2,env2,k1,k2,k3,k4⟩:=ih x' y h (env1.sub q True) m1 tm1 (by rw [g4];exact hN) hT2 hB1 hs2
      refine ⟨tm2,m2,env2,To.loop g1 k1,hfin (fun j hj => ?_) k2,k3,k4⟩;rcases Jt4 hre j hj with w | w
      ·exact .inl w
      ·exact .inr (g_inst (JkT y w))
    ·rename_i hne;obtain ⟨env3,r1,r2⟩:=Jb3 (o:=out) (n:=ins.bx.length) g2 rfl;generalize Jd7 out ins.bx.length vs1=vs3 at *;simp only [Ja] at g5;obtain ⟨y',hm,hz'⟩:=g5;subst hz';simp only [Sum.elim_inr,Jg] at h;subst h;obtain ⟨h1,⟨q,hq⟩,h3,_⟩:=OT.mat_some hm;obtain ⟨hE,hs2⟩:=JbJ.of_mat (g3.trans hT.free r2) r1.T hnb (av:=fun i=>tm1.getD i undef) (fun p _=>r1.sl p.1) hq
     exact ⟨tm1,m1,env3.sub q True,by rw [h1];exact To.loop_out g1 h3,hE,by rw [h1];exact h3,hs2⟩
 obtain ⟨tm1,m1,env1,k1,k2,k3,k4⟩:=key n x y hn env m tm hN hT hB hsl;exact ⟨⟨tm1,D⟩,m1,env1,k1,k2,k3,rfl,k4⟩
theorem Jfz (fn:Func) (args:Array Value) (i:Nat):(frame fn args).tmps.getD i undef=args.getD i undef:=by
 show (args++Array.replicate (fn.ntmps - args.size) undef).getD i undef=_;rw [JH, JH, Array.getElem?_append];split
 ·rfl
 ·rename_i h;rw [Array.getElem?_eq_none (show args.size≤i by omega),Array.getElem?_replicate];split <;> rfl
theorem Jcv (fn:Func) (args:Array Value):fn.ntmps≤(frame fn args).tmps.size:=by
 show _≤(args++Array.replicate (fn.ntmps - args.size) undef).size;rw [Array.size_append,Array.size_replicate];omega
theorem JcL (h : Rel P S0 env m a vs) : ∀ {l : List ResultVar} {ss : List S1}, JjU P vs l = some ss → ss.length = l.length ∧ ∃ ws, Xg P a.tmps m l = some ws ∧ QZ P (vs.cx S0 env m) ss ws := by
 intro l;induction l with
 | nil=>intro ss hv;cases hv;exact ⟨rfl, [],rfl,trivial⟩
 | cons r l ih =>
  intro ss hv;simp only [JjU] at hv;split at hv
  ·rename_i s ss' h1 h2;cases hv;obtain ⟨h3, ws, h4, h5⟩ := ih h2;have : ∃ w, JcX P a.tmps m r = some w ∧ Ja3 P (vs.cx S0 env m) s w := by
    cases r with
    | tmp t=>
     simp only [JtK] at h1;split at h1
     ·rename_i s' hs;cases h1;have:=h.sl t
      rw [hs] at this;exact ⟨_,rfl,this⟩
     ·cases h1
    | cell t ty=>
     simp only [JtK] at h1;split at h1
     ·rename_i s' vs' hl;cases h1;obtain ⟨_,_,v,h6,h7⟩:=JcM h (h.sl t) hl;exact ⟨v,h6,h7⟩
     ·cases h1
   obtain ⟨w,h6,h7⟩:=this;exact ⟨by simp [h3],w::ws,by simp only [Xg];rw [h6,h4],h7,h5⟩
  ·cases hv
theorem Jgf {av:Nat→Value} {ws:List Value} : ∀{l:List (Nat × Pt)} {x:SlE l} {n:Nat},(∀i,i<l.length→(l[i]?).map (·.1)=some (n+i))→n+l.length=ws.length→(∀i,av i=ws[i]?.getD undef)→Qm P X av (slI id id l x)→QZ P X ((slI id id l x).map (·.2)) (ws.drop n):=by
 intro l;induction l with
 | nil=>
  intro x n h1 h2 h3 h4;rw [List.drop_eq_nil_of_le (by simp at h2;omega)]
  trivial
 | cons p l ih=>
  intro x n h1 h2 h3 h4;have hk:p.1=n:=by have:=h1 0 (by simp);simpa using this
  have hnl:n<ws.length:=by simp only [Ju] at h2;omega
  rw [List.drop_eq_getElem_cons hnl];refine ⟨?_,ih (n:=n+1) (fun i hi => ?_) (by simp only [Ju] at h2;omega) h3 h4.2⟩
  ·have:=h4.1
   rw [hk,h3 n] at this;simpa [hnl] using this
  ·have:=h1 (i+1) (by simp;omega)
   simp only [List.getElem?_cons_succ] at this;rw [this];congr 1;omega
theorem Jis [Orc P] (hC : JaU P C) (fn : Func) (tm : Array Value) {K : DM → VS → Option ρ} {r : ρ} : ∀ (l : List (FuncId × List S1)) {ds : List Deferred} {u : DM} {env : Env} {m : M} {vs : VS}, Jd3 P C l u vs K = some r → vs.df = [] → JnD P (vs.cx S0 env m) l ds → Rel P S0 env m ⟨tm, []⟩ vs → Jf9 (vs.cx S0 env m) →
  ∃u' m1 env1 vs1,(∃n0,∀n,n0≤n→Xu P (E P n) fn tm ds u m=Xu P (E P n) fn tm [] u' m1)∧Rel P S0 env1 m1 ⟨tm, []⟩ vs1∧Stp (vs.cx S0 env m) (vs1.cx S0 env1 m1)∧K u' vs1=some r:=by
 intro l;induction l with
 | nil=>
  intro ds u env m vs hv hdf hd h hb;cases ds with
  | nil=>exact ⟨u,m,env,vs,⟨0,fun _ _=>rfl⟩,h,Stp.refl h.T.free,hv⟩
  | cons=>exact hd.elim
 | cons p l ih =>
  intro ds u env m vs hv hdf hd h hb;obtain ⟨k,args⟩:=p;cases ds with
  | nil=>exact hd.elim
  | cons d ds =>
   obtain ⟨htar,hargs,hd⟩:=hd;simp only [Jd3] at hv;split at hv
   case h_2=>cases hv
   rename_i fn2 hfn;split at hv
   case h_2=>cases hv
   rename_i c hc;split at hv
   case isTrue=>cases hv
   rename_i hname;have hframe:Rel P S0 env m (frame fn2 d.args) { N:=fn2.ntmps,sl:=JqN args,bf:=vs.bf,bx:=vs.bx,df := [] }:=by
    refine ⟨h.T,Jcv fn2 d.args,fun i => ?_,trivial⟩;rw [Jfz];have:=Jcy (P:=P) (X:=vs.cx S0 env m) hargs i
    show J8 P (vs.cx S0 env m) (JqN args i) _;simpa using this
   have run : ∀ (c1 : Code) (a1 : Act) (vs1 : VS) (u1 : DM), Rel P S0 env m a1 vs1 → a1.defers = [] → vs1.cx S0 env m = vs.cx S0 env m →
     (∀n,(match (match JaL c with
      | some (d',rest)=>(E P n rest ((frame fn2 (d.args ++ #[])).put (some d') (Q6 u).1) m,(Q6 u).2)
      | none=>(E P n c (frame fn2 (d.args ++ #[])) m,u)) with | (x,y)=>x)=E P n c1 a1 m)→(∀n,(match JaL c with
      | some (d',rest)=>(E P n rest ((frame fn2 (d.args ++ #[])).put (some d') (Q6 u).1) m,(Q6 u).2)
      | none=>(E P n c (frame fn2 (d.args ++ #[])) m,u)).2=u1) →
     (Jii P C [] 100 c1 vs1 fun out vs2=>match out with
      | .normal | .ret=>match vs2.df with
       | []=>match JjU P vs2 fn2.results.toList with
        | some _=>Jd3 P C l (XJ u1) { vs2 with N:=vs.N,sl:=vs.sl,df := [] } K
        | none=>none
       | _=>none
      | _=>none)=some r → ∃u' m1 env1 vs1,(∃n0,∀n,n0≤n→Xu P (E P n) fn tm (d::ds) u m=Xu P (E P n) fn tm [] u' m1)∧Rel P S0 env1 m1 ⟨tm, []⟩ vs1∧Stp (vs.cx S0 env m) (vs1.cx S0 env1 m1)∧K u' vs1=some r:=by
    intro c1 a1 vs1 u1 hR hdef hcx hE1 hE2 hv;obtain ⟨tm1,df1⟩:=a1;obtain rfl:df1 = []:=hdef
    obtain ⟨e,tm2,ds2,m2,env2,vs2,⟨n1,g1⟩,g2,g3,g4,g5⟩:=JdD (LO := []) (N:=0) hC [] 100 (fun b hb con hcon=>by cases hcon) hv hR (by rw [hcx];exact hb) (Nat.zero_le _)
    rw [hcx] at g3;have fin : (match vs2.df with
       | []=>match JjU P vs2 fn2.results.toList with
        | some _=>Jd3 P C l (XJ u1) { vs2 with N:=vs.N,sl:=vs.sl,df := [] } K
        | none=>none
       | _=>none)=some r→(e = .normal∨e = .ret) → ∃u' m1 env1 vs1,(∃n0,∀n,n0≤n→Xu P (E P n) fn tm (d::ds) u m=Xu P (E P n) fn tm [] u' m1)∧Rel P S0 env1 m1 ⟨tm, []⟩ vs1∧Stp (vs.cx S0 env m) (vs1.cx S0 env1 m1)∧K u' vs1=some r:=fun g5 he=>by
     split at g5
     case h_2=>cases g5
     rename_i hdf2;have hds:ds2 = []:=by
      have:=g2.df
      rw [hdf2] at this;cases ds2 with
      | nil=>rfl
      | cons=>exact this.elim
     subst hds;split at g5
     case h_2=>cases g5
     rename_i ss hss;obtain ⟨_,ws,hws,_⟩:=JcL g2 hss;have hR2:Rel P S0 env2 m2 ⟨tm, []⟩ { vs2 with N:=vs.N,sl:=vs.sl,df := [] }:=⟨g2.T,h.size,fun i=>(h.sl i).le g3.le,trivial⟩;obtain ⟨u',m3,env3,vs3,⟨n2,k1⟩,k2,k3,k4⟩:=ih g5 rfl (hd.le g3.le) hR2 (g3.bars h.T.bar hb);refine ⟨u',m3,env3,vs3,⟨n1+n2,fun n hn => ?_⟩,k2,g3.trans h.T.free k3,k4⟩;have hcall:Jji P (E P n) k (d.args ++ #[]) u m=some (XJ u1,m2):=by
      have g1n:=g1 n (by omega);simp only [List.append_nil] at g1n;rw [←hE1 n] at g1n;have hE2n:=hE2 n;unfold Jji;rw [hfn];dsimp only;rw [hc];dsimp only;rw [Jd hname];have hres : ∃v,Qq P fn2 tm2 m2=some v:=by unfold Qq;rw [hws];split <;> first | exact ⟨_,rfl⟩|simp_all
      obtain ⟨v,hv2⟩:=hres;cases hrh:JaL c with
      | none=>
       rw [hrh] at g1n hE2n;dsimp only at g1n hE2n ⊢;subst hE2n;rw [g1n];rcases he with rfl | rfl <;> (dsimp only;rw [hv2])
      | some q=>
       obtain ⟨d',rest⟩:=q;rw [hrh] at g1n hE2n;dsimp only at g1n hE2n ⊢;subst hE2n;rw [g1n];rcases he with rfl | rfl <;> (dsimp only;rw [hv2])
     show Xu P (E P n) fn tm (d::ds) u m=_;simp only [Xu];rw [htar];dsimp only;rw [hcall];exact k1 n (by omega)
    cases e with
    | normal=>exact fin g5 (.inl rfl)
    | ret=>exact fin g5 (.inr rfl)
    | exit id=>cases g5
    | pnc v=>cases g5
   have hap:d.args ++ #[]=d.args:=by simp
   cases hrh:JaL c with
   | none=>
    rw [hrh] at hv;dsimp only at hv;obtain ⟨_,hv⟩:=Qw hv;exact run c (frame fn2 d.args) _ u hframe rfl rfl (fun n=>by rw [hrh,hap]) (fun n=>by rw [hrh]) hv
   | some q=>
    obtain ⟨d',rest⟩:=q;rw [hrh] at hv;dsimp only at hv;obtain ⟨hN,hv⟩:=Qw hv;simp only [Jh] at hN;have hput:=hframe.put (d:=some d') (x:=ofV (Q6 u).1) (v:=(Q6 u).1) hN.2 (JdO _);exact run rest ((frame fn2 d.args).put (some d') (Q6 u).1) _ (Q6 u).2 hput rfl rfl (fun n=>by rw [hrh,hap]) (fun n=>by rw [hrh]) hv
theorem fn_ok [Orc P] (hC : JaU P C) {k : FuncId} {fn : Func} {c : Code} (hor : ∀ args, Orc.O P k args = none) (hf : P.funcs[k]? = some fn) (hb : fn.body = some c) (hL : ∀ b' ∈ Xb c, ∀ con, Jca LO (Xd b') = some con → con.LOK P fn.ntmps b') (ins : Tm) (out : OT) : Con.OK P k ⟨ins, out, vfn P C LO fn c ins out⟩ := by
 intro x y hF S0 env m args hT hB hsl _;have hRel:Rel P S0 env m (frame fn args) (ins.inst fn.ntmps x):=⟨hT,Jcv fn args,fun i=>by rw [Jfz];exact JeL hsl i,trivial⟩
 obtain ⟨e, tm1, ds1, m1, env1, vs1, ⟨n1, g1⟩, g2, g3, g4, g5⟩ := JdD (tm := (frame fn args).tmps) (ds := []) hC [] 100 hL hF hRel hB (Jcv fn args);rw [List.append_nil] at g1;have hnb : (ins.cx x S0 env m).nb = ins.bx.length := Xl;have lv : ∀ (u : DM), Jd3 P C vs1.df u { vs1 with df := [] } (fun u vs => Jd4 P fn ins.bx.length out u vs) = some y → (∀ n, n1 ≤ n → Ja8 P (E P n) k args m = Xu P (E P n) fn tm1 ds1 u m1) →
   ∃c1 m1 env1,Cal P k args m c1 m1∧JbJ P (ins.cx x S0 env m) S0 env1 m1 (out.out y).2.1 (out.out y).2.2∧JsI P ((out.out y).2.1.cx (out.out y).2.2 S0 env1 m1) (out.out y).1 (slI id id (out.out y).2.1.sl (out.out y).2.2.1) c1:=by
  intro u g5 hcall;have hR0:Rel P S0 env1 m1 ⟨tm1, []⟩ { vs1 with df := [] }:=⟨g2.T,g2.size,g2.sl,trivial⟩;obtain ⟨u',m2,env2,vs2,⟨n2,k1⟩,k2,k3,k4⟩:=Jis hC fn tm1 vs1.df g5 rfl g2.df hR0 (g3.bars hT.bar hB);have hst:Stp (ins.cx x S0 env m) (vs2.cx S0 env2 m2):=g3.trans hT.free k3;have hcal : ∀co m3,Xu P (E P (n1+n2)) fn tm1 [] u' m2=some (co,m3)→(∀n,Xu P (E P n) fn tm1 [] u' m2=some (co,m3))→Cal P k args m co m3:=fun co m3 _ hall=>⟨n1+n2,fun n hn=>by rw [hcall n (by omega),k1 n (by omega)];exact hall n⟩
  unfold Jd4 at k4;split at k4
  ·obtain ⟨env2', r1, r2⟩ := Jb3 (o := out) (n := ins.bx.length) k2 rfl;have hst := hst.trans hT.free r2;clear r2;generalize Jd7 out ins.bx.length vs2 = vs3 at *;obtain ⟨hkeys, k4⟩ := Qw k4;simp only [Jp] at k4;obtain ⟨l, hl, hm⟩ := k4;obtain ⟨hlen, ws, hws, hrep0⟩ := JcL r1 hl;have hwl : ws.length = fn.results.size := by
    have h5 : ∀{l:List S1} {ws:List Value},QZ P (vs3.cx S0 env2' m2) l ws→l.length=ws.length:=by
     intro l;induction l with
     | nil=>intro ws h;cases ws with
      | nil=>rfl
      | cons=>exact h.elim
     | cons c l ih=>intro ws h;cases ws with
      | nil=>exact h.elim
      | cons w ws=>simp [ih h.2]
    rw [←h5 hrep0,hlen];simp
   split at hm
   case h_2=>cases hm
   rename_i rt hrt;obtain ⟨env3,g2',g3',hrep⟩:=Jcp (pl:=rt.sl) (bf:=rt.bf) r1 hrep0 rfl;have hst:=hst.trans hT.free g3';clear g3';obtain ⟨h1,⟨q,hq⟩,_,h4⟩:=OT.mat_some hm;have h4:=h4 rfl _ hkeys;obtain ⟨hE,hs2⟩:=JbJ.of_mat hst g2'.T hnb (av:=fun i=>ws.toArray.getD i undef) (fun p _=>Jcy hrep p.1) hq;have hsll:(out.out y).2.1.sl.length=ws.length:=by rw [hwl,←List.length_map (f:=(·.1)),h4,List.length_range]
   have hss:=Jgf (ws:=ws) (n:=0) (l:=(out.out y).2.1.sl) (x:=(out.out y).2.2.1) (fun i hi=>by
    rw [←List.getElem?_map,h4,List.getElem?_range (by rw [←hwl,←hsll];exact hi),JG]) (by rw [hsll];omega) (fun i=>by rw [JH];simp) hs2
   rw [List.drop_zero] at hss;have hres : ∃ v, Qq P fn tm1 m2 = some v ∧ J8 P ((out.out y).2.1.cx (out.out y).2.2 S0 (env3.sub q True) m2) (JiI (slI id id (out.out y).2.1.sl (out.out y).2.2.1)) v := by
    unfold Qq;rw [hws];have hsl2:(slI id id (out.out y).2.1.sl (out.out y).2.2.1).length=ws.length:=by
     rw [←hsll];have : ∀{l:List (Nat × Pt)} {x:SlE l},(slI id id l x).length=l.length:=by
      intro l;induction l with
      | nil=>intro x;rfl
      | cons p l ih=>intro x;show (_::_).length=_;simp [ih]
     exact this
    generalize slI id id (out.out y).2.1.sl (out.out y).2.2.1=L at hss hsl2;cases L with
    | nil=>cases ws with
     | nil=>exact ⟨_,rfl, #[],rfl,trivial⟩
     | cons=>simp at hsl2
    | cons p L=>
     cases ws with
     | nil=>simp at hsl2
     | cons w ws=>
      cases L with
      | nil=>cases ws with
       | nil=>exact ⟨w,rfl,hss.1⟩
       | cons=>simp at hsl2
      | cons p2 L=>cases ws with
       | nil=>simp at hsl2
       | cons w2 ws=>exact ⟨_,rfl,_,rfl,hss⟩
   obtain ⟨v,hv1,hv2⟩:=hres;have hlv : ∀n,Xu P (E P n) fn tm1 [] .ret m2=some (.ret v,m2):=fun n=>by simp only [Xu,hv1,JU]
   refine ⟨.ret v,m2,env3.sub q True,hcal _ _ (hlv _) hlv,hE, ?_⟩;rw [h1];exact ⟨v,rfl,hv2⟩
  ·rename_i v;obtain ⟨h1,⟨q,hq⟩,_,_⟩:=OT.mat_some k4;obtain ⟨hE,hs2⟩:=JbJ.of_mat hst k2.T hnb (acc:=fun _ => .v .x) (av:=fun _=>undef) (fun p _=>trivial) hq;have hlv : ∀n,Xu P (E P n) fn tm1 [] (.pan v false) m2=some (.pnc v,m2):=fun n=>rfl
   refine ⟨.pnc v,m2,env2.sub q True,hcal _ _ (hlv _) hlv,hE, ?_⟩;rw [h1];rfl
  ·cases k4
 unfold vleaf at g5;have hfr:(frame fn args)=⟨(frame fn args).tmps, []⟩:=rfl;cases e with
 | exit id=>cases g5
 | pnc v=>
  refine lv (.pan v false) g5 (fun n hn => ?_);unfold Ja8;rw [hor];dsimp only;rw [hf];dsimp only;rw [hb];dsimp only;rw [hfr,g1 n hn];simp
 | normal=>
  refine lv .ret g5 (fun n hn => ?_);unfold Ja8;rw [hor];dsimp only;rw [hf];dsimp only;rw [hb];dsimp only;rw [hfr,g1 n hn];simp
 | ret=>
  refine lv .ret g5 (fun n hn => ?_);unfold Ja8;rw [hor];dsimp only;rw [hf];dsimp only;rw [hb];dsimp only;rw [hfr,g1 n hn];simp
def Jqs (P:Program) [Orc P] (N:Nat):List Code→Tab→Prop
 | [],_=>True
 | b::l,LO=>(match Jca LO (Xd b) with | some con=>con.LOK P N b | none=>True)∧Jqs P N l LO
theorem Jrm [Orc P] {N:Nat} {c:Code} {l:List Code} (h:Xb c=l) (h2:Jqs P N l LO) : ∀b∈Xb c,∀con,Jca LO (Xd b)=some con→con.LOK P N b:=by
 rw [h];clear h;induction l with
 | nil=>intro b hb;cases hb
 | cons b l ih=>
  intro b' hb con hc;rcases JJ.1 hb with rfl | hb
  ·have:=h2.1
   rw [hc] at this;exact this
  ·exact ih h2.2 b' hb con hc
theorem Con.OK.congr [Orc P] {k:FuncId} {ins:Tm} {out:OT} {F G:ins.E→Option out.E} (h:Con.OK P k ⟨ins,out,F⟩) (hG : ∀x,G x=F x):Con.OK P k ⟨ins,out,G⟩:=by
 have:G=F:=funext hG
 rw [this];exact h
theorem Con.LOK.congr [Orc P] {N:Nat} {b:Code} {ins:Tm} {out:OT} {F G:ins.E→Option out.E} (h:Con.LOK P N b ⟨ins,out,F⟩) (hG : ∀x,G x=F x):Con.LOK P N b ⟨ins,out,G⟩:=by
 have:G=F:=funext hG
 rw [this];exact h
end Go.IM.V
namespace Go.IM.V
open Go Go.IM
variable {P:Program} {m:M} {L:Nat}
def okL (L:Nat):(t:Ty)→t.El→Prop
 | .i k,n=>(Lit.int k n).wf=true
 | .f k,n=>(Lit.float k n).wf=true
 | .s,x=>x.size≤maxLen
 | .l e,xs=>xs.length≤L ∧ ∀x∈xs,okL L e x
 | .p t1 t2,x=>okL L t1 x.1∧okL L t2 x.2
 | _,_=>True
abbrev okE:(t:Ty)→t.El→Prop:=okL maxLen
theorem JfI {ok : TypeId → List Value → Prop} {sz : TypeId → Nat} {S : Nat → Prop} : ∀ {ts : List TypeId} {l : List (Option Ty)} {tys : List Ty} {cs : List Value}, Jay ok sz ts cs → l.length = ts.length → Jn2 l = some tys →
  (∀(i:Nat) t ty,ts[i]? = some t→l[i]? = some (some ty) → ∀cs,ok t cs → ∃x:ty.El,QR P S m ty x cs∧okL L ty x) → ∃x:(Jku tys).El,QR P S m (Jku tys) x cs∧okL L (Jku tys) x:=by
 intro ts;induction ts with
 | nil=>
  intro l tys cs hc hl ho hk;cases l with
  | nil=>cases ho;exact ⟨(),hc,trivial⟩
  | cons=>simp at hl
 | cons t ts ih=>
  intro l tys cs hc hl ho hk;cases l with
  | nil=>simp at hl
  | cons o l=>
   cases o with
   | none=>cases ho
   | some ty=>
    simp only [Jn2,Ja] at ho;obtain ⟨tys',h1,rfl⟩:=ho;obtain ⟨x,h2,h3⟩:=hk 0 t ty rfl rfl _ hc.1;obtain ⟨y,h4,h5⟩:=ih hc.2 (by simpa using hl) h1 (fun i t ty a b=>hk (i+1) t ty (by simpa using a) (by simpa using b));exact ⟨(x,y),⟨_,_,(List.take_append_drop _ _).symm,h2,h4⟩,h3,h5⟩
theorem Jk8 {ok : TypeId → List Value → Prop} {sz : TypeId → Nat} {S : Nat → Prop} {e : TypeId} {ty : Ty} (he : sz e = ty.n) (hok : ∀ cs, ok e cs → ∃ x : ty.El, QR P S m ty x cs ∧ okL L ty x) : ∀ {n : Nat} {cs : List Value}, Jay ok sz (List.replicate n e) cs →
  ∃xs:List ty.El,xs.length=n∧cs.length=n*ty.n∧(∀x∈xs,okL L ty x) ∧ ∀(k:Nat) (x:ty.El),xs[k]? = some x→QR P S m ty x ((cs.drop (k*ty.n)).take ty.n):=by
 intro n;induction n with
 | zero=>intro cs h;cases h;exact ⟨[],rfl,by simp,fun x hx=>by simp at hx,fun k x hx=>by simp at hx⟩
 | succ n ih=>
  intro cs h;obtain ⟨h1,h2⟩:=h;obtain ⟨x,h3,h4⟩:=hok _ h1;obtain ⟨xs,h5,h6,h7,h8⟩:=ih h2;rw [he] at h3 h6 h8;have hl:=JaW h3;rw [JE] at hl;rw [JI] at h6;refine ⟨x::xs,by simp [h5],by rw [JQ,Nat.one_mul];omega,fun y hy => ?_,fun k y hy => ?_⟩
  ·rcases JJ.1 hy with rfl | hy
   ·exact h4
   ·exact h7 y hy
  ·cases k with
   | zero=>cases hy;rw [Nat.zero_mul,List.drop_zero];exact h3
   | succ k=>
    have:=h8 k y (by simpa using hy)
    rw [List.drop_drop] at this;rw [JQ,Nat.one_mul,Nat.add_comm];exact this
def env0:Env:=⟨fun _=>none,fun _=>0,fun _=>False⟩
def cx0 (m:M):Cx:=⟨fun _=>False,m,env0,0, [],fun _=>false,fun _=>none,fun _=>False⟩
theorem Jkp {m:M} (h:JbQ m):JdA m:=by
 intro i b hb;obtain ⟨c,e,rfl⟩:=h.blk i b hb;exact ⟨_,hb,rfl⟩
theorem JmZ {m:M} (h:JbQ m):Uniq m:=⟨fun i j b c hb hc hr _ _=>by
 obtain ⟨_,_,rfl⟩:=h.blk i b hb;obtain ⟨_,_,rfl⟩:=h.blk j c hc;exact hr,fun i b hb=>by
 obtain ⟨_,_,rfl⟩:=h.blk i b hb;exact Je _⟩
theorem JkD (hr : JbQ m) : ∀ (f : Nat) {n : Nat} {t : TypeId} {ty : Ty} {cs : List Value}, OkV P m L f t cs → JiA P n t = some ty → ∃ x : ty.El, QR P (fun _ => False) m ty x cs ∧ okL L ty x := by
 intro f;induction f with
 | zero=>intro n t ty cs h;exact h.elim
 | succ f ih =>
  intro n t ty cs h ht;cases n with
  | zero=>cases ht
  | succ n =>
   unfold OkV at h;unfold JiA at ht;split at h
   ·rename_i hu;rw [hu] at ht;cases ht;obtain ⟨b,rfl⟩:=h;exact ⟨b,rfl,trivial⟩
   ·rename_i k hu;rw [hu] at ht;cases ht;obtain ⟨b,rfl,hw⟩:=h;exact ⟨b,rfl,hw⟩
   ·rename_i k hu;rw [hu] at ht;cases ht;obtain ⟨b,rfl,hw⟩:=h;exact ⟨b,rfl,hw⟩
   ·rename_i hu;rw [hu] at ht;cases ht;obtain ⟨b,rfl,hw⟩:=h;exact ⟨b,rfl,hw⟩
   ·rename_i e hu;rw [hu] at ht;simp only [Jp] at ht;obtain ⟨te, h1, h2⟩ := ht;split at h2
    ·rename_i hc;cases h2;rcases h with rfl | ⟨i, rfl⟩ | ⟨i, len, cap, c, rfl, hc1, hc2, hc3, hc4, hc5⟩
     ·exact ⟨([]:List te.El),⟨_,rfl,.inl ⟨rfl,rfl⟩⟩,by simp,fun x hx=>by simp at hx⟩
     ·exact ⟨([]:List te.El),⟨_,rfl,.inr ⟨i,0,none,0,rfl,Je _,.inl rfl⟩⟩,by simp,fun x hx=>by simp at hx⟩
     ·obtain ⟨xs,g1,g2,g3,g4⟩:=Jk8 (S:=fun _=>False) hc.1 (fun cs hcs=>ih hcs h1) hc5;rw [Jq] at g2;have hrow:m.row i=some (c,e):=by unfold M.row;rw [hr.alive hc4];rfl
      have hlen:(xs.take len).length=len:=by rw [JE];omega
      refine ⟨xs.take len,⟨_,rfl,.inr ⟨i,0,none,cap,by rw [hlen],by rw [hlen];exact hc2,.inr ⟨c,e,hrow,fun w=>w,hc.1, ?_,fun k x hx => ?_⟩⟩⟩,by rw [hlen];omega,fun x hx=>g3 x (List.mem_of_mem_take hx)⟩
      ·rw [hlen,g2,JG];exact Jw _ hc2
      ·rw [List.getElem?_take] at hx;split at hx
       ·have:=g4 k x hx
        rw [JG,Jcw,show k*te.n+te.n - k*te.n=te.n by omega];exact this
       ·cases hx
    ·cases h2
   ·rename_i fs hu;rw [hu] at ht;simp only [Ja] at ht;obtain ⟨tys,h1,rfl⟩:=ht;refine JfI h (by simp) h1 (fun i t ty a b cs hcs => ?_);rw [List.getElem?_map] at a b;cases hq:fs.toList[i]? with
    | none=>rw [hq] at a;cases a
    | some fd=>
     rw [hq] at a b;simp only [JU,Jg] at a b;subst a;exact ih hcs b
   ·rename_i k e hu;rw [hu] at ht;simp only [Ja] at ht;obtain ⟨te,h1,rfl⟩:=ht;have hol : ∀k,Jn2 (List.replicate k (some te))=some (List.replicate k te):=by
     intro k;induction k with
     | zero=>rfl
     | succ k ih=>simp only [List.replicate_succ,Jn2];rw [ih];rfl
    refine JfI h (l:=List.replicate k (some te)) (by simp) (hol k) (fun i t ty a b cs hcs => ?_);rw [List.getElem?_replicate] at a b;split at a
    ·rename_i hi;rw [Jf hi] at b;cases a;cases b;exact ih hcs h1
    ·cases a
   ·exact h.elim
theorem Jua (hr : JbQ m) {f n : Nat} {t : TypeId} {ty : Ty} {v : Value} (h : OkA P m L f t v) (ht : JiA P n t = some ty) : ∃ x : ty.El, Ja3 P (cx0 m) (JfT ty x) v ∧ okL L ty x := by
 have hag:(∃fs,P.underlying t=some (.struct fs))∨(∃k e,P.underlying t=some (.array k e))→ty.ag=true:=by
  intro hu;cases n with
  | zero=>cases ht
  | succ n=>
   unfold JiA at ht;have hp : ∀l:List Ty,(Jku l).ag=true:=by intro l;cases l <;> rfl
   rcases hu with ⟨fs,hu⟩|⟨k,e,hu⟩ <;> rw [hu] at ht <;> simp only [Ja] at ht
   ·obtain ⟨_,_,rfl⟩:=ht;exact hp _
   ·obtain ⟨_,_,rfl⟩:=ht;exact hp _
 have hnag:ty.ag=true→(∃fs,P.underlying t=some (.struct fs))∨(∃k e,P.underlying t=some (.array k e)):=by
  intro hq;cases n with
  | zero=>cases ht
  | succ n=>
   unfold JiA at ht;split at ht
   ·cases ht;cases hq
   ·cases ht;cases hq
   ·cases ht;cases hq
   ·cases ht;cases hq
   ·simp only [Jp] at ht;obtain ⟨te,_,h2⟩:=ht;split at h2
    ·cases h2;cases hq
    ·cases h2
   ·rename_i fs hu;exact .inl ⟨fs,hu⟩
   ·rename_i k e hu;exact .inr ⟨k,e,hu⟩
   ·cases ht
 unfold OkA at h;split at h
 ·rename_i fs hu;obtain ⟨cs,rfl,h1⟩:=h;obtain ⟨x,h2,h3⟩:=JkD hr f h1 ht;exact ⟨x,Jbx (X:=cx0 m) h2 (fun _=>⟨cs,rfl⟩) (fun q=>by rw [hag (.inl ⟨fs,hu⟩)] at q;cases q),h3⟩
 ·rename_i k e hu;obtain ⟨cs,rfl,h1⟩:=h;obtain ⟨x,h2,h3⟩:=JkD hr f h1 ht;exact ⟨x,Jbx (X:=cx0 m) h2 (fun _=>⟨cs,rfl⟩) (fun q=>by rw [hag (.inr ⟨k,e,hu⟩)] at q;cases q),h3⟩
 ·rename_i hu1 hu2;obtain ⟨x,h2,h3⟩:=JkD hr f h ht;have hone:=Jho h2 v (by simp);have hc:v.cells = #[v]:=by cases v <;> first | rfl | cases hone
  refine ⟨x,Jbx (X:=cx0 m) (by rw [hc];exact h2) (fun q => ?_) (fun _=>hone),h3⟩
  rcases hnag q with ⟨fs,hu⟩|⟨k,e,hu⟩
  ·exact absurd hu (hu1 fs)
  ·exact absurd hu (hu2 k e)
def JqL:Nat→List Ty→List (Nat × Pt)
 | _, [] => []
 | k,t::l=>(k,.v t)::JqL (k+1) l
def JkJ (tys:List Ty):Tm := { sl:=JqL 0 tys }
def JlP:OT := .ret { sl := [(0,.v .b)] }
def Jhw (L:Nat):(k:Nat)→(l:List Ty)→SlE (JqL k l)→Prop
 | _, [],_=>True
 | k,t::l,x=>okL L t x.1∧Jhw L (k+1) l x.2
theorem Jsl (hr : JbQ m) {f n : Nat} : ∀ {ts : List TypeId} {vs : List Value} {tys : List Ty} {pre : List Value} {k : Nat}, k = pre.length → JfS P m L f ts vs → Jn2 (ts.map (JiA P n)) = some tys →
  ∃x:SlE (JqL k tys),Qm P (cx0 m) (fun i=>(pre++vs).toArray.getD i undef) (slI id id (JqL k tys) x)∧Jhw L k tys x:=by
 intro ts;induction ts with
 | nil=>intro vs tys pre k hk h ho;cases ho;exact ⟨(),trivial,trivial⟩
 | cons t ts ih =>
  intro vs tys pre k hk h ho;cases vs with
  | nil=>exact h.elim
  | cons v vs=>
   simp only [List.map_cons] at ho;cases ht:JiA P n t with
   | none=>rw [ht] at ho;cases ho
   | some ty=>
    rw [ht] at ho;simp only [Jn2,Ja] at ho;obtain ⟨tys',h1,rfl⟩:=ho;obtain ⟨x,h2,h3⟩:=Jua hr h.1 ht;obtain ⟨y,h4,h5⟩:=ih (pre:=pre ++ [v]) (k:=k+1) (by simp [hk]) h.2 h1;simp only [List.append_assoc,List.cons_append,List.nil_append] at h4;refine ⟨(x,y),⟨?_,h4⟩,h3,h5⟩;have:(pre++v::vs).toArray.getD k undef=v:=by
     rw [JH, hk];simp
    show Ja3 P _ (JfT ty x) ((pre++v::vs).toArray.getD k undef);rw [this];exact h2
theorem Jsm : ∀{n:Nat} {tys:List Ty},(JqL n tys).length=tys.length:=by
 intro n tys;induction tys generalizing n with
 | nil=>rfl
 | cons t l ih=>simp only [JqL,Ju,ih]
theorem Jm7 {m:M} {L f:Nat} : ∀{ts:List TypeId} {vs:List Value},JfS P m L f ts vs→ts.length=vs.length:=by
 intro ts;induction ts with
 | nil=>intro vs h;cases vs with
  | nil=>rfl
  | cons=>exact h.elim
 | cons t ts ih=>intro vs h;cases vs with
  | nil=>exact h.elim
  | cons v vs=>simp [ih h.2]
theorem Jt9 {α:Type} : ∀{l:List (Option α)} {r:List α},Jn2 l=some r→l.length=r.length:=by
 intro l;induction l with
 | nil=>intro r h;cases h;rfl
 | cons a l ih=>intro r h;cases a with
  | none=>cases h
  | some a=>
   simp only [Jn2,Ja] at h;obtain ⟨r',h1,rfl⟩:=h;simp [ih h1]
theorem Jul [Orc P] {k:FuncId} {fn:Func} {depth n:Nat} {tys:List Ty} (ht:Jn2 (fn.params.toList.map (JiA P n))=some tys) {F:(JkJ tys).E→Option JlP.E} (hok:Con.OK P k ⟨JkJ tys,JlP,F⟩)
  (law : ∀x:SlE (JqL 0 tys),Jhw L 0 tys x→F (x,(),())=some ((true,()),(),())):LawL P L k fn depth:=by
 intro m vs hr hargs;obtain ⟨x,h1,h2⟩:=Jsl hr (pre := []) rfl hargs ht;have hSf : ∀i,¬((JkJ tys).inst 0 (x,(),())).S (fun _=>False) env0 i:=by
  intro i w;rcases w with w|⟨j,hj,_⟩|w
  ·exact w
  ·exact absurd hj (J3 _)
  ·exact w
 have hle:Jac (cx0 m) ((JkJ tys).cx (x,(),()) (fun _=>False) env0 m):=
  ⟨fun i r hr hn=>⟨hr,hSf i⟩,Je _,fun _ _=>rfl,fun j b hb=>by simp [cx0] at hb,fun j hj=>absurd hj (J3 _),fun j L hj=>absurd hj (J3 _),fun i w=>w,fun i w=>w,Je _,fun _ _ q=>q⟩
 have hsl : ∀{l:List (Nat × S1)} {av:Nat→Value},Qm P (cx0 m) av l→Qm P ((JkJ tys).cx (x,(),()) (fun _=>False) env0 m) av l:=by
  intro l av;induction l with
  | nil=>intro _;trivial
  | cons p l ih=>intro h;exact ⟨h.1.le hle,ih h.2⟩
 obtain ⟨c,m1,env1,hcal,hend,hret⟩:=hok (x,(),()) _ (law x h2) (fun _=>False) env0 m vs.toArray
  ⟨hr.free,by show m.bar≤m.nxt;rw [hr.bar];exact Nat.zero_le _,rfl,rfl,rfl,fun j hj=>absurd hj (J3 _),fun i w=>absurd w (hSf i),fun j b hb=>(by cases hb),fun j j' b b' i h1=>(by cases h1),fun j cs hcs=>(by cases hcs),fun j j' hj=>absurd hj (J3 _),fun i w=>w.elim,fun j hj=>absurd hj (J3 _),Jkp hr,JmZ hr⟩ (by
  intro i w;rcases w with ⟨j,hj,_⟩|w
  ·exact absurd hj (J3 _)
  ·exact w.elim) (hsl h1) (by
   show vs.length=(JqL 0 tys).length;rw [Jsm,←Jm7 hargs,←Jt9 ht];simp)
 obtain ⟨v,rfl,hv⟩:=hret;have hv':v = .bool true:=hv.1
 subst hv';obtain ⟨n,hn⟩:=hcal;exact ⟨n,m1,hn n (Je _)⟩
theorem law_of [Orc P] {k:FuncId} {fn:Func} {depth n:Nat} {tys:List Ty} (ht:Jn2 (fn.params.toList.map (JiA P n))=some tys) {F:(JkJ tys).E→Option JlP.E} (hok:Con.OK P k ⟨JkJ tys,JlP,F⟩)
  (law : ∀x:SlE (JqL 0 tys),Jhw maxLen 0 tys x→F (x,(),())=some ((true,()),(),())):Law P k fn depth:=Jul ht hok law
end Go.IM.V
namespace Go.IM.V
open Go Go.IM
abbrev r1 {α:Type} (x:α):(α × Unit) × Unit × Unit:=((x,()),(),())
abbrev ro {α:Type} (x:α):(Unit × Unit) × Unit × (α × Unit):=(((),()),(),(x,()))
section
variable {ρ:Type}
theorem cif {p:Prop} [Decidable p] (a b:ρ):(bif decide p then a else b)=if p then a else b:=by by_cases h:p <;> simp [h]
theorem Jrh {n:Nat} {a b:Option ρ} {r:ρ} (hb:b=some r) (ha:n=0→a=some r):Jff n a b=some r:=by
 unfold Jff;by_cases h:0<n
 ·rw [cif,Jf h];exact hb
 ·rw [cif,Jd h];unfold both;rw [ha (by omega),hb,Jf rfl]
end
theorem w64 {n:Int} (h0 : -9223372036854775808≤n) (h1:n≤9223372036854775807):IntKind.wrap .i64 n=n:=wrap_i64 h0 h1
theorem Jmy {n:Int} (h0:0≤n) (h1:n<18446744073709551616):IntKind.wrap .u64 n=n:=by
 simp [IntKind.wrap,IntKind.signed,IntKind.bits]
 omega
theorem JdC (n:Int):IntKind.wrap .u8 n=n % 256:=by
 simp [IntKind.wrap,IntKind.signed,IntKind.bits]
theorem ok_u16 {n:Int} (h:okE (.i .u16) n):0≤n∧n<65536:=by
 have h2:(Lit.int .u16 n).wf=true:=h;simp [Lit.wf,IntKind.min,IntKind.max,IntKind.signed,IntKind.bits] at h2
 omega
theorem Jrf {n:Int} (h:okE (.i .u8) n):0≤n∧n<256:=by
 have h2:(Lit.int .u8 n).wf=true:=h;simp [Lit.wf,IntKind.min,IntKind.max,IntKind.signed,IntKind.bits] at h2
 omega
noncomputable def Jf5:Con:=⟨{ sl := [] },.ret { sl := [] },fun _=>none⟩
theorem Q3 {P:Program} [Orc P] {k:Nat}:Con.OK P k Jf5:=fun x y h=>by cases h
noncomputable def cMt (ks:List ByteArray):Con:=⟨{ sl := [],bx := [[.mt ks]] },.ret { sl := [] },fun _=>none⟩
theorem Jdv {P:Program} [Orc P] {k:Nat} {ks:List ByteArray}:Con.OK P k (cMt ks):=fun x y h=>by cases h
def cpN {α:Type} (n:Nat) (d:α) (xs:List α):List α:=(List.range n).map fun k=>xs.getD k d
theorem Jto {α:Type} {n:Nat} {d:α} {xs:List α} (h:xs.length=n):cpN n d xs=xs:=by
 subst h;apply List.ext_getElem?
 intro i;unfold cpN;rw [List.getElem?_map];rcases JB i xs.length with hi | hi
 ·rw [List.getElem?_range hi,Jj hi,JU,Jo,Jj hi];rfl
 ·rw [J1 (by rw [List.length_range];exact hi),J1 hi];rfl
end Go.IM.V