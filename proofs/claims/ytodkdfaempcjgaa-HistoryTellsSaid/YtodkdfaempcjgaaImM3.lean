/- An ideal machine, and a machine of values: part 3 of 5. Lemmas alone; no conditions. -/
import Derived.Test.YtodkdfaempcjgaaImM2
set_option linter.unusedVariables false
set_option linter.unusedSimpArgs false
set_option linter.constructorNameAsVariable false
namespace Go.IM.V
open Go Go.IM
variable {P:Program} {m m1:M}
def Wb (X:Cx) (i:Nat):Prop:=(∃j,j<X.nb∧X.has j=true∧X.env.β j=i)∨X.env.φ i
def Wl (X:Cx) (i:Nat):Prop := ∃j b,X.bf[j]? = some b∧b.live=true∧X.env.τ j=some i
structure Stp (X Y:Cx):Prop where
 fr:Fr2 (Wb X) (Wl X) X.m Y.m
 le:Jac X Y
 wb : ∀i,Wb Y i→Wb X i∨X.m.nxt≤i
 wl : ∀i,Wl Y i→Wl X i∨Wb X i∨X.m.nxt≤i
theorem Jac.refl (X:Cx):Jac X X:=⟨fun i r hr hS=>⟨hr,hS⟩,Je _,fun _ _=>rfl,fun j b hb=>⟨b.live,hb,rfl⟩,fun _ _ h=>h,fun _ _ _ h=>h,fun _ h=>h,fun _ h=>h,Je _,fun _ _ h=>h⟩
theorem Jac.trans {X Y Z:Cx} (h:Jac X Y) (k:Jac Y Z):Jac X Z:=
 ⟨fun i r hr hS=>let ⟨a,b⟩:=h.mono i r hr hS;k.mono i r a b,Jy h.nb k.nb,fun j hj=>(k.β j (Jt hj h.nb)).trans (h.β j hj),fun j b hb=>by
  obtain ⟨l1,h1,h3⟩:=h.bf j b hb;obtain ⟨l2,k1,k3⟩:=k.bf j _ h1;exact ⟨l2,k1,k3.trans h3⟩,fun j hj q=>h.has j hj (k.has j (Jt hj h.nb) q),fun j L hj q=>h.len j L hj (k.len j L (Jt hj h.nb) q),fun i q=>h.s0 i (k.s0 i q),fun i q=>k.φ i (h.φ i q),Jy h.nxt k.nxt,fun i e q=>k.ty i e (h.ty i e q)⟩
theorem Stp.refl {X:Cx} (hf:JdB X.m):Stp X X:=⟨Fr2.refl hf,Jac.refl X,fun _ h => .inl h,fun _ h => .inl h⟩
theorem Stp.trans {X Y Z:Cx} (hf:JdB X.m) (h:Stp X Y) (k:Stp Y Z):Stp X Z:=
 ⟨h.fr.trans hf k.fr h.wb h.wl,h.le.trans k.le,fun i w=>by
  rcases k.wb i w with w | w
  ·exact h.wb i w
  ·exact .inr (Jy h.fr.nxt w),fun i w=>by
  rcases k.wl i w with w | w | w
  ·exact h.wl i w
  ·rcases h.wb i w with w | w
   ·exact .inr (.inl w)
   ·exact .inr (.inr w)
  ·exact .inr (.inr (Jy h.fr.nxt w))⟩
theorem Rel.step {S0:Nat→Prop} {env env':Env} {m m':M} {a:Act} {vs vs':VS} (h:Rel P S0 env m a vs) (hs:Stp (vs.cx S0 env m) (vs'.cx S0 env' m')) (hT:Jao P (vs'.cx S0 env' m') vs'.bx)
  (hN:vs'.N=vs.N) (hsl:vs'.sl=vs.sl) (hdf:vs'.df=vs.df):Rel P S0 env' m' a vs':=
 ⟨hT,by rw [hN];exact h.size,fun i=>by rw [hsl];exact (h.sl i).le hs.le,by rw [hdf];exact h.df.le hs.le⟩
theorem JoF (hf:JdB m) (o:Obj) (h:JdA m):JdA (m.mk1 o):=by
 intro i b hb;rw [Qp] at hb;split at hb
 ·cases hb;exact ⟨_,by rw [Qp,Jf rfl],rfl⟩
 ·obtain ⟨rb,h1,h2⟩:=h i b hb;have:b.root≠m.nxt:=by intro e;rw [e,hf _ (Je _)] at h1;cases h1
  exact ⟨rb,by rw [Qp,Jd this];exact h1,h2⟩
theorem Ja6 (hf : JdB m) (o : Obj) : Fr2 (fun _ => False) (fun _ => False) m (m.mk1 o) :=
 ⟨rfl,Nat.le_succ _,hf.mk1 o,fun i k hk _=>⟨k,Jh8 (hf _ (Je _)) hk,rfl,rfl,rfl,fun _=>rfl⟩,fun i b1 hb hi=>by
  rw [Qp,Jd (by omega)] at hb;exact ⟨b1,hb,.inl rfl,fun q=>q⟩,fun i b1 hb hi=>(by
  rw [Qp] at hb;split at hb
  ·cases hb;exact .inl (Je _)
  ·rw [hf i hi] at hb;cases hb),fun i b hb=>(by
  rw [Qp];split
  ·exact ⟨_,rfl⟩
  ·exact ⟨b,hb⟩),fun h=>JoF hf o h,fun hrt hu=>⟨fun i j b c hb hc hr hsb hsc=>(by
  rw [Qp] at hb hc;split at hb
  ·split at hc
   ·omega
   ·cases hb;have:=hrt.lt hf hc
    have hr':m.nxt=c.root:=hr
    omega
  ·split at hc
   ·cases hc;have:=hrt.lt hf hb
    have hr':b.root=m.nxt:=hr
    omega
   ·exact hu.one i j b c hb hc hr hsb hsc),fun i b hb=>(by
  rw [Qp] at hb;split at hb
  ·rename_i h;cases hb;exact Nat.le_of_eq h.symm
  ·exact hu.le i b hb)⟩,fun i e h=>(by
  unfold M.typ at h ⊢;rw [Qp];split
  ·rename_i hi;rw [hi,hf _ (Je _)] at h;cases h
  ·exact h)⟩
theorem JnN {i j:Nat} {x y:Blk} (o:Obj) (hf:m.get m.nxt=none) (hi:m.alive i=some x) (hj:m.alive j=some y) :
  ∃y',(m.gen i x o).alive j=some y'∧y'.obj=y.obj∧y'.root=y.root∧y'.ro=y.ro∧(i≠j→y'.sup=y.sup):=by
 have hgi:=JO hi;have hget : ∀k,(m.gen i x o).get k=if k=m.nxt then some { obj:=o,root:=x.root } else if i=k then some { x with sup:=true } else m.get k:=by
  intro k;simp only [M.gen,M.get_bump,M.get_set];by_cases e:k=m.nxt
  ·subst e;simp
  ·rw [Jd e,Jd (Ne.symm e)]
 have hne : ∀{k:Nat} {z:Blk},m.get k=some z→k≠m.nxt:=by intro k z hz e;rw [e,hf] at hz;cases hz
 obtain ⟨rb,hrb,hd⟩:=QB hj;have hgj:=JO hj;have hr : ∃r',(m.gen i x o).get y.root=some r'∧r'.dead=false:=by
  rw [hget,Jd (hne hrb)];split
  ·rename_i e;rw [←e,hgi] at hrb;cases hrb;exact ⟨_,rfl,hd⟩
  ·exact ⟨rb,hrb,hd⟩
 obtain ⟨r',h1,h2⟩:=hr;by_cases hij:i=j
 ·subst hij;rw [hgi] at hgj;cases hgj;exact ⟨{ x with sup:=true },QQ (rb:=r') (by rw [hget,Jd (hne hgi),Jf rfl]) h1 h2,rfl,rfl,rfl,fun q=>absurd rfl q⟩
 ·exact ⟨y,QQ (rb:=r') (by rw [hget,Jd (hne hgj),Jd hij];exact hgj) h1 h2,rfl,rfl,rfl,fun _=>rfl⟩
theorem Jpy {i : Nat} {x : Blk} (o : Obj) (hf : JdB m) (hi : m.alive i = some x) (hs : x.sup = false) : Fr2 (fun _ => False) (fun j => j = i) m (m.gen i x o) := by
 have hgi:=JO hi;have hil:=Jcx hf hi;have hget : ∀k,(m.gen i x o).get k=if k=m.nxt then some { obj:=o,root:=x.root } else if i=k then some { x with sup:=true } else m.get k:=by
  intro k;simp only [M.gen,M.get_bump,M.get_set];by_cases e:k=m.nxt
  ·subst e;simp
  ·rw [Jd e,Jd (Ne.symm e)]
 refine ⟨rfl,Nat.le_succ _,(Keep.gen o hf hi).free,fun j k hk _ => ?_,fun j b1 hb hj => ?_,fun j b1 hb hj => ?_,fun j b hb => ?_,fun h j b hb => ?_,fun hrt hu=>⟨fun j k b c hb hc hr hsb hsc=>(by
  have key : ∀j b,(m.gen i x o).get j=some b→b.sup=false→(j=m.nxt∧b.root=x.root)∨(j≠i∧m.get j=some b):=by
   intro j b hb hs;rw [hget] at hb;split at hb
   ·rename_i hj;cases hb;exact .inl ⟨hj,rfl⟩
   ·split at hb
    ·cases hb;cases hs
    ·rename_i hj;exact .inr ⟨Ne.symm hj,hb⟩
  rcases key j b hb hsb with ⟨h1,h2⟩|⟨h1,h2⟩
  ·rcases key k c hc hsc with ⟨h3,h4⟩|⟨h3,h4⟩
   ·rw [h1,h3]
   ·exact absurd (hu.one k i c x h4 hgi (by rw [←h2];exact hr.symm) hsc hs) h3
  ·rcases key k c hc hsc with ⟨h3,h4⟩|⟨h3,h4⟩
   ·exact absurd (hu.one j i b x h2 hgi (by rw [←h4];exact hr) hsb hs) h1
   ·exact hu.one j k b c h2 h4 hr hsb hsc),fun j b hb=>(by
  have hxi:=hu.le i x hgi;rw [hget] at hb;split at hb
  ·cases hb;show x.root≤j;omega
  ·split at hb
   ·rename_i h;subst h;cases hb;exact hxi
   ·exact hu.le j b hb)⟩,fun j e h=>(by
  unfold M.typ at h ⊢;rw [hget];split
  ·rename_i hj;rw [hj,hf _ (Je _)] at h;cases h
  ·split
   ·rename_i hj;subst hj;rw [hgi] at h;exact h
   ·exact h)⟩
 ·obtain ⟨k1,h1,h2,h3,h4,h5⟩:=JnN o (hf _ (Je _)) hi hk;exact ⟨k1,h1,h3,h4,h2,fun q=>h5 (Ne.symm q)⟩
 ·rw [hget,Jd (by omega)] at hb;split at hb
  ·rename_i e;subst e;cases hb;exact ⟨x,hgi,.inl rfl,fun _=>rfl⟩
  ·exact ⟨b1,hb,.inl rfl,fun q=>q⟩
 ·rw [hget] at hb;split at hb
  ·cases hb;exact .inr ⟨i,x,hgi,.inr rfl,hs,.inl rfl⟩
  ·rw [Jd (by omega),hf j hj] at hb;cases hb
 ·rw [hget];split
  ·exact ⟨_,rfl⟩
  ·split
   ·exact ⟨_,rfl⟩
   ·exact ⟨b,hb⟩
 ·have old : ∀r rb,m.get r=some rb→rb.root=r → ∃rb',(m.gen i x o).get r=some rb'∧rb'.root=r:=by
   intro r rb hr hrr;have:r≠m.nxt:=by intro e;rw [e,hf _ (Je _)] at hr;cases hr
   rw [hget,Jd this];split
   ·rename_i e;subst e;rw [hgi] at hr;cases hr;exact ⟨_,rfl,hrr⟩
   ·exact ⟨rb,hr,hrr⟩
  rw [hget] at hb;split at hb
  ·cases hb;obtain ⟨rb,h1,h2⟩:=h i x hgi;exact old _ rb h1 h2
  ·split at hb
   ·cases hb;obtain ⟨rb,h1,h2⟩:=h i x hgi;exact old _ rb h1 h2
   ·obtain ⟨rb,h1,h2⟩:=h j b hb;exact old _ rb h1 h2
theorem JhT {i:Nat} {x:Blk} (o:Obj) (ho:Jn1 o=Jn1 x.obj) (hf:JdB m) (hi:m.alive i=some x) (hr:x.root=i):Fr2 (fun j=>j=i) (fun _=>False) m (m.set i { x with obj:=o })∧(m.set i { x with obj:=o }).alive i=some { x with obj:=o }:=by
 have hgi:=JO hi;have key : ∀j y,m.alive j=some y→(m.set i { x with obj:=o }).alive j=some (if i=j then { x with obj:=o } else y):=by
  intro j y hj;obtain ⟨rb,hrb,hd⟩:=QB hj;have hgj:=JO hj;have hr2 : ∃r',(m.set i { x with obj:=o }).get y.root=some r'∧r'.dead=false:=by
   rw [M.get_set];split
   ·rename_i e;rw [←e,hgi] at hrb;cases hrb;exact ⟨_,rfl,hd⟩
   ·exact ⟨rb,hrb,hd⟩
  obtain ⟨r',h1,h2⟩:=hr2;by_cases e:i=j
  ·subst e;rw [hgi] at hgj;cases hgj;rw [Jf rfl];exact QQ (rb:=r') (M.get_set_same _ _ _) h1 h2
  ·rw [Jd e];exact QQ (rb:=r') (by rw [M.get_set_ne _ _ _ _ e];exact hgj) h1 h2
 refine ⟨⟨rfl,Je _,fun j hj => ?_,fun j k hk hne=>⟨_,key j k hk, ?_⟩,fun j b1 hb hj => ?_,fun j b1 hb hj => ?_,fun j b hb => ?_,fun h j b hb => ?_,fun hrt hu=>⟨fun j k b c hb hc hr' hsb hsc=>(by
  have key : ∀j b,(m.set i { x with obj:=o }).get j=some b → ∃b',m.get j=some b'∧b'.root=b.root∧b'.sup=b.sup:=by
   intro j b hb;rw [M.get_set] at hb;split at hb
   ·rename_i e;subst e;cases hb;exact ⟨x,hgi,rfl,rfl⟩
   ·exact ⟨b,hb,rfl,rfl⟩
  obtain ⟨b',h1,h2,h3⟩:=key j b hb;obtain ⟨c',h4,h5,h6⟩:=key k c hc;exact hu.one j k b' c' h1 h4 (by rw [h2,h5];exact hr') (h3.trans hsb) (h6.trans hsc)),fun j b hb=>(by
  rw [M.get_set] at hb;split at hb
  ·rename_i h;subst h;cases hb;exact hu.le _ x hgi
  ·exact hu.le j b hb)⟩,fun j e h=>(by
  unfold M.typ at h ⊢;rw [M.get_set];split
  ·rename_i hj;subst hj;rw [hgi] at h;show Jn1 o=_;rw [ho];exact h
  ·exact h)⟩,by rw [key i x hi,Jf rfl]⟩
 ·have hne:i≠j:=by intro e;rw [e,hf j hj] at hgi;cases hgi
  rw [M.get_set_ne _ _ _ _ hne];exact hf j hj
 ·rw [Jd (Ne.symm hne)];exact ⟨rfl,rfl,rfl,fun _=>rfl⟩
 ·rw [M.get_set] at hb;split at hb
  ·rename_i e;subst e;cases hb;exact ⟨x,hgi,.inl rfl,fun q=>q⟩
  ·exact ⟨b1,hb,.inl rfl,fun q=>q⟩
 ·have hj':m.nxt≤j:=hj
  have hne:i≠j:=by intro e;rw [e,hf j hj'] at hgi;cases hgi
  rw [M.get_set_ne _ _ _ _ hne,hf j hj'] at hb;cases hb
 ·rw [M.get_set];split
  ·exact ⟨_,rfl⟩
  ·exact ⟨b,hb⟩
 ·have old : ∀r rb,m.get r=some rb→rb.root=r → ∃rb',(m.set i { x with obj:=o }).get r=some rb'∧rb'.root=r:=by
   intro r rb hr hrr;rw [M.get_set];split
   ·rename_i e;subst e;rw [hgi] at hr;cases hr;exact ⟨_,rfl,hrr⟩
   ·exact ⟨rb,hr,hrr⟩
  rw [M.get_set] at hb;split at hb
  ·cases hb;obtain ⟨rb,h1,h2⟩:=h i x hgi;exact old _ rb h1 h2
  ·obtain ⟨rb,h1,h2⟩:=h j b hb;exact old _ rb h1 h2
theorem Juz {i : Nat} {x : Blk} (o : Obj) (ho : Jn1 o = Jn1 x.obj) (hf : JdB m) (hrt : JdA m) (hi : m.alive i = some x) (hr : x.root ≠ i) (hs : x.sup = false) :
  Fr2 (fun j=>j=i ∨ ∃b,m.get j=some b∧b.root=x.root) (fun _=>False) m (m.put i x o)∧(m.put i x o).alive i=some { x with obj:=o,root:=i,dead:=false } ∧
   (∀j b,(m.put i x o).get j=some b→b.root=i→j=i) ∧ ∀rb,m.get x.root=some rb→(m.put i x o).get i=some { x with obj:=o,root:=i,dead:=false }:=by
 have hgi:=JO hi;obtain ⟨rb,hrb,hrr⟩:=hrt i x hgi;have eput:m.put i x o=(m.set x.root { rb with dead:=true }).set i { x with obj:=o,root:=i,dead:=false }:=by simp [M.put,hr,hrb]
 have hget : ∀j,(m.put i x o).get j=if i=j then some { x with obj:=o,root:=i,dead:=false } else if x.root=j then some { rb with dead:=true } else m.get j:=by
  intro j;rw [eput,M.get_set];split
  ·rfl
  ·rw [M.get_set]
 have nochild : ∀j b,m.get j=some b→b.root≠i:=by
  intro j b hj he;obtain ⟨r2,h1,h2⟩:=hrt j b hj;rw [he,hgi] at h1;cases h1;exact hr (h2.trans he)
 have hnxt:(m.put i x o).nxt=m.nxt:=by rw [eput];rfl
 have hgii:(m.put i x o).get i=some { x with obj:=o,root:=i,dead:=false }:=by rw [hget,Jf rfl]
 have hali:(m.put i x o).alive i=some { x with obj:=o,root:=i,dead:=false }:=QQ hgii hgii rfl;refine ⟨⟨by rw [eput];rfl,by rw [hnxt];exact Je _,fun j hj => ?_,fun j k hk hne => ?_,fun j b1 hb hj => ?_,fun j b1 hb hj => ?_,fun j b hb => ?_,fun h j b hb => ?_,fun _ hu=>⟨fun j k b c hb hc hr' hsb hsc=>(by
  have key : ∀j b,(m.put i x o).get j=some b→(j=i∧b.root=i)∨(j≠i ∧ ∃b',m.get j=some b'∧b'.root=b.root∧b'.sup=b.sup):=by
   intro j b hb;rw [hget] at hb;split at hb
   ·rename_i e;cases hb;exact .inl ⟨e.symm,rfl⟩
   ·rename_i e1;split at hb
    ·rename_i e;subst e;cases hb;exact .inr ⟨Ne.symm e1,rb,hrb,rfl,rfl⟩
    ·exact .inr ⟨Ne.symm e1,b,hb,rfl,rfl⟩
  rcases key j b hb with ⟨h1,h2⟩|⟨h1,b',h2,h3,h4⟩
  ·rcases key k c hc with ⟨h5,h6⟩|⟨h5,c',h6,h7,h8⟩
   ·rw [h1,h5]
   ·exact absurd (by rw [h7,←hr',h2]) (nochild k c' h6)
  ·rcases key k c hc with ⟨h5,h6⟩|⟨h5,c',h6,h7,h8⟩
   ·exact absurd (by rw [h3,hr',h6]) (nochild j b' h2)
   ·exact hu.one j k b' c' h2 h6 (by rw [h3,h7];exact hr') (h4.trans hsb) (h8.trans hsc)),fun j b hb=>(by
  rw [hget] at hb;split at hb
  ·rename_i h;subst h;cases hb;exact Je _
  ·split at hb
   ·rename_i h;subst h;cases hb;exact hu.le _ rb hrb
   ·exact hu.le j b hb)⟩,fun j e h=>(by
  unfold M.typ at h ⊢;rw [hget];split
  ·rename_i hj;subst hj;rw [hgi] at h;show Jn1 o=_;rw [ho];exact h
  ·split
   ·rename_i hj;subst hj;rw [hrb] at h;exact h
   ·exact h)⟩, ?_,fun j b hb he => ?_,fun _ _=>hgii⟩
 ·rw [hnxt] at hj;have h1:i≠j:=by intro e;rw [e,hf j hj] at hgi;cases hgi
  have h2:x.root≠j:=by intro e;rw [e,hf j hj] at hrb;cases hrb
  rw [hget,Jd h1,Jd h2];exact hf j hj
 ·have hgj:=JO hk;have h1:i≠j:=fun e=>hne (.inl e.symm)
  have h2:k.root≠x.root:=fun e=>hne (.inr ⟨k,hgj,e⟩)
  have h3:x.root≠j:=fun e=>by
   subst e;rw [hrb] at hgj;cases hgj;exact h2 hrr
  obtain ⟨r2,g1,g2⟩:=QB hk;refine ⟨k,QQ (rb:=r2) (by rw [hget,Jd h1,Jd h3];exact hgj) ?_ g2,rfl,rfl,rfl,fun _=>rfl⟩
  rw [hget,Jd (fun e=>nochild j k hgj e.symm),Jd (Ne.symm h2)];exact g1
 ·rw [hget] at hb;split at hb
  ·rename_i e;subst e;cases hb;exact ⟨x,hgi,.inr ⟨rfl,hs,.inl rfl⟩,fun q=>q⟩
  ·split at hb
   ·rename_i e;subst e;cases hb;exact ⟨rb,hrb,.inl rfl,fun q=>q⟩
   ·exact ⟨b1,hb,.inl rfl,fun q=>q⟩
 ·have h1:i≠j:=by intro e;rw [e,hf j hj] at hgi;cases hgi
  have h2:x.root≠j:=by intro e;rw [e,hf j hj] at hrb;cases hrb
  rw [hget,Jd h1,Jd h2,hf j hj] at hb;cases hb
 ·rw [hget];split
  ·exact ⟨_,rfl⟩
  ·split
   ·exact ⟨_,rfl⟩
   ·exact ⟨b,hb⟩
 ·have old : ∀r r2,m.get r=some r2→r2.root=r→r≠i → ∃rb',(m.put i x o).get r=some rb'∧rb'.root=r:=by
   intro r r2 hr2 hrr2 hne;rw [hget,Jd (Ne.symm hne)];split
   ·rename_i e;subst e;exact ⟨_,rfl,hrr⟩
   ·exact ⟨r2,hr2,hrr2⟩
  rw [hget] at hb;split at hb
  ·cases hb;exact ⟨_,hgii,rfl⟩
  ·split at hb
   ·cases hb;rw [show ({ rb with dead:=true }:Blk).root=x.root from hrr];exact old _ rb hrb hrr (fun e=>hr e)
   ·obtain ⟨r2,h1,h2⟩:=h j b hb;exact old _ r2 h1 h2 (nochild j b hb)
 ·exact hali
 ·rw [hget] at hb;split at hb
  ·rename_i e;exact e.symm
  ·split at hb
   ·rename_i e;cases hb;have he':rb.root=i:=he
    exact absurd (hrr.symm.trans he') hr
   ·exact absurd he (nochild j b hb)
def Env.setτ (env:Env) (j:Nat) (x:Option Nat):Env := { env with τ:=fun i=>if i=j then x else env.τ i }
def Env.setβ (env:Env) (j:Nat) (x:Nat):Env := { env with β:=fun i=>if i=j then x else env.β i }
def Env.addφ (env:Env) (p:Nat→Prop):Env := { env with φ:=fun i=>env.φ i∨p i }
variable {S0:Nat→Prop} {env:Env} {a:Act} {vs:VS}
theorem Qd {α:Type} (l:List α) (x:α) (j:Nat):(l ++ [x])[j]? = if j=l.length then some x else l[j]? := by
 by_cases e:j=l.length
 ·subst e;simp
 ·rw [Jd e];rcases JB j l.length with h | h
  ·rw [JF h]
  ·rw [JN h,J1 (by simp;omega),J1 h]
theorem Jx {α:Type} {l:List α} {j:Nat} {x:α} (h:l[j]? = some x):j<l.length:=(List.getElem?_eq_some_iff.1 h).1
theorem XV.lt {X:Cx} {j:Nat} {b:Bf} {i:Nat} (hf:JdB X.m) (h:XV P X j b) (hi:X.env.τ j=some i):i<X.m.nxt:=by
 have h2:=h.2;rw [hi] at h2;obtain ⟨_,k,c,e,fr,h3,_⟩:=h2;exact Jcx hf h3
theorem XV.noS {X:Cx} {j:Nat} {b:Bf} {i:Nat} (h:XV P X j b) (hi:X.env.τ j=some i) : ¬X.S i:=by
 have h2:=h.2;rw [hi] at h2;exact h2.1
theorem XV.dead {X:Cx} {j:Nat} {b:Bf} (h:XV P X j b):XV P X j { b with live:=false }:=by
 refine ⟨h.1, ?_⟩;have h7:=h.2;split at h7
 ·exact h7
 ·rename_i i q;obtain ⟨g1,k,c,e,fr,g2,g3,g4,g5,g6,g7,_⟩:=h7;exact ⟨g1,k,c,e,fr,g2,g3,g4,g5,g6,g7,fun q=>by cases q⟩
theorem JK {bx:List (List Cl)} {j:Nat} {cs:List Cl} (h:bx[j]? = some cs):JM bx j=Xo cs:=by unfold JM;rw [h]
theorem QN {bx:List (List Cl)} {j:Nat} {cs:List Cl} (h:bx[j]? = some cs):lenOf bx j=JaQ cs:=by unfold lenOf;rw [h]
theorem JlX {bx:List (List Cl)} {j:Nat} (h:JM bx j=true) : ∃cs,bx[j]? = some cs∧Xo cs=true:=by
 unfold JM at h;split at h
 ·rename_i cs hcs;exact ⟨cs,hcs,h⟩
 ·cases h
theorem WbS {vs:VS} {S0:Nat→Prop} {env:Env} {m:M} : ∀i,Wb (vs.cx S0 env m) i→vs.S S0 env i:=fun i w => .inr w
theorem Jao.keep {X Y:Cx} {bx:List (List Cl)} {Wb' Wl':Nat→Prop} (h:Jao P X bx) (hfr:Fr2 Wb' Wl' X.m Y.m) (hle:Jac X Y) (hb : ∀i,Wb' i→False) (hl : ∀i,Wl' i → ¬X.S i) :
  (∀j b,X.bf[j]? = some b→(b.live=true → ∀i,X.env.τ j=some i → ¬Wl' i)→Y.env.τ j=X.env.τ j→XV P Y j b)∧(∀j cs,bx[j]? = some cs→Qy P Y j cs):=by
 refine ⟨fun j b hj hlive hτ=>XV.le hfr hle.mono (fun i w=>(hb i w).elim) hτ (h.bf j b hj) hlive,fun j cs hj => ?_⟩;have hjn:j<X.nb:=by rw [h.nb];exact Jx hj
 exact Qy.le h.free h.rts hfr hle (fun _=>hle.β j hjn) (h.bx j cs hj) (fun _ w=>hb _ w) (fun q w=>hl _ w (h.inS j hjn (by rw [h.has,JK hj];exact q)))
theorem Rel.addBuf (h : Rel P S0 env m a vs) {Wl' : Nat → Prop} (hfr : Fr2 (fun _ => False) Wl' m m1) {bf : List Bf} (hbf : ∀ j b', bf[j]? = some b' → ∃ b, vs.bf[j]? = some b ∧ (b' = b ∨ b' = { b with live := false }) ∧ (b'.live = true → ∀ i, env.τ j = some i → ¬ Wl' i))
  (hlen:bf.length=vs.bf.length) (hWl : ∀i,Wl' i→Wl (vs.cx S0 env m) i) {cp:Bool} {ty:Ty} {xs:List ty.El} {t:Option Nat} (ht : ∀i,t=some i→Wl' i∨m.nxt≤i)
  (hnew:XV P (({ vs with bf:=bf ++ [⟨ty,xs,true,cp⟩] }:VS).cx S0 (env.setτ vs.bf.length t) m1) vs.bf.length ⟨ty,xs,true,cp⟩) :
  Rel P S0 (env.setτ vs.bf.length t) m1 a { vs with bf:=bf ++ [⟨ty,xs,true,cp⟩] }∧Stp (vs.cx S0 env m) (({ vs with bf:=bf ++ [⟨ty,xs,true,cp⟩] }:VS).cx S0 (env.setτ vs.bf.length t) m1):=by
 have hT:=h.T;have hf:=hT.free;have hτ : ∀j,j<vs.bf.length→(env.setτ vs.bf.length t).τ j=env.τ j:=fun j hj=>by show (if j=vs.bf.length then t else env.τ j)=_;rw [Jd (by omega)]
 have hτn:(env.setτ vs.bf.length t).τ vs.bf.length=t:=by show (if _=_ then t else _)=_;rw [Jf rfl]
 have hback : ∀(j:Nat) (b:Bf),vs.bf[j]? = some b → ∃l:Bool,bf[j]? = some { b with live:=l }:=by
  intro j b hj;have hjl:=Jx hj;obtain ⟨b',hb'⟩ : ∃b',bf[j]? = some b':=⟨bf[j]'(by omega),by simp [hlen,hjl]⟩;obtain ⟨b0,h0,h1,_⟩:=hbf j b' hb';rw [hj] at h0;cases h0;rcases h1 with rfl | rfl
  ·exact ⟨b'.live,hb'⟩
  ·exact ⟨_,hb'⟩
 have hle:Jac (vs.cx S0 env m) (({ vs with bf:=bf ++ [⟨ty,xs,true,cp⟩] }:VS).cx S0 (env.setτ vs.bf.length t) m1):=by
  refine ⟨hfr.mono_row hf (fun _ w=>w.elim) (fun i w => .inl w),Je _,fun _ _=>rfl,fun j b hj => ?_,fun _ _ q=>q,fun _ _ _ q=>q,fun _ q=>q,fun _ q=>q,hfr.nxt,hfr.ty⟩;obtain ⟨l,h1⟩:=hback j b hj;exact ⟨l,by show (bf++_)[j]? = _;rw [Qd,Jd (by have:=Jx h1;omega)];exact h1,hτ j (Jx hj)⟩
 have hfr2:Fr2 (Wb (vs.cx S0 env m)) (Wl (vs.cx S0 env m)) m m1:=hfr.mono (fun _ w=>w.elim) (fun i w => .inl (hWl i w));have hk:=hT.keep (Y:=({ vs with bf:=bf ++ [⟨ty,xs,true,cp⟩] }:VS).cx S0 (env.setτ vs.bf.length t) m1) hfr hle (fun _ w=>w) (fun i w=>by
  obtain ⟨j,b,h1,_,h3⟩:=hWl i w;exact (hT.bf j b h1).noS h3)
 have hget : ∀j b',(bf ++ [(⟨ty,xs,true,cp⟩:Bf)])[j]? = some b'→(j=vs.bf.length∧b'=⟨ty,xs,true,cp⟩)∨(j<vs.bf.length∧bf[j]? = some b'):=by
  intro j b' hj;rw [Qd,hlen] at hj;split at hj
  ·rename_i e;cases hj;exact .inl ⟨e,rfl⟩
  ·exact .inr ⟨by rw [←hlen];exact Jx hj,hj⟩
 have hs:Stp (vs.cx S0 env m) (({ vs with bf:=bf ++ [⟨ty,xs,true,cp⟩] }:VS).cx S0 (env.setτ vs.bf.length t) m1):=by
  refine ⟨hfr2,hle,fun i w => .inl w,fun i w => ?_⟩;obtain ⟨j,b',h1,h2,h3⟩:=w;rcases hget j b' h1 with ⟨rfl,rfl⟩|⟨hj,hj2⟩
  ·have h3':t=some i:=hτn.symm.trans h3
   rcases ht i h3' with q | q
   ·exact .inl (hWl i q)
   ·exact .inr (.inr q)
  ·obtain ⟨b0,h4,h5,_⟩:=hbf j b' hj2;rcases h5 with rfl | rfl
   ·exact .inl ⟨j,_,h4,h2,(hτ j hj).symm.trans h3⟩
   ·cases h2
 refine ⟨h.step hs ?_ rfl rfl rfl,hs⟩;refine ⟨hfr.free,by show m1.bar≤m1.nxt;rw [hfr.bar];exact Jy hT.bar hfr.nxt,hT.nb,rfl,rfl,hT.inS,fun i w=>Jt (hT.slt i w) hfr.nxt,fun j b' hj => ?_,fun j j' b b' i h1 h2 l1 l2 t1 t2 => ?_,hk.2,hT.bxd,hT.φS,hT.φd,hfr.rts hT.rts,hfr.unq hT.rts hT.unq⟩
 ·rcases hget j b' hj with ⟨rfl,rfl⟩|⟨hjl,hj2⟩
  ·exact hnew
  ·obtain ⟨b0,h4,h5,h6⟩:=hbf j b' hj2;have hmono:=hle.mono;rcases h5 with rfl | rfl
   ·exact hk.1 j _ h4 h6 (hτ j hjl)
   ·exact XV.le (Wb:=fun _=>False) hfr hle.mono (fun _ w=>w.elim) (hτ j hjl) (hT.bf j _ h4).dead (fun q=>by cases q)
 ·have hno : ∀{j:Nat} {b:Bf},j<vs.bf.length→bf[j]? = some b→b.live=true→(env.setτ vs.bf.length t).τ j=some i→t=some i→False:=by
   intro j b hjl hj2 hlv hτj hti;rw [hτ j hjl] at hτj;obtain ⟨b0,h4,h5,h6⟩:=hbf j b hj2;rcases ht i hti with q | q
   ·exact h6 hlv i hτj q
   ·have:=(hT.bf j b0 h4).lt hf hτj
    have h8:i<m.nxt:=this;omega
  rcases hget j b h1 with ⟨rfl,rfl⟩|⟨hj,hj2⟩
  ·rcases hget j' b' h2 with ⟨rfl,rfl⟩|⟨hj',hj2'⟩
   ·rfl
   ·exact (hno hj' hj2' l2 t2 (hτn.symm.trans t1)).elim
  ·rcases hget j' b' h2 with ⟨rfl,rfl⟩|⟨hj',hj2'⟩
   ·exact (hno hj hj2 l1 t1 (hτn.symm.trans t2)).elim
   ·obtain ⟨b0,h4,h5,_⟩:=hbf j b hj2;obtain ⟨b0',h4',h5',_⟩:=hbf j' b' hj2';have l1':b0.live=true:=by rcases h5 with rfl | rfl;exact l1;cases l1
    have l2':b0'.live=true:=by rcases h5' with rfl | rfl;exact l2;cases l2
    exact hT.bfd j j' b0 b0' i h4 h4' l1' l2' ((hτ j hj).symm.trans t1) ((hτ j' hj').symm.trans t2)
end Go.IM.V
namespace Go.IM.V
open Go Go.IM
variable {P:Program} {m m1:M} {S0:Nat→Prop} {env:Env} {a:Act} {vs:VS}
theorem setτ_new (env:Env) (j:Nat) (x:Option Nat):(env.setτ j x).τ j=x:=by show (if _=_ then x else _)=_;rw [Jf rfl]
theorem setτ_old (env:Env) {j i:Nat} (x:Option Nat) (h:i≠j):(env.setτ j x).τ i=env.τ i:=by show (if _=_ then x else _)=_;rw [Jd h]
theorem J6 (env:Env) (j:Nat) (x:Nat):(env.setβ j x).β j=x:=by show (if _=_ then x else _)=_;rw [Jf rfl]
theorem Jas (env:Env) {j i:Nat} (x:Nat) (h:i≠j):(env.setβ j x).β i=env.β i:=by show (if _=_ then x else _)=_;rw [Jd h]
def Els (P:Program) (S:Nat→Prop) (m:M) (ty:Ty) (xs:List ty.El) (c:Array Value):Prop:=
 c.size=xs.length*ty.n ∧ ∀(q:Nat) (x:ty.El),xs[q]? = some x→QR P S m ty x (c.extract (q*ty.n) (q*ty.n+ty.n)).toList
theorem Els.mono {S S':Nat→Prop} {m m':M} (h:Jex S m S' m') {ty:Ty} {xs:List ty.El} {c:Array Value} (k:Els P S m ty xs c):Els P S' m' ty xs c:=⟨k.1,fun q x hx=>QR.mono h (k.2 q x hx)⟩
theorem Rel.newBuf (h:Rel P S0 env m a vs) {ty:Ty} {xs:List ty.El} {c:Array Value} {e:TypeId} {ad:Addr} (hn:0<ty.n) (hc:P.cellsOf e=ty.n) (hm:m.new c e=some (ad,m1)) (hx:Els P (vs.S S0 env) m ty xs c) :
  ad=⟨m.nxt,0,none⟩∧Rel P S0 (env.setτ vs.bf.length (some m.nxt)) m1 a (V.newBuf vs ty xs).2∧Stp (vs.cx S0 env m) ((V.newBuf vs ty xs).2.cx S0 (env.setτ vs.bf.length (some m.nxt)) m1) ∧
   J8 P ((V.newBuf vs ty xs).2.cx S0 (env.setτ vs.bf.length (some m.nxt)) m1) (V.newBuf vs ty xs).1 (.slice (some ad) xs.length xs.length):=by
 obtain ⟨_,rfl,hf,rfl⟩:=JaP hm;have hT:=h.T;have hmono:Jex (vs.S S0 env) m (vs.S S0 env) (m.mk1 (.cells c e)):=(Ja6 hT.free (.cells c e)).mono_row hT.free (fun _ w=>w.elim) (fun i w => .inl w);obtain ⟨h1,h2⟩:=h.addBuf (m1:=m.mk1 (.cells c e)) (cp:=false) (ty:=ty) (xs:=xs) (t:=some m.nxt) (Ja6 hT.free _) (bf:=vs.bf) (fun j b hj=>⟨b,hj,.inl rfl,fun _ _ _ w=>w⟩) rfl (fun _ w=>w.elim) (fun i hi=>by cases hi;exact .inr (Je _)) (by
  refine ⟨hn, ?_⟩;show (match (env.setτ vs.bf.length (some m.nxt)).τ vs.bf.length with | none=>_ | some i=>_);rw [setτ_new];dsimp only;refine ⟨fun w => ?_,_,c,e,(0,0),Xa _,rfl,hc,rfl,hx.1,(hx.mono hmono).2,fun _=>⟨rfl,Nat.le_succ _⟩⟩;exact absurd (hT.slt _ w) (Nat.lt_irrefl _))
 refine ⟨rfl,h1,h2,⟨⟨ty,xs,true,false⟩, ?_, ?_⟩⟩
 ·show (vs.bf ++ [_])[vs.bf.length]? = _;rw [Qd,Jf rfl]
 ·show JjO P _ _ ((env.setτ vs.bf.length (some m.nxt)).τ vs.bf.length) _;rw [setτ_new];rfl
theorem Rel.newCap (h:Rel P S0 env m a vs) {cp:Bool} {ty:Ty} {xs:List ty.El} {v:Value} (hn:0<ty.n) (hcp:cp=false→xs = []) (hv:capV v) (hr:Jbu P (vs.S S0 env) m ty.n (QR P (vs.S S0 env) m ty) xs v) :
  Rel P S0 (env.setτ vs.bf.length none) m a (V.newBufC cp vs ty xs).2∧Stp (vs.cx S0 env m) ((V.newBufC cp vs ty xs).2.cx S0 (env.setτ vs.bf.length none) m) ∧
   J8 P ((V.newBufC cp vs ty xs).2.cx S0 (env.setτ vs.bf.length none) m) (V.newBufC cp vs ty xs).1 v:=by
 have hT:=h.T;obtain ⟨h1,h2⟩:=h.addBuf (m1:=m) (cp:=cp) (ty:=ty) (xs:=xs) (t:=none) (Wl':=fun _=>False) (Fr2.refl hT.free) (bf:=vs.bf) (fun j b hj=>⟨b,hj,.inl rfl,fun _ _ _ w=>w⟩) rfl (fun _ w=>w.elim) (fun i hi=>by cases hi) (by
  refine ⟨hn, ?_⟩;show (match (env.setτ vs.bf.length none).τ vs.bf.length with | none=>_ | some i=>_);rw [setτ_new];exact hcp)
 refine ⟨h1,h2,⟨⟨ty,xs,true,cp⟩, ?_, ?_⟩⟩
 ·show (vs.bf ++ [_])[vs.bf.length]? = _;rw [Qd,Jf rfl]
 ·show JjO P _ _ ((env.setτ vs.bf.length none).τ vs.bf.length) _;rw [setτ_new];exact ⟨hv,hr⟩
theorem Rel.newNil (h:Rel P S0 env m a vs) {ty:Ty} (hn:0<ty.n) :
  Rel P S0 (env.setτ vs.bf.length none) m a (V.newBuf vs ty []).2∧Stp (vs.cx S0 env m) ((V.newBuf vs ty []).2.cx S0 (env.setτ vs.bf.length none) m) ∧
   J8 P ((V.newBuf vs ty []).2.cx S0 (env.setτ vs.bf.length none) m) (V.newBuf vs ty []).1 (.slice none 0 0):=
 h.newCap (cp:=false) hn (fun _=>rfl) (.inl rfl) (.inl ⟨rfl,rfl⟩)
theorem JbD : ∀(bf:List Bf) (j:Nat),(freeze bf j).length=bf.length:=by
 intro bf;induction bf with
 | nil=>intro j;rfl
 | cons b r ih=>intro j;cases j with
  | zero=>rfl
  | succ j=>simp [freeze,ih]
theorem JdX : ∀(bf:List Bf) (j i:Nat),(freeze bf j)[i]? = if i=j then (bf[i]?).map (fun b => { b with live:=false }) else bf[i]? := by
 intro bf;induction bf with
 | nil=>intro j i;simp [freeze]
 | cons b r ih=>
  intro j i;cases j with
  | zero=>cases i with
   | zero=>simp [freeze]
   | succ i=>simp [freeze]
  | succ j=>cases i with
   | zero=>simp [freeze]
   | succ i=>simp [freeze,ih]
theorem Rel.useBuf (h:Rel P S0 env m a vs) {j:Nat} {b:Bf} (hj:vs.bf[j]? = some b) (hlive:b.live=true) {cp:Bool} {ty:Ty} {xs:List ty.El} {t:Option Nat}
  (hfr:Fr2 (fun _=>False) (fun i=>env.τ j=some i) m m1) (ht : ∀i,t=some i→env.τ j=some i∨m.nxt≤i)
  (hnew:XV P (({ vs with bf:=freeze vs.bf j ++ [⟨ty,xs,true,cp⟩] }:VS).cx S0 (env.setτ vs.bf.length t) m1) vs.bf.length ⟨ty,xs,true,cp⟩) {v:Value}
  (hv:JjO P (({ vs with bf:=freeze vs.bf j ++ [⟨ty,xs,true,cp⟩] }:VS).cx S0 (env.setτ vs.bf.length t) m1) ⟨ty,xs,true,cp⟩ t v) :
  Rel P S0 (env.setτ vs.bf.length t) m1 a (V.newBufC cp { vs with bf:=freeze vs.bf j } ty xs).2∧Stp (vs.cx S0 env m) ((V.newBufC cp { vs with bf:=freeze vs.bf j } ty xs).2.cx S0 (env.setτ vs.bf.length t) m1) ∧
   J8 P ((V.newBufC cp { vs with bf:=freeze vs.bf j } ty xs).2.cx S0 (env.setτ vs.bf.length t) m1) (V.newBufC cp { vs with bf:=freeze vs.bf j } ty xs).1 v:=by
 have hT:=h.T;obtain ⟨h1,h2⟩:=h.addBuf (m1:=m1) (cp:=cp) (ty:=ty) (xs:=xs) (t:=t) hfr (bf:=freeze vs.bf j) (fun i b' hi=>by
  rw [JdX] at hi;split at hi
  ·rename_i e;subst e;rw [hj] at hi;simp only [JU,Jg] at hi;subst hi;exact ⟨b,hj,.inr rfl,fun q=>by cases q⟩
  ·rename_i e;refine ⟨b',hi,.inl rfl,fun q i' hi' w=>e ?_⟩;exact hT.bfd i j b' b i' hi hj q hlive hi' w) (JbD _ _) (fun i w=>⟨j,b,hj,hlive,w⟩) ht hnew
 refine ⟨h1,h2,⟨⟨ty,xs,true,cp⟩, ?_, ?_⟩⟩
 ·show (freeze vs.bf j ++ [_])[(freeze vs.bf j).length]? = _;rw [Qd,Jf rfl]
 ·show JjO P _ _ ((env.setτ vs.bf.length t).τ (freeze vs.bf j).length) _;rw [JbD,setτ_new];exact hv
theorem Xi (bx:List (List Cl)) (cs:List Cl) (j:Nat):JM (bx ++ [cs]) j=if j=bx.length then Xo cs else JM bx j:=by
 unfold JM;rw [Qd];by_cases e:j=bx.length
 ·rw [Jf e,Jf e]
 ·rw [Jd e,Jd e]
theorem XM (bx:List (List Cl)) (cs:List Cl) (j:Nat):lenOf (bx ++ [cs]) j=if j=bx.length then JaQ cs else lenOf bx j:=by
 unfold lenOf;rw [Qd];by_cases e:j=bx.length
 ·rw [Jf e,Jf e]
 ·rw [Jd e,Jd e]
theorem Rel.addBox (h : Rel P S0 env m a vs) {cs : List Cl} {i : Nat} (hfr : Fr2 (fun _ => False) (fun _ => False) m m1) (hi : Xo cs = true → m.nxt ≤ i ∧ i < m1.nxt)
  (hnew:Qy P ((V.newBox vs cs).2.cx S0 (env.setβ vs.bx.length i) m1) vs.bx.length cs) :
  Rel P S0 (env.setβ vs.bx.length i) m1 a (V.newBox vs cs).2∧Stp (vs.cx S0 env m) ((V.newBox vs cs).2.cx S0 (env.setβ vs.bx.length i) m1):=by
 have hT:=h.T;have hβ : ∀j,j<vs.bx.length→(env.setβ vs.bx.length i).β j=env.β j:=fun j hj=>Jas _ _ (by omega)
 have hnb:(V.newBox vs cs).2.bx.length=vs.bx.length+1:=by show (vs.bx ++ [cs]).length=_;simp
 have hho : ∀j,j<vs.bx.length→JM (V.newBox vs cs).2.bx j=JM vs.bx j:=fun j hj=>by show JM (vs.bx ++ [cs]) j=_;rw [Xi,Jd (by omega)]
 have hhn:JM (V.newBox vs cs).2.bx vs.bx.length=Xo cs:=by show JM (vs.bx ++ [cs]) _=_;rw [Xi,Jf rfl]
 have hlo : ∀j,j<vs.bx.length→lenOf (V.newBox vs cs).2.bx j=lenOf vs.bx j:=fun j hj=>by show lenOf (vs.bx ++ [cs]) j=_;rw [XM,Jd (by omega)]
 have hS : ∀q,(V.newBox vs cs).2.S S0 (env.setβ vs.bx.length i) q→vs.S S0 env q∨(Xo cs=true∧q=i):=by
  intro q w;rcases w with w|⟨j,h1,h3,h2⟩|w
  ·exact .inl (.inl w)
  ·rw [hnb] at h1;rcases JB j vs.bx.length with hj | hj
   ·exact .inl (.inr (.inl ⟨j,hj,by rw [←hho j hj];exact h3,by rw [←hβ j hj];exact h2⟩))
   ·obtain rfl:j=vs.bx.length:=by omega
    rw [J6] at h2;rw [hhn] at h3;exact .inr ⟨h3,h2.symm⟩
  ·exact .inl (.inr (.inr w))
 have hle:Jac (vs.cx S0 env m) ((V.newBox vs cs).2.cx S0 (env.setβ vs.bx.length i) m1):=
  ⟨hfr.mono_row hT.free (fun _ w=>w.elim) (fun q w=>(hS q w).imp id (fun ⟨h1,h2⟩=>by rw [h2];exact (hi h1).1)),by show vs.bx.length≤(V.newBox vs cs).2.bx.length;omega,hβ,fun j b hb=>⟨b.live,hb,rfl⟩,
   fun j hj q=>(hho j hj).symm.trans q,fun j L hj q=>(hlo j hj).symm.trans q,fun _ q=>q,fun _ q=>q,hfr.nxt,hfr.ty⟩
 have hs:Stp (vs.cx S0 env m) ((V.newBox vs cs).2.cx S0 (env.setβ vs.bx.length i) m1):=by
  refine ⟨hfr.mono (fun _ w=>w.elim) (fun _ w=>w.elim),hle,fun q w => ?_,fun i w => .inl w⟩;rcases w with ⟨j,h1,h3,h2⟩|w
  ·have h1':j<vs.bx.length+1:=by rw [←hnb];exact h1
   rcases JB j vs.bx.length with hj | hj
   ·exact .inl (.inl ⟨j,hj,(hho j hj).symm.trans h3,(hβ j hj).symm.trans h2⟩)
   ·obtain rfl:j=vs.bx.length:=by omega
    have h2':(env.setβ vs.bx.length i).β vs.bx.length=q:=h2
    rw [J6] at h2';have h3':JM (V.newBox vs cs).2.bx vs.bx.length=true:=h3
    rw [hhn] at h3';exact .inr (by show m.nxt≤q;rw [←h2'];exact (hi h3').1)
  ·exact .inl (.inr w)
 have hk:=hT.keep (Y:=(V.newBox vs cs).2.cx S0 (env.setβ vs.bx.length i) m1) hfr hle (fun _ w=>w) (fun _ w=>w.elim);have hβlt : ∀j,j<vs.bx.length→JM vs.bx j=true→env.β j<m.nxt:=fun j hj hh=>hT.slt _ (hT.inS j hj hh)
 refine ⟨h.step hs ?_ rfl rfl rfl,hs⟩;refine ⟨hfr.free,by show m1.bar≤m1.nxt;rw [hfr.bar];exact Jy hT.bar hfr.nxt,rfl,rfl,rfl,fun j hj hh => .inr (.inl ⟨j,hj,hh,rfl⟩),fun q w => ?_,fun j b hj=>hk.1 j b hj (fun _ _ _ w=>w) rfl,hT.bfd,fun j cs' hj => ?_,fun j j' h1 h2 g1 g2 h3 => ?_,fun q w => .inr (.inr w),fun j h1 h2 w => ?_,hfr.rts hT.rts,hfr.unq hT.rts hT.unq⟩
 ·rcases hS q w with w2|⟨w2,e⟩
  ·exact Jt (hT.slt q w2) hfr.nxt
  ·rw [e];exact (hi w2).2
 ·have hj':(vs.bx ++ [cs])[j]? = some cs':=hj
  rw [Qd] at hj';split at hj'
  ·rename_i e1;subst e1;cases hj';exact hnew
  ·exact hk.2 j cs' hj'
 ·have h1':j<vs.bx.length+1:=by rw [←hnb];exact h1
  have h2':j'<vs.bx.length+1:=by rw [←hnb];exact h2
  have h3':(env.setβ vs.bx.length i).β j=(env.setβ vs.bx.length i).β j':=h3
  have g1':JM (V.newBox vs cs).2.bx j=true:=g1
  have g2':JM (V.newBox vs cs).2.bx j'=true:=g2
  rcases JB j vs.bx.length with hj | hj
  ·rw [hho j hj] at g1';rcases JB j' vs.bx.length with hj' | hj'
   ·rw [hho j' hj'] at g2';rw [hβ j hj,hβ j' hj'] at h3';exact hT.bxd j j' hj hj' g1' g2' h3'
   ·obtain rfl:j'=vs.bx.length:=by omega
    rw [hβ j hj,J6] at h3';rw [hhn] at g2';have:=hβlt j hj g1';have:=(hi g2').1;omega
  ·obtain rfl:j=vs.bx.length:=by omega
   rw [hhn] at g1';rcases JB j' vs.bx.length with hj' | hj'
   ·rw [hho j' hj'] at g2';rw [hβ j' hj',J6] at h3';have:=hβlt j' hj' g2';have:=(hi g1').1;omega
   ·omega
 ·have h1':j<vs.bx.length+1:=by rw [←hnb];exact h1
  have g1':JM (V.newBox vs cs).2.bx j=true:=h2
  have w':env.φ ((env.setβ vs.bx.length i).β j):=w
  rcases JB j vs.bx.length with hj | hj
  ·rw [hho j hj] at g1';rw [hβ j hj] at w';exact hT.φd j hj g1' w'
  ·obtain rfl:j=vs.bx.length:=by omega
   rw [hhn] at g1';rw [J6] at w';have h5:i<m.nxt:=hT.slt i (.inr (.inr w'));have:=(hi g1').1
   omega
theorem Rel.newBox (h : Rel P S0 env m a vs) {cs : List Cl} {c : Array Value} {e : TypeId} {ad : Addr} (hm : m.new c e = some (ad, m1)) (hx : Qa P (vs.cx S0 env m) cs c.toList) :
  Rel P S0 (env.setβ vs.bx.length m.nxt) m1 a (V.newBox vs cs).2∧Stp (vs.cx S0 env m) ((V.newBox vs cs).2.cx S0 (env.setβ vs.bx.length m.nxt) m1) ∧
   J8 P ((V.newBox vs cs).2.cx S0 (env.setβ vs.bx.length m.nxt) m1) (V.newBox vs cs).1 (.pointer (some ad)):=by
 obtain ⟨_,rfl,hf,rfl⟩:=JaP hm;have hT:=h.T;have hfr:=Ja6 hT.free (.cells c e);have hrun:J9 cs=false:=JsV hx;have hβ : ∀j,j<vs.bx.length→(env.setβ vs.bx.length m.nxt).β j=env.β j:=fun j hj=>Jas _ _ (by omega)
 have hnb:(V.newBox vs cs).2.bx.length=vs.bx.length+1:=by show (vs.bx ++ [cs]).length=_;simp
 have hho : ∀j,j<vs.bx.length→JM (V.newBox vs cs).2.bx j=JM vs.bx j:=fun j hj=>by show JM (vs.bx ++ [cs]) j=_;rw [Xi,Jd (by omega)]
 have hlo : ∀j,j<vs.bx.length→lenOf (V.newBox vs cs).2.bx j=lenOf vs.bx j:=fun j hj=>by show lenOf (vs.bx ++ [cs]) j=_;rw [XM,Jd (by omega)]
 have hle:Jac (vs.cx S0 env m) ((V.newBox vs cs).2.cx S0 (env.setβ vs.bx.length m.nxt) (m.mk1 (.cells c e))):=by
  refine ⟨hfr.mono_row hT.free (fun _ w=>w.elim) (fun q w => ?_),by show vs.bx.length≤(V.newBox vs cs).2.bx.length;omega,hβ,fun j b hb=>⟨b.live,hb,rfl⟩,
   fun j hj q=>(hho j hj).symm.trans q,fun j L hj q=>(hlo j hj).symm.trans q,fun _ q=>q,fun _ q=>q,hfr.nxt,hfr.ty⟩
  rcases w with w|⟨j,h1,h3,h2⟩|w
  ·exact .inl (.inl w)
  ·rw [hnb] at h1;rcases JB j vs.bx.length with hj | hj
   ·exact .inl (.inr (.inl ⟨j,hj,by rw [←hho j hj];exact h3,by rw [←hβ j hj];exact h2⟩))
   ·obtain rfl:j=vs.bx.length:=by omega
    rw [J6] at h2;exact .inr (by show m.nxt≤q;omega)
  ·exact .inl (.inr (.inr w))
 obtain ⟨h1,h2⟩:=h.addBox (cs:=cs) (i:=m.nxt) hfr (fun _=>⟨Je _,Nat.lt_succ_self _⟩) (Qy.of hrun (by
  refine ⟨_,c,e,(0,0),by show (m.mk1 _).alive ((env.setβ vs.bx.length m.nxt).β vs.bx.length)=_;rw [J6];exact Xa _,rfl,rfl,rfl,by show m.nxt=(env.setβ vs.bx.length m.nxt).β vs.bx.length;rw [J6],hx.le hle⟩))
 refine ⟨h1,h2,by show vs.bx.length<(V.newBox vs cs).2.bx.length;omega,m.nxt,rfl,Nat.lt_succ_self _,fun _ => ?_⟩
 show m.nxt=(env.setβ vs.bx.length m.nxt).β vs.bx.length;rw [J6]
theorem Rel.newRunG (h : Rel P S0 env m a vs) {arr : Bool} {ty : Ty} {xs : List ty.El} {c : Array Value} {e : TypeId} {ad : Addr} (hn : 0 < ty.n) (hc : arr = false → P.cellsOf e = ty.n) (hm : m.new c e = some (ad, m1)) (hx : Els P (vs.S S0 env) m ty xs c) (hne : xs ≠ []) :
  Rel P S0 (env.setβ vs.bx.length m.nxt) m1 a (V.newBox vs [bif arr then .ra ty xs else .r true ty xs]).2∧Stp (vs.cx S0 env m) ((V.newBox vs [bif arr then .ra ty xs else .r true ty xs]).2.cx S0 (env.setβ vs.bx.length m.nxt) m1):=by
 obtain ⟨_,rfl,hf,rfl⟩:=JaP hm;have hT:=h.T;have hfr:=Ja6 hT.free (.cells c e);have hS : ∀q,(V.newBox vs [bif arr then .ra ty xs else .r true ty xs]).2.S S0 (env.setβ vs.bx.length m.nxt) q→vs.S S0 env q∨m.nxt≤q:=by
  intro q w;rcases w with w|⟨j,h1,h3,h2⟩|w
  ·exact .inl (.inl w)
  ·have h1':j<vs.bx.length+1:=by
    have:(V.newBox vs [bif arr then .ra ty xs else .r true ty xs]).2.bx.length=vs.bx.length+1:=by show (vs.bx ++ [_]).length=_;simp
    omega
   rcases JB j vs.bx.length with hj | hj
   ·rw [Jas _ _ (by omega)] at h2;refine .inl (.inr (.inl ⟨j,hj, ?_,h2⟩));have h3':JM (vs.bx ++ [[bif arr then .ra ty xs else .r true ty xs]]) j=true:=h3
    rw [Xi,Jd (by omega)] at h3';exact h3'
   ·obtain rfl:j=vs.bx.length:=by omega
    rw [J6] at h2;exact .inr (by omega)
  ·exact .inl (.inr (.inr w))
 have hmono:Jex (vs.S S0 env) m ((V.newBox vs [bif arr then .ra ty xs else .r true ty xs]).2.S S0 (env.setβ vs.bx.length m.nxt)) (m.mk1 (.cells c e)):=hfr.mono_row hT.free (fun _ w=>w.elim) hS;have hrun:JaA P ((V.newBox vs [bif arr then .ra ty xs else .r true ty xs]).2.cx S0 (env.setβ vs.bx.length m.nxt) (m.mk1 (.cells c e))) vs.bx.length arr ty xs:=by
  refine ⟨hn,fun _ => ?_⟩;have hβ:(env.setβ vs.bx.length m.nxt).β vs.bx.length=m.nxt:=J6 _ _ _;show ∃k c' eo fr,(m.mk1 _).alive ((env.setβ vs.bx.length m.nxt).β vs.bx.length)=some k∧_;rw [hβ];refine ⟨_,c,e,(0,0),Xa _,rfl,rfl,rfl,⟨Nat.le_succ _,fun _=>hβ.symm⟩,hc,hx.1,(hx.mono hmono).2,⟨_,by show (m.mk1 _).get m.nxt=_;rw [Qp,Jf rfl],rfl⟩,fun q b hb hr => ?_⟩
  have hb':(m.mk1 (.cells c e)).get q=some b:=hb
  rw [Qp] at hb';split at hb'
  ·rename_i e;left;rw [e];exact hβ.symm
  ·have:=hT.rts.lt hT.free hb'
   have hr':b.root=m.nxt:=hr
   have this':b.root<m.nxt:=this
   omega
 refine h.addBox (cs := [bif arr then .ra ty xs else .r true ty xs]) (i:=m.nxt) hfr (fun _=>⟨Je _,Nat.lt_succ_self _⟩) ?_;cases arr with
 | true=>exact hrun
 | false=>
  refine ⟨hrun,fun _ _ w => ?_⟩;have w':S0 ((env.setβ vs.bx.length m.nxt).β vs.bx.length):=w
  rw [J6] at w';exact absurd (hT.slt m.nxt (.inl w')) (Nat.lt_irrefl _)
theorem Rel.newRun (h:Rel P S0 env m a vs) {ty:Ty} {xs:List ty.El} {c:Array Value} {e:TypeId} {ad:Addr} (hn:0<ty.n) (hc:P.cellsOf e=ty.n) (hm:m.new c e=some (ad,m1)) (hx:Els P (vs.S S0 env) m ty xs c) (hne:xs ≠ []) :
  ad=⟨m.nxt,0,none⟩∧Rel P S0 (env.setβ vs.bx.length m.nxt) m1 a (V.newRun vs ty xs).2∧Stp (vs.cx S0 env m) ((V.newRun vs ty xs).2.cx S0 (env.setβ vs.bx.length m.nxt) m1) ∧
   J8 P ((V.newRun vs ty xs).2.cx S0 (env.setβ vs.bx.length m.nxt) m1) (V.newRun vs ty xs).1 (.slice (some ad) xs.length xs.length):=by
 obtain ⟨h1,h2⟩:=h.newRunG (arr:=false) hn (fun _=>hc) hm hx hne;obtain ⟨_,rfl,hf,rfl⟩:=JaP hm;refine ⟨rfl,h1,h2, ?_,⟨rfl,.inr (Nat.lt_succ_self _)⟩,fun L hL => ?_⟩
 ·show vs.bx.length<(vs.bx ++ [_]).length;simp
 ·have hL':lenOf (vs.bx ++ [[.r true ty xs]]) vs.bx.length=some L:=hL
  rw [XM,Jf rfl] at hL';cases hL';refine ⟨fun h0=>absurd (JT h0) hne,fun _ => ?_⟩;show _=Value.slice (some ⟨(env.setβ vs.bx.length m.nxt).β vs.bx.length,0,none⟩) _ _;rw [J6]
theorem Rel.newRunE (h:Rel P S0 env m a vs) {ty:Ty} {v:Value} (hn:0<ty.n) (hv:Jl7 v) :
  Rel P S0 (env.setβ vs.bx.length 0) m a (V.newRun vs ty []).2∧Stp (vs.cx S0 env m) ((V.newRun vs ty []).2.cx S0 (env.setβ vs.bx.length 0) m)∧J8 P ((V.newRun vs ty []).2.cx S0 (env.setβ vs.bx.length 0) m) (V.newRun vs ty []).1 v:=by
 have hT:=h.T;obtain ⟨h1,h2⟩:=h.addBox (cs := [.r true ty []]) (i:=0) (Fr2.refl hT.free) (fun w=>by cases w) ⟨⟨hn,fun w=>absurd rfl w⟩,fun _ w=>absurd rfl w⟩;refine ⟨h1,h2,by show vs.bx.length<(vs.bx ++ [_]).length;simp,⟨?_,JbH hv _⟩,fun L hL => ?_⟩
 ·rcases hv with rfl|⟨i,o,rfl⟩ <;> rfl
 ·have hL':lenOf (vs.bx ++ [[.r true ty []]]) vs.bx.length=some L:=hL
  rw [XM,Jf rfl] at hL';cases hL';exact ⟨fun _=>hv,fun w=>absurd w (Nat.lt_irrefl _)⟩
theorem Rel.newB (h:Rel P S0 env m a vs) {hot:Bool} {ty:Ty} {xs:List ty.El} {c:Array Value} {e:TypeId} {ad:Addr} (hn:0<ty.n) (hc:P.cellsOf e=ty.n) (hm:m.new c e=some (ad,m1)) (hx:Els P (vs.S S0 env) m ty xs c) (hne:hot=true→xs ≠ []) :
  ad=⟨m.nxt,0,none⟩ ∧ ∃env1,Rel P S0 env1 m1 a (V.newB hot vs ty xs).2∧Stp (vs.cx S0 env m) ((V.newB hot vs ty xs).2.cx S0 env1 m1)∧J8 P ((V.newB hot vs ty xs).2.cx S0 env1 m1) (V.newB hot vs ty xs).1 (.slice (some ad) xs.length xs.length):=by
 cases hot with
 | false=>
  obtain ⟨h1,h2,h3,h4⟩:=h.newBuf hn hc hm hx;exact ⟨h1,_,h2,h3,h4⟩
 | true=>
  obtain ⟨h1,h2,h3,h4⟩:=h.newRun hn hc hm hx (hne rfl);exact ⟨h1,_,h2,h3,h4⟩
theorem Rel.newBE (h:Rel P S0 env m a vs) {hot:Bool} {ty:Ty} {v:Value} (hn:0<ty.n) (hv:Jl7 v) :
  ∃env1,Rel P S0 env1 m a (V.newB hot vs ty []).2∧Stp (vs.cx S0 env m) ((V.newB hot vs ty []).2.cx S0 env1 m)∧J8 P ((V.newB hot vs ty []).2.cx S0 env1 m) (V.newB hot vs ty []).1 v:=by
 cases hot with
 | false=>
  refine ⟨_,h.newCap (cp:=false) hn (fun _=>rfl) ?_ ?_⟩
  ·rcases hv with rfl|⟨i,o,rfl⟩
   ·exact .inl rfl
   ·exact .inr ⟨i,o,0,rfl⟩
  ·rcases hv with rfl|⟨i,o,rfl⟩
   ·exact .inl ⟨rfl,rfl⟩
   ·exact .inr ⟨i,o,_,0,rfl,Je _,.inl rfl⟩
 | true=>exact ⟨_,h.newRunE hn hv⟩
theorem Qc {α:Type} : ∀(l:List α) (j:Nat) (x:α),(QC l j x).length=l.length:=by
 intro l;induction l with
 | nil=>intro j x;rfl
 | cons b r ih=>intro j x;cases j with
  | zero=>rfl
  | succ j=>simp [QC,ih]
theorem Jat {α:Type} : ∀(l:List α) (j i:Nat) (x:α),(QC l j x)[i]? = if i=j then (l[i]?).map (fun _=>x) else l[i]? := by
 intro l;induction l with
 | nil=>intro j i x;simp [QC]
 | cons b r ih=>
  intro j i x;cases j with
  | zero=>cases i with
   | zero=>simp [QC]
   | succ i=>simp [QC]
  | succ j=>cases i with
   | zero=>simp [QC]
   | succ i=>simp [QC,ih]
theorem Jbn {bx:List (List Cl)} {j:Nat} {cs ns:List Cl} (hj:bx[j]? = some cs) (i:Nat):JM (QC bx j ns) i=if i=j then Xo ns else JM bx i:=by
 unfold JM;rw [Jat];by_cases e:i=j
 ·subst e;rw [Jf rfl,Jf rfl,hj];rfl
 ·rw [Jd e,Jd e]
theorem Jgn {bx:List (List Cl)} {j:Nat} {cs ns:List Cl} (hj:bx[j]? = some cs) (i:Nat):lenOf (QC bx j ns) i=if i=j then JaQ ns else lenOf bx i:=by
 unfold lenOf;rw [Jat];by_cases e:i=j
 ·subst e;rw [Jf rfl,Jf rfl,hj];rfl
 ·rw [Jd e,Jd e]
theorem JuF {j:Nat} {cs ns:List Cl} (hj:vs.bx[j]? = some cs) (hh:Xo ns=Xo cs) (hl:JaQ ns=JaQ cs) (m1:M) :
  ({ vs with bx:=QC vs.bx j ns }:VS).cx S0 env m1 = { vs.cx S0 env m with m:=m1 }:=by
 have h1:JM (QC vs.bx j ns)=JM vs.bx:=by
  funext i
  rw [Jbn hj];split
  ·rename_i e;subst e;rw [hh];exact (JK hj).symm
  ·rfl
 have h2:lenOf (QC vs.bx j ns)=lenOf vs.bx:=by
  funext i
  rw [Jgn hj];split
  ·rename_i e;subst e;rw [hl];exact (QN hj).symm
  ·rfl
 unfold VS.cx VS.S;simp only [h1,h2,Qc]
theorem Rel.setBox (h:Rel P S0 env m a vs) {j:Nat} {cs ns:List Cl} (hj:vs.bx[j]? = some cs) (hcs:Xo cs=true) (hh:Xo ns=Xo cs) (hl:JaQ ns=JaQ cs) {Wb':Nat→Prop} (hfr:Fr2 Wb' (fun _=>False) m m1)
  (hW : ∀i,Wb' i→i=env.β j∨env.φ i) (hnew:Qy P { vs.cx S0 env m with m:=m1 } j ns) :
  Rel P S0 env m1 a { vs with bx:=QC vs.bx j ns }∧Stp (vs.cx S0 env m) (({ vs with bx:=QC vs.bx j ns }:VS).cx S0 env m1):=by
 have hT:=h.T;have hcx:=JuF (S0:=S0) (env:=env) (m:=m) hj hh hl m1;have hlen:=Qc vs.bx j ns;have hjl:=Jx hj;have hWb : ∀i,Wb' i→Wb (vs.cx S0 env m) i:=fun i w=>by
  rcases hW i w with w | w
  ·exact .inl ⟨j,hjl,by rw [←hcs];exact JK hj,w.symm⟩
  ·exact .inr w
 have hle:Jac (vs.cx S0 env m) { vs.cx S0 env m with m:=m1 }:=
  ⟨hfr.mono_row hT.free (fun i w=>WbS i (hWb i w)) (fun i w => .inl w),Je _,fun _ _=>rfl,fun q b hb=>⟨b.live,hb,rfl⟩,fun _ _ q=>q,fun _ _ _ q=>q,fun _ q=>q,fun _ q=>q,hfr.nxt,hfr.ty⟩
 have hs:Stp (vs.cx S0 env m) (({ vs with bx:=QC vs.bx j ns }:VS).cx S0 env m1):=by
  rw [hcx];exact ⟨hfr.mono hWb (fun _ w=>w.elim),hle,fun i w => .inl w,fun i w => .inl w⟩
 refine ⟨h.step hs ?_ rfl rfl rfl,hs⟩;rw [hcx];refine ⟨hfr.free,by show m1.bar≤m1.nxt;rw [hfr.bar];exact Jy hT.bar hfr.nxt,hlen.symm, ?_, ?_,hT.inS,fun i w=>Jt (hT.slt i w) hfr.nxt,fun q b hq=>XV.le hfr hle.mono (fun i w=>WbS i (hWb i w)) rfl (hT.bf q b hq) (fun _ _ _ w=>w),hT.bfd,fun q cs' hq => ?_,hT.bxd,hT.φS,hT.φd,hfr.rts hT.rts,hfr.unq hT.rts hT.unq⟩
 ·have:=congrArg Cx.has hcx;exact this.symm
 ·have:=congrArg Cx.len hcx;exact this.symm
 ·have hq':(QC vs.bx j ns)[q]? = some cs':=hq
  rw [Jat] at hq';split at hq'
  ·rename_i e1;subst e1;rw [hj] at hq';simp only [JU,Jg] at hq';subst hq';exact hnew
  ·rename_i e1;have hql:q<vs.bx.length:=Jx hq';refine Qy.le hT.free hT.rts hfr hle (fun _=>rfl) (hT.bx q cs' hq') (fun w1 w => ?_) (fun _ w=>w);have w2:JM vs.bx q=true:=by rw [←w1];exact JK hq'
   rcases hW _ w with w | w
   ·exact e1 (hT.bxd q j hql hjl w2 (by show JM vs.bx j=true;rw [←hcs];exact JK hj) w)
   ·exact hT.φd q hql w2 w
theorem Rel.store (h:Rel P S0 env m a vs) {j:Nat} {cs ns:List Cl} (hj:vs.bx[j]? = some cs) (hrun:J9 cs=false) {k:Blk} {e:TypeId} {c c2:Array Value} {fr:Nat × Nat} (hal:m.alive (env.β j)=some k) (hob:k.obj = .cells c e fr)
  (hn:Qa P (vs.cx S0 env m) ns c2.toList) :
  Rel P S0 env (m.set (env.β j) { k with obj := .cells c2 e fr }) a { vs with bx:=QC vs.bx j ns }∧Stp (vs.cx S0 env m) (({ vs with bx:=QC vs.bx j ns }:VS).cx S0 env (m.set (env.β j) { k with obj := .cells c2 e fr })):=by
 have hT:=h.T;obtain ⟨k',c',e',fr',g1,g2,g3,g4,g5,g7⟩:=(hT.bx j cs hj).cel hrun;have g1':m.alive (env.β j)=some k':=g1
 rw [hal] at g1';cases g1';rw [hob] at g2;cases g2;obtain ⟨hfr,hal2⟩:=JhT (.cells c2 e fr) (by rw [hob];rfl) hT.free hal g5
 have hns:J9 ns=false:=JsV hn;have hjl:j<vs.bx.length:=Jx hj;have hle:Jac (vs.cx S0 env m) { vs.cx S0 env m with m:=m.set (env.β j) { k with obj := .cells c2 e fr } }:=
  ⟨hfr.mono_row hT.free (fun i w=>by rw [w];exact hT.inS j hjl ((JK hj).trans (Qs hrun))) (fun i w => .inl w),Je _,fun _ _=>rfl,fun q b hb=>⟨b.live,hb,rfl⟩,fun _ _ q=>q,fun _ _ _ q=>q,fun _ q=>q,fun _ q=>q,hfr.nxt,hfr.ty⟩
 exact h.setBox hj (Qs hrun) (by rw [Qs hrun,Qs hns]) (by rw [XN hrun,XN hns]) hfr (fun i w => .inl w) (Qy.of hns ⟨_,c2,e,fr,hal2,rfl,g3,g4,g5,hn.le hle⟩)
def Je1 (k:Option Bool) (e:Ty) (xs:List e.El):Cl:=
 match k with
 | some own => .r own e xs
 | none => .ra e xs
theorem Jdn {o:Option Bool} {e:Ty} {xs:List e.El} (h:xs ≠ []):Xo [Je1 o e xs]=true:=by
 cases o with
 | none=>exact Jcf h
 | some o=>exact QG h
theorem Qy.run {X:Cx} {j:Nat} {o:Option Bool} {e:Ty} {xs:List e.El} (h:Qy P X j [Je1 o e xs]):JaA P X j o.isNone e xs:=by
 cases o with
 | none=>exact h
 | some o=>exact h.1
theorem Rel.storeRun (h:Rel P S0 env m a vs) {j:Nat} {o:Option Bool} {e:Ty} {xs ys:List e.El} (hj:vs.bx[j]? = some [Je1 o e xs]) (hne:xs ≠ []) (hlen:ys.length=xs.length) {k:Blk} {eo:TypeId} {c c2:Array Value} {fr:Nat × Nat} (hal:m.alive (env.β j)=some k) (hob:k.obj = .cells c eo fr)
  (hn:Els P (vs.S S0 env) m e ys c2) :
  Rel P S0 env (m.put (env.β j) k (.cells c2 eo fr)) a { vs with bx:=QC vs.bx j [Je1 o e ys] }∧Stp (vs.cx S0 env m) (({ vs with bx:=QC vs.bx j [Je1 o e ys] }:VS).cx S0 env (m.put (env.β j) k (.cells c2 eo fr))):=by
 have hT:=h.T;have hbox:=hT.bx j _ hj;obtain ⟨hpos,hR⟩:=hbox.run;obtain ⟨k',c',eo',fr',g1,g2,g3,g4,g5,g6,g7,g8,⟨rb,g9,g10⟩,g11⟩:=hR hne;have g1':m.alive (env.β j)=some k':=g1
 rw [hal] at g1';cases g1';rw [hob] at g2;cases g2;have hye:ys ≠ []:=fun e1=>by subst e1;simp at hlen;exact hne (JT hlen.symm)
 have hjl:j<vs.bx.length:=Jx hj;have hhas:Xo [Je1 o e xs]=true:=Jdn hne;have fin : ∀{m1:M} {Wb':Nat→Prop} {k1:Blk},Fr2 Wb' (fun _=>False) m m1→(∀i,Wb' i→i=env.β j∨env.φ i)→m1.alive (env.β j)=some k1→k1.obj = .cells c2 eo fr→k1.ro=false→k1.sup=false→(k1.root≤m1.nxt∧(o.isNone=true→k1.root=env.β j)) →
   (∃rb,m1.get k1.root=some rb∧rb.root=k1.root)→(∀i b,m1.get i=some b→b.root=k1.root→i=env.β j∨(env.φ i∧b.sup=true)) →
   Rel P S0 env m1 a { vs with bx:=QC vs.bx j [Je1 o e ys] }∧Stp (vs.cx S0 env m) (({ vs with bx:=QC vs.bx j [Je1 o e ys] }:VS).cx S0 env m1):=by
  intro m1 Wb' k1 hfr hW q1 q2 q3 q4 q5 q6 q7;have hmono:Jex (vs.S S0 env) m (vs.S S0 env) m1:=hfr.mono_row hT.free (fun i w=>by
   rcases hW i w with w | w
   ·rw [w];exact hT.inS j hjl ((JK hj).trans hhas)
   ·exact hT.φS i w) (fun i w => .inl w)
  have hrun2:JaA P { vs.cx S0 env m with m:=m1 } j o.isNone e ys:=⟨hpos,fun _=>⟨k1,c2,eo,fr,q1,q2,q3,q4,q5,g6,hn.1,(hn.mono hmono).2,q6,q7⟩⟩;refine h.setBox hj hhas (by rw [hhas,Jdn hye]) (by cases o with | none=>rfl | some o=>show some ys.length=some xs.length;rw [hlen]) hfr hW ?_
  cases o with
  | none=>exact hrun2
  | some o=>exact ⟨hrun2,fun o1 _=>hbox.2 o1 hne⟩
 by_cases hroot:k.root=env.β j
 ·obtain ⟨hfr,hal2⟩:=JhT (.cells c2 eo fr) (by rw [hob];rfl) hT.free hal hroot
  have eput:m.put (env.β j) k (.cells c2 eo fr)=m.set (env.β j) { k with obj := .cells c2 eo fr }:=by simp [M.put,hroot]
  rw [eput];have hgi:=JO hal;refine fin hfr (fun i w => .inl w) hal2 rfl g3 g4 g5 ?_ (fun i b hb hr => ?_)
  ·exact ⟨{ k with obj := .cells c2 eo fr },by rw [show ({ k with obj := .cells c2 eo fr }:Blk).root=env.β j from hroot,M.get_set_same],rfl⟩
  ·rw [M.get_set] at hb;split at hb
   ·rename_i e1;exact .inl e1.symm
   ·exact g11 i b hb hr
 ·obtain ⟨hfr,hal2,hfam,hg⟩:=Juz (.cells c2 eo fr) (by rw [hob];rfl) hT.free hT.rts hal hroot g4
  have hgg:=hg rb g9;refine fin hfr (fun i w => ?_) hal2 rfl g3 g4 ?_ ⟨_,hgg,rfl⟩ (fun i b hb hr => .inl (hfam i b hb hr))
  ·rcases w with w|⟨b,h1,h2⟩
   ·exact .inl w
   ·exact (g11 i b h1 h2).imp id (fun x=>x.1)
  ·have h3:m.nxt≤(m.put (env.β j) k (.cells c2 eo fr)).nxt:=hfr.nxt;have h4:env.β j<m.nxt:=Jcx hT.free hal;exact ⟨Jy (Nat.le_of_lt h4) h3,fun _=>rfl⟩
end Go.IM.V
namespace Go.IM.V
open Go Go.IM
variable {P : Program} {m m1 : M} {S0 : Nat → Prop} {env : Env} {a : Act} {vs : VS} {X : Cx}
theorem XH {a b : Ty} {xs : List a.El} {ys : List b.El} (h : Jbr a b xs = some ys) : ∃ e : a = b, ys = e ▸ xs := by
  unfold Jbr at h;split at h
  · rename_i e;cases h;exact ⟨e, rfl⟩
  · cases h
theorem JaW {S : Nat → Prop} {m : M} : ∀ {t : Ty} {x : t.El} {cs : List Value}, QR P S m t x cs → cs.length = t.n := by
  intro t;induction t with
  | l e ih => intro x cs h;obtain ⟨v, rfl, _⟩ := h;rfl
  | h e ih => intro x cs h;obtain ⟨v, rfl, _⟩ := h;rfl
  | p t1 t2 ih1 ih2 => intro x cs h;obtain ⟨c1, c2, rfl, h1, h2⟩ := h;rw [Jz, ih1 h1, ih2 h2];rfl
  | u => intro x cs h;cases h;rfl
  | _ => intro x cs h;cases h;rfl
theorem Jhm {S : Nat → Prop} {m : M} {n : Nat} {α : Type} {R : α → List Value → Prop} {xs : List α} {v : Value} (h : Jbu P S m n R xs v) : one v = true := by
  rcases h with ⟨rfl, _⟩ | ⟨i, o, sp, cap, rfl, _⟩ <;> rfl
theorem Jdu {w : Value} (h : Jl7 w) : one w = true := by rcases h with rfl | ⟨i, o, rfl⟩ <;> rfl
theorem Jsi {w : Value} (h : capV w) : one w = true := by rcases h with rfl | ⟨i, o, n, rfl⟩ <;> rfl
theorem Jsk {b : Bf} {t : Option Nat} {w : Value} (h : JjO P X b t w) : one w = true := by
  unfold JjO at h;split at h
  · exact Jsi h.1
  · rw [h];rfl
theorem Jho {S : Nat → Prop} {m : M} : ∀ {t : Ty} {x : t.El} {cs : List Value}, QR P S m t x cs → ∀ v ∈ cs, one v = true := by
  intro t;induction t with
  | l e ih => intro x cs h v hv;obtain ⟨w, rfl, h2⟩ := h;rw [List.mem_singleton] at hv;subst hv;exact Jhm h2
  | h e ih => intro x cs h v hv;obtain ⟨w, rfl, h2⟩ := h;rw [List.mem_singleton] at hv;subst hv;exact Jhm h2
  | p t1 t2 ih1 ih2 =>
    intro x cs h v hv;obtain ⟨c1, c2, rfl, h1, h2⟩ := h;rcases List.mem_append.1 hv with hv | hv
    · exact ih1 h1 v hv
    · exact ih2 h2 v hv
  | u => intro x cs h v hv;cases h;cases hv
  | _ => intro x cs h v hv;cases h;rw [List.mem_singleton] at hv;subst hv;rfl
theorem Jfj {c : Cl} {w : Value} (hk : JcW c = true) (h : Jap P X c w) : one w = true := by
  cases c with
  | c v => obtain ⟨rfl, h⟩ := h;unfold okc at h;rw [Jh] at h;exact h.1
  | l e xs => exact Jhm (R := QR P X.S X.m e) h
  | z e xs => exact Jdu h.1
  | o j => obtain ⟨b, _, h2⟩ := h;exact Jsk h2
  | p j off => obtain ⟨_, i, rfl, _⟩ := h;rfl
  | e t x off => obtain ⟨i, o, c, e', rfl, _⟩ := h;rfl
  | m e j => exact h.2.1.1
  | w e j o n cp => exact h.2.1.1
  | q e j i off => obtain ⟨_, k, rfl, _⟩ := h;rfl
  | r => exact h.elim
  | ra => exact h.elim
  | g => exact h.elim
  | sb e j n => exact h.2.1.1
  | ip t j off => obtain ⟨_, i, rfl, _⟩ := h;rfl
  | mv j => obtain ⟨_, i, rfl, _⟩ := h;rfl
  | mx => exact h.elim
  | mt => exact h.elim
  | mi => exact h.elim
  | sg => exact h.elim
  | ms => exact h.elim
  | y => exact h.1
  | x => cases hk
theorem XF {cs ds : List Cl} {us ws : List Value} (h : Qa P X cs us) (k : Qa P X ds ws) : Qa P X (cs ++ ds) (us ++ ws) := by
  induction cs generalizing us with
  | nil => cases us with
    | nil => exact k
    | cons => exact h.elim
  | cons c cs ih => cases us with
    | nil => exact h.elim
    | cons u us => exact ⟨h.1, ih h.2⟩
theorem Qe {cs : List Cl} {us : List Value} (h : Qa P X cs us) : cs.length = us.length := by
  induction cs generalizing us with
  | nil => cases us with
    | nil => rfl
    | cons => exact h.elim
  | cons c cs ih => cases us with
    | nil => exact h.elim
    | cons u us => simp [ih h.2]
theorem JaE {cs : List Cl} {us : List Value} (h : Qa P X cs us) (k : Nat) : Qa P X (cs.drop k) (us.drop k) := by
  induction k generalizing cs us with
  | zero => exact h
  | succ k ih => cases cs with
    | nil => cases us with
      | nil => exact h
      | cons => exact h.elim
    | cons c cs => cases us with
      | nil => exact h.elim
      | cons u us => exact ih h.2
theorem Jbh {cs : List Cl} {us : List Value} (h : Qa P X cs us) (k : Nat) : Qa P X (cs.take k) (us.take k) := by
  induction k generalizing cs us with
  | zero => trivial
  | succ k ih => cases cs with
    | nil => cases us with
      | nil => exact h
      | cons => exact h.elim
    | cons c cs => cases us with
      | nil => exact h.elim
      | cons u us => exact ⟨h.1, ih h.2⟩
theorem Xr {cs : List Cl} {us : List Value} (h : Qa P X cs us) {k : Nat} {c : Cl} (hc : cs[k]? = some c) : ∃ u, us[k]? = some u ∧ Jap P X c u := by
  induction k generalizing cs us with
  | zero => cases cs with
    | nil => cases hc
    | cons c' cs => cases us with
      | nil => exact h.elim
      | cons u us => cases hc;exact ⟨u, rfl, h.1⟩
  | succ k ih => cases cs with
    | nil => cases hc
    | cons c' cs => cases us with
      | nil => exact h.elim
      | cons u us => exact ih h.2 hc
theorem Je6 {cs : List S1} {us : List Value} (h : QZ P X cs us) {k : Nat} {c : S1} (hc : cs[k]? = some c) : ∃ u, us[k]? = some u ∧ Ja3 P X c u := by
  induction k generalizing cs us with
  | zero => cases cs with
    | nil => cases hc
    | cons c' cs => cases us with
      | nil => exact h.elim
      | cons u us => cases hc;exact ⟨u, rfl, h.1⟩
  | succ k ih => cases cs with
    | nil => cases hc
    | cons c' cs => cases us with
      | nil => exact h.elim
      | cons u us => exact ih h.2 hc
theorem Ja7 : ∀ {t : Ty} {x : t.El} {cs : List Value}, QR P X.S X.m t x cs → Qa P X (exp t x) cs := by
  intro t;induction t with
  | l e ih => intro x cs h;obtain ⟨v, rfl, h2⟩ := h;exact ⟨h2, trivial⟩
  | h e ih => intro x cs h;obtain ⟨v, rfl, h2⟩ := h;exact ⟨h2, trivial⟩
  | p t1 t2 ih1 ih2 => intro x cs h;obtain ⟨c1, c2, rfl, h1, h2⟩ := h;exact XF (ih1 h1) (ih2 h2)
  | u => intro x cs h;cases h;exact trivial
  | _ => intro x cs h;cases h;exact ⟨⟨rfl, rfl⟩, trivial⟩
theorem Jbx : ∀ {t : Ty} {x : t.El} {v : Value}, QR P X.S X.m t x v.cells.toList → (t.ag = true → ∃ a, v = .agg a) → (t.ag = false → one v = true) → Ja3 P X (JfT t x) v := by
  intro t x v h ha hb;cases t with
  | p t1 t2 => obtain ⟨a, rfl⟩ := ha rfl;exact ⟨a, rfl, Ja7 (t := .p t1 t2) h⟩
  | u => obtain ⟨a, rfl⟩ := ha rfl;exact ⟨a, rfl, Ja7 (t := .u) h⟩
  | l e =>
    have h1 := hb rfl;obtain ⟨w, h2, h3⟩ := h;have : v.cells = #[v] := by cases v <;> first | rfl | cases h1
    rw [this] at h2;simp only [List.cons.injEq, and_true] at h2;subst h2;exact h3
  | h e =>
    have h1 := hb rfl;obtain ⟨w, h2, h3⟩ := h;have : v.cells = #[v] := by cases v <;> first | rfl | cases h1
    rw [this] at h2;simp only [List.cons.injEq, and_true] at h2;subst h2;exact h3
  | _ =>
    have h1 := hb rfl;have : v.cells = #[v] := by cases v <;> first | rfl | cases h1
    rw [this] at h;simp only [QR, List.cons.injEq, and_true] at h;subst h;exact ⟨rfl, rfl⟩
theorem Q7 {v : Value} (h : XU v = true) : v = .slice none 0 0 := by
  unfold XU at h;split at h
  · rfl
  · cases h
theorem Jdw {j : Nat} {b : Bf} (h : XV P X j b) {w : Value} (hw : JjO P X b (X.env.τ j) w) : Jbu P X.S X.m b.e.n (QR P X.S X.m b.e) b.xs w := by
  have h2 := h.2;unfold JjO at hw;split at hw
  · exact hw.2
  · rename_i i hτ
    rw [hτ] at h2;subst hw;obtain ⟨hS, k, c, e, fr, h3, h4, h5, h6, h7, h8, _⟩ := h2;exact .inr ⟨i, 0, none, b.xs.length, rfl, Je _, .inr ⟨c, e, JcE h3 h4, hS, h5, by omega, fun q x hx => by rw [JG];exact h8 q x hx⟩⟩
theorem JeH {bx : List (List Cl)} (hT : Jao P X bx) {e : Ty} {c : Cl} {xs : List e.El} {w : Value} (h : Jti X.bf e c = some xs) (hr : Jap P X c w) : Jbu P X.S X.m e.n (QR P X.S X.m e) xs w := by
  cases c with
  | c v =>
    simp only [Jti] at h;cases hn : XU v with
    | false => rw [hn] at h;cases h
    | true =>
      rw [hn] at h;cases h;obtain ⟨rfl, _⟩ := hr;exact .inl ⟨Q7 hn, rfl⟩
  | l e' ys =>
    obtain ⟨rfl, rfl⟩ := XH h;exact hr
  | o j =>
    simp only [Jti] at h;split at h
    · rename_i b hb
      obtain ⟨rfl, rfl⟩ := XH h;obtain ⟨b', h1, h2⟩ := hr;rw [hb] at h1;cases h1;exact Jdw (hT.bf j b hb) h2
    · cases h
  | _ => cases h
theorem Jb8 {bx : List (List Cl)} (hT : Jao P X bx) {x : Sl} {e : Ty} {xs : List e.El} {w : Value} (h : Jer X.bf x = some ⟨e, xs⟩) (hr : J8 P X x w) : Jbu P X.S X.m e.n (QR P X.S X.m e) xs w := by
  unfold Jer at h;split at h
  · cases h;exact hr
  · split at h
    · rename_i b hb
      cases h;obtain ⟨b', h1, h2⟩ := hr;rw [hb] at h1;cases h1;exact Jdw (hT.bf _ b hb) h2
    · cases h
  · cases h
theorem rd_rep {bx : List (List Cl)} (hT : Jao P X bx) : ∀ {t : Ty} {cs : List Cl} {x : t.El} {r : List Cl} {ws : List Value}, rd X.bf t cs = some (x, r) → Qa P X cs ws → ∃ w1 w2, ws = w1 ++ w2 ∧ QR P X.S X.m t x w1 ∧ Qa P X r w2 := by
  intro t;induction t with
  | p t1 t2 ih1 ih2 =>
    intro cs x r ws h hr;simp only [rd, Jp, Ja] at h;obtain ⟨⟨x1, r1⟩, h1, ⟨x2, r2⟩, h2, h3⟩ := h;cases h3;obtain ⟨w1, w2, rfl, h4, h5⟩ := ih1 h1 hr;obtain ⟨w3, w4, rfl, h6, h7⟩ := ih2 h2 h5;exact ⟨w1 ++ w3, w4, by rw [List.append_assoc], ⟨w1, w3, rfl, h4, h6⟩, h7⟩
  | u =>
    intro cs x r ws h hr;cases cs <;> (simp only [rd, Jg, Jm] at h;obtain ⟨_, rfl⟩ := h;exact ⟨[], ws, rfl, rfl, hr⟩)
  | l e ih =>
    intro cs x r ws h hr;cases cs with
    | nil => cases h
    | cons c cs =>
      simp only [rd, Ja] at h;obtain ⟨xs, h1, h2⟩ := h;cases h2;cases ws with
      | nil => exact hr.elim
      | cons w ws => exact ⟨[w], ws, rfl, ⟨w, rfl, JeH hT h1 hr.1⟩, hr.2⟩
  | h e ih =>
    intro cs x r ws h hr;cases cs with
    | nil => cases h
    | cons c cs =>
      simp only [rd, Ja] at h;obtain ⟨xs, h1, h2⟩ := h;cases h2;cases ws with
      | nil => exact hr.elim
      | cons w ws => exact ⟨[w], ws, rfl, ⟨w, rfl, JeH hT h1 hr.1⟩, hr.2⟩
  | _ =>
    intro cs x r ws h hr;cases cs with
    | nil => cases h
    | cons c cs =>
      cases ws with
      | nil => exact hr.elim
      | cons w ws =>
        cases c with
        | c v =>
          cases v <;> first
            | (cases h;done)
            | (simp only [rd] at h
               split at h
               · rename_i hk
                 cases h;subst hk;obtain ⟨⟨rfl, _⟩, h2⟩ := hr;exact ⟨[_], ws, rfl, rfl, h2⟩
               · cases h)
            | (cases h
               obtain ⟨⟨rfl, _⟩, h2⟩ := hr;exact ⟨[_], ws, rfl, rfl, h2⟩)
        | _ => cases h
theorem JaM {bx : List (List Cl)} (hT : Jao P X bx) {t : Ty} {cs : List Cl} {x : t.El} {ws : List Value} (h : Jhq X.bf t cs = some x) (hr : Qa P X cs ws) : QR P X.S X.m t x ws := by
  unfold Jhq at h;split at h
  · rename_i y hy
    cases h;obtain ⟨w1, w2, rfl, h1, h2⟩ := rd_rep hT hy hr;cases w2 with
    | nil => rw [List.append_nil];exact h1
    | cons => exact h2.elim
  · cases h
theorem Jhp {bx : List (List Cl)} (hT : Jao P X bx) {t : Ty} {s : S1} {x : t.El} {w : Value} (h : rdS X.bf t s = some x) (hr : Ja3 P X s w) : QR P X.S X.m t x w.cells.toList ∧ (t.ag = true → ∃ a, w = .agg a) ∧ (t.ag = false → one w = true) := by
  cases s with
  | x => cases h
  | s c =>
    simp only [rdS] at h;cases ht : t.ag with
    | true => rw [ht] at h;cases h
    | false =>
      rw [ht] at h;simp only [Jl] at h;have hrep := JaM hT h (ws := [w]) ⟨hr, trivial⟩;have hone := Jho hrep w (by simp);have : w.cells = #[w] := by cases w <;> first | rfl | cases hone
      exact ⟨by rw [this];exact hrep, fun q => (by cases q), fun _ => hone⟩
  | a cs =>
    simp only [rdS] at h;cases ht : t.ag with
    | false => rw [ht] at h;cases h
    | true =>
      rw [ht] at h;simp only [Jk] at h;obtain ⟨a, rfl, h2⟩ := hr;exact ⟨JaM hT h h2, fun _ => ⟨a, rfl⟩, fun q => by cases q⟩
theorem Jhn {S1 S : Nat → Prop} {ty : Ty} {xs : List ty.El} {i o len cap : Nat} {sp : Option Nat} (hx : xs ≠ []) (h : Jbu P S1 m ty.n (QR P S m ty) xs (.slice (some ⟨i, o, sp⟩) len cap)) :
    len = xs.length ∧ xs.length ≤ cap ∧ ∃ c e, m.row i = some (c, e) ∧ ¬ S1 i ∧ P.cellsOf e = ty.n ∧ m.cells i o (xs.length * ty.n) = some (c.extract o (o + xs.length * ty.n)) ∧ Els P S m ty xs (c.extract o (o + xs.length * ty.n)) := by
  rcases h with ⟨h, _⟩ | ⟨i', o', sp', cap', h1, h2, h3⟩
  · cases h
  · cases h1
    rcases h3 with h3 | ⟨c, e, h4, h5, h6, h7, h8⟩
    · exact absurd (JT (by omega)) hx
    · refine ⟨rfl, h2, c, e, h4, h5, h6, by unfold M.cells;rw [h4];dsimp only;rw [Jf h7], by rw [Array.size_extract];omega, fun q x hq => ?_⟩
      have hql := Jx hq;have hmul : q * ty.n + ty.n ≤ xs.length * ty.n := by
        have : (q + 1) * ty.n ≤ xs.length * ty.n := Jw _ hql
        rw [JQ, Nat.one_mul] at this;exact this
      rw [Array.extract_extract, Nat.min_eq_left (by omega), ← Nat.add_assoc];exact h8 q x hq
theorem Els.append {S : Nat → Prop} {ty : Ty} {xs ys : List ty.El} {c d : Array Value} (h : Els P S m ty xs c) (k : Els P S m ty ys d) : Els P S m ty (xs ++ ys) (c ++ d) := by
  refine ⟨by rw [Array.size_append, h.1, k.1, Jz, JQ], fun q x hq => ?_⟩;rcases JB q xs.length with hql | hql
  · rw [JF hql] at hq
    have hmul : q * ty.n + ty.n ≤ xs.length * ty.n := by
      have : (q + 1) * ty.n ≤ xs.length * ty.n := Jw _ hql
      rw [JQ, Nat.one_mul] at this;exact this
    have := h.2 q x hq
    rw [Array.extract_append, Array.toList_append];rw [show q * ty.n + ty.n - c.size = 0 by rw [h.1];omega]
    simpa using this
  · rw [JN hql] at hq
    have := k.2 (q - xs.length) x hq
    have e1 : q * ty.n = xs.length * ty.n + (q - xs.length) * ty.n := by rw [← Nat.add_mul];congr 1;omega
    rw [Array.extract_append, Array.toList_append, h.1];rw [show (c.extract (q * ty.n) (q * ty.n + ty.n)).toList = [] by
      apply JT
      rw [Jq, Array.size_extract, h.1];omega]
    rw [List.nil_append, e1];rw [show xs.length * ty.n + (q - xs.length) * ty.n - xs.length * ty.n = (q - xs.length) * ty.n by omega,
      show xs.length * ty.n + (q - xs.length) * ty.n + ty.n - xs.length * ty.n = (q - xs.length) * ty.n + ty.n by omega]
    exact this
theorem Els.nil {S : Nat → Prop} {ty : Ty} : Els P S m ty [] #[] := ⟨by simp, fun q x hq => by simp at hq⟩
theorem Els.all_one {S : Nat → Prop} {ty : Ty} (hn : 0 < ty.n) {xs : List ty.El} {c : Array Value} (h : Els P S m ty xs c) : c.all Go.IM.one = true := by
  rw [Array.all_eq_true];intro i hi;have hi' := hi
  rw [h.1] at hi';have hq : i / ty.n < xs.length := Nat.div_lt_of_lt_mul (by rw [Nat.mul_comm];exact hi')
  have h2 := h.2 (i / ty.n) xs[i / ty.n] (by simp [hq]);have hmod := Nat.mod_lt i hn;have hdm := Nat.div_add_mod i ty.n;have hmul : i / ty.n * ty.n + ty.n ≤ xs.length * ty.n := by
    have : (i / ty.n + 1) * ty.n ≤ xs.length * ty.n := Jw _ hq
    rw [JQ, Nat.one_mul] at this;exact this
  rw [Nat.mul_comm] at hdm;refine Jho h2 _ ?_;have : (c.extract (i / ty.n * ty.n) (i / ty.n * ty.n + ty.n))[i % ty.n]? = some c[i] := by
    rw [JA, Jf (by rw [h.1];omega), hdm]
    simp
  exact JW (by rw [Jn];exact this)
end Go.IM.V
namespace Go.IM.V
open Go Go.IM
variable {P:Program} {m m1:M} {S0:Nat→Prop} {env:Env} {a:Act} {vs:VS} {X:Cx}
theorem JaD {bx:List (List Cl)} {e:Ty} {j:Nat} {xs:List e.El} (h:JiG bx e j=some xs) : ∃own,bx[j]? = some [.r own e xs]:=by
 unfold JiG at h;split at h
 ·rename_i own e' ys hj;obtain ⟨rfl,rfl⟩:=XH h;exact ⟨own,hj⟩
 ·cases h
theorem JcR {bx:List (List Cl)} (hT:Jao P X bx) {own:Bool} {e e':Ty} {j:Nat} {xs:List e.El} {w:Value} (hj:bx[j]? = some [.r own e xs]) (hr:Jap P X (.m e' j) w) :
  (xs = []→Jl7 w)∧(xs ≠ []→w = .slice (some ⟨X.env.β j,0,none⟩) xs.length xs.length):=by
 have hL:X.len j=some xs.length:=by rw [hT.len];exact QN hj
 obtain ⟨_,_,h⟩:=hr;obtain ⟨h1,h2⟩:=h _ hL;exact ⟨fun q=>h1 (by rw [q];rfl),fun q=>h2 (JR.2 q)⟩
theorem Je0 {bx:List (List Cl)} (hT:Jao P X bx) {own:Bool} {e:Ty} {j:Nat} {xs:List e.El} (hj:bx[j]? = some [.r own e xs]):0<e.n∧(xs ≠ [] → ∃c eo,X.m.row (X.env.β j)=some (c,eo)∧P.cellsOf eo=e.n∧Els P X.S X.m e xs c):=by
 obtain ⟨⟨h0,h1⟩,_⟩:=hT.bx j _ hj;refine ⟨h0,fun hne => ?_⟩;obtain ⟨k,c,eo,fr,h2,h3,h4,h5,h6,h7,h8,h9,_⟩:=h1 hne;exact ⟨c,eo,JcE h2 h3,h7 rfl,h8,h9⟩
theorem Je2 {bx:List (List Cl)} {e:Ty} {j:Nat} {xs:List e.El} {mk:List e.El→List Cl} (h:JlA bx e j=some (xs,mk)) : ∃o,bx[j]? = some [Je1 o e xs]∧mk=fun ys => [Je1 o e ys]:=by
 unfold JlA at h;split at h
 ·rename_i own e' ys hj;simp only [Ja,Jm] at h;obtain ⟨zs,h1,rfl,rfl⟩:=h;obtain ⟨rfl,rfl⟩:=XH h1;exact ⟨some own,hj,rfl⟩
 ·rename_i e' ys hj;simp only [Ja,Jm] at h;obtain ⟨zs,h1,rfl,rfl⟩:=h;obtain ⟨rfl,rfl⟩:=XH h1;exact ⟨none,hj,rfl⟩
 ·cases h
theorem JmY {bx:List (List Cl)} (hT:Jao P X bx) {o:Option Bool} {e:Ty} {j:Nat} {xs:List e.El} (hj:bx[j]? = some [Je1 o e xs]):0<e.n∧(xs ≠ [] → ∃c eo,X.m.row (X.env.β j)=some (c,eo)∧Els P X.S X.m e xs c):=by
 obtain ⟨h0,h1⟩:=(hT.bx j _ hj).run;refine ⟨h0,fun hne => ?_⟩;obtain ⟨k,c,eo,fr,h2,h3,h4,h5,h6,h7,h8,h9,_⟩:=h1 hne;exact ⟨c,eo,JcE h2 h3,h8,h9⟩
theorem Jq5 {S:Nat→Prop} {n:Nat} {α:Type} {R:α→List Value→Prop} {xs:List α} {v:Value} (h:Jbu P S m n R xs v):Jbu P (fun _=>False) m n R xs v:=by
 rcases h with h|⟨i,o,sp,cap,h1,h2,h3⟩
 ·exact .inl h
 ·refine .inr ⟨i,o,sp,cap,h1,h2, ?_⟩;rcases h3 with h3|⟨c,e,h4,h5,h6⟩
  ·exact .inl h3
  ·exact .inr ⟨c,e,h4,fun q=>q,h6⟩
theorem Jdt {S:Nat→Prop} {n:Nat} {α:Type} {R:α→List Value→Prop} {v:Value} (h:Jl7 v):Jbu P S m n R [] v:=by
 rcases h with rfl|⟨i,o,rfl⟩
 ·exact .inl ⟨rfl,rfl⟩
 ·exact .inr ⟨i,o,some 0,0,rfl,Je _,.inl rfl⟩
theorem Jda (hT : Jao P (vs.cx S0 env m) vs.bx) {e : Ty} {c : Cl} {xs : List e.El} {w : Value} (h : Jfc vs e c = some xs) (hr : Jap P (vs.cx S0 env m) c w) : Jbu P (fun _ => False) m e.n (QR P (vs.S S0 env) m e) xs w := by
 unfold Jfc at h;split at h
 ·rename_i e' j;split at h
  ·obtain ⟨own,hj⟩:=JaD h;obtain ⟨h1,h2⟩:=JcR hT hj hr;by_cases hx:xs = []
   ·subst hx;exact Jdt (h1 rfl)
   ·obtain ⟨_,hrow⟩:=Je0 hT hj;obtain ⟨c,eo,h3,h4,h5⟩:=hrow hx;exact .inr ⟨_,0,none,xs.length,h2 hx,Je _,.inr ⟨c,eo,h3,fun q=>q,h4,by rw [h5.1];omega,fun k x hk=>by rw [JG];exact h5.2 k x hk⟩⟩
  ·cases h
 ·rename_i e' j o n cp;split at h
  ·rename_i he;subst he;simp only [Ja] at h;obtain ⟨ys, h1, rfl⟩ := h;obtain ⟨own, hj⟩ := JaD h1;have hL : (vs.cx S0 env m).len j = some ys.length := QN hj;obtain ⟨_, _, hw⟩ := hr;obtain ⟨g1, g2, g3⟩ := hw _ hL;have hlen : ((ys.drop o).take n).length = n := by rw [JE, JI];omega
   by_cases hy:ys = []
   ·subst hy;have:((([]:List e'.El).drop o).take n) = []:=by simp
    rw [this];exact Jdt (g2 rfl)
   ·obtain ⟨_,hrow⟩:=Je0 hT hj;obtain ⟨c,eo,h3,h4,h5⟩:=hrow hy;obtain ⟨sp,cap,rfl,k1,k2,_⟩:=g3 (JR.2 hy);refine .inr ⟨_,o*e'.n,sp,cap,by rw [hlen],by rw [hlen];exact k1,.inr ⟨c,eo,h3,fun q=>q,h4, ?_,fun k x hk => ?_⟩⟩
    ·rw [hlen,h5.1,←Nat.add_mul];exact Jw _ g1
    ·rw [List.getElem?_take] at hk;split at hk
     ·rw [List.getElem?_drop] at hk;have:=h5.2 (o+k) x hk
      rw [JQ] at this;exact this
     ·cases hk
  ·cases h
 ·exact Jq5 (JeH hT h hr)
theorem Rel.moveRun (h : Rel P S0 env m a vs) {j : Nat} {own own' : Bool} {e : Ty} {xs ys : List e.El} (hj : vs.bx[j]? = some [.r own e xs]) {i : Nat} {p : Nat → Prop}
  (hfr:Fr2 (fun q=>xs ≠ []∧q=env.β j) (fun _=>False) m m1) (hp : ∀q,p q→xs ≠ []∧q=env.β j) (hi:ys ≠ []→i<m1.nxt∧((xs ≠ []∧i=env.β j ∧ ¬p i)∨m.nxt≤i))
  (hnew:Qy P ((V.newRunO own' { vs with bx:=QC vs.bx j [.g] } e ys).2.cx S0 ((env.setβ vs.bx.length i).addφ p) m1) vs.bx.length [.r own' e ys]) {v:Value} (hv:(ys = []→Jl7 v)∧(ys ≠ []→v = .slice (some ⟨i,0,none⟩) ys.length ys.length)) :
  Rel P S0 ((env.setβ vs.bx.length i).addφ p) m1 a (V.newRunO own' { vs with bx:=QC vs.bx j [.g] } e ys).2∧Stp (vs.cx S0 env m) ((V.newRunO own' { vs with bx:=QC vs.bx j [.g] } e ys).2.cx S0 ((env.setβ vs.bx.length i).addφ p) m1) ∧
   J8 P ((V.newRunO own' { vs with bx:=QC vs.bx j [.g] } e ys).2.cx S0 ((env.setβ vs.bx.length i).addφ p) m1) (V.newRunO own' { vs with bx:=QC vs.bx j [.g] } e ys).1 v:=by
 have hT:=h.T;have hjl:j<vs.bx.length:=Jx hj;generalize hZ:(V.newRunO own' { vs with bx:=QC vs.bx j [.g] } e ys).2=vs2 at hnew ⊢;have hbx2:vs2.bx=QC vs.bx j [.g] ++ [[.r own' e ys]]:=by rw [←hZ];rfl
 have hbf2:vs2.bf=vs.bf:=by rw [←hZ];rfl
 have hlen0:=Qc vs.bx j [.g];have hnb:vs2.bx.length=vs.bx.length+1:=by rw [hbx2];simp [hlen0]
 generalize hen:(env.setβ vs.bx.length i).addφ p=env2 at hnew ⊢;have hβ : ∀q,q<vs.bx.length→env2.β q=env.β q:=fun q hq=>by rw [←hen];exact Jas env i (by omega)
 have hβn:env2.β vs.bx.length=i:=by rw [←hen];exact J6 env _ i
 have hφ2 : ∀q,env2.φ q↔env.φ q∨p q:=fun q=>by rw [←hen];exact Iff.rfl
 have hτ2:env2.τ=env.τ:=by rw [←hen];rfl
 have hho : ∀q,q<vs.bx.length→JM vs2.bx q=if q=j then false else JM vs.bx q:=fun q hq=>by
  rw [hbx2,Xi,Jd (by omega),Jbn hj];rfl
 have hhn:JM vs2.bx vs.bx.length=Xo [.r own' e ys]:=by rw [hbx2,Xi,Jf hlen0.symm]
 have hlo : ∀q,q<vs.bx.length→lenOf vs2.bx q=if q=j then none else lenOf vs.bx q:=fun q hq=>by
  rw [hbx2,XM,Jd (by omega),Jgn hj];rfl
 have hjS:xs ≠ []→vs.S S0 env (env.β j):=fun hne=>hT.inS j hjl ((JK hj).trans (QG hne))
 have hS : ∀q,vs2.S S0 env2 q→vs.S S0 env q∨(m.nxt≤q∧q=i∧ys ≠ []):=by
  intro q w;rcases w with w|⟨t,h1,h3,h2⟩|w
  ·exact .inl (.inl w)
  ·rw [hnb] at h1;rcases JB t vs.bx.length with ht | ht
   ·rw [hho t ht] at h3;split at h3
    ·cases h3
    ·exact .inl (.inr (.inl ⟨t,ht,h3,by rw [←hβ t ht];exact h2⟩))
   ·obtain rfl:t=vs.bx.length:=by omega
    rw [hβn] at h2;rw [hhn] at h3;obtain ⟨_,h4⟩:=hi (JcY h3);rcases h4 with ⟨h4,h5,_⟩|h4
    ·exact .inl (by rw [←h2,h5];exact hjS h4)
    ·exact .inr ⟨by omega,h2.symm,JcY h3⟩
  ·rcases (hφ2 q).1 w with w | w
   ·exact .inl (.inr (.inr w))
   ·obtain ⟨h4,h5⟩:=hp q w;exact .inl (by rw [h5];exact hjS h4)
 have hWb : ∀q,(xs ≠ []∧q=env.β j)→Wb (vs.cx S0 env m) q:=fun q ⟨h1,h2⟩ => .inl ⟨j,hjl,(JK hj).trans (QG h1),h2.symm⟩
 have hle:Jac (vs.cx S0 env m) (vs2.cx S0 env2 m1):=by
  refine ⟨hfr.mono_row hT.free (fun q w=>WbS q (hWb q w)) (fun q w=>(hS q w).imp id (·.1)),by show vs.bx.length≤vs2.bx.length;omega,hβ,fun t b hb=>⟨b.live,by show vs2.bf[t]? = _;rw [hbf2];exact hb,by show env2.τ t=_;rw [hτ2];rfl⟩,
   fun t ht q => ?_,fun t L ht q => ?_,fun _ q=>q,fun q w=>(hφ2 q).2 (.inl w),hfr.nxt,hfr.ty⟩
  ·have q':JM vs2.bx t=true:=q
   rw [hho t ht] at q';split at q'
   ·cases q'
   ·exact q'
  ·have q':lenOf vs2.bx t=some L:=q
   rw [hlo t ht] at q';split at q'
   ·cases q'
   ·exact q'
 have hs : Stp (vs.cx S0 env m) (vs2.cx S0 env2 m1) := by
  refine ⟨hfr.mono hWb (fun _ w=>w.elim),hle,fun q w => ?_,fun q w => .inl ?_⟩
  ·rcases w with ⟨t,h1,h3,h2⟩|w
   ·have h1':t<vs.bx.length+1:=by rw [←hnb];exact h1
    have h2':env2.β t=q:=h2
    have h3':JM vs2.bx t=true:=h3
    rcases JB t vs.bx.length with ht | ht
    ·rw [hho t ht] at h3';split at h3'
     ·cases h3'
     ·exact .inl (.inl ⟨t,ht,h3',(hβ t ht).symm.trans h2'⟩)
    ·obtain rfl:t=vs.bx.length:=by omega
     rw [hβn] at h2';rw [hhn] at h3';obtain ⟨_,h4⟩:=hi (JcY h3');rcases h4 with ⟨h4,h5,_⟩|h4
     ·exact .inl (hWb q ⟨h4,by rw [←h2',h5]⟩)
     ·exact .inr (by show m.nxt≤q;omega)
   ·rcases (hφ2 q).1 w with w | w
    ·exact .inl (.inr w)
    ·exact .inl (hWb q (hp q w))
  ·obtain ⟨t,b,h1,h2,h3⟩:=w;exact ⟨t,b,by show vs.bf[t]? = _;rw [←hbf2];exact h1,h2,by show env.τ t=_;rw [←hτ2];exact h3⟩
 have hne_j : ∀q,q<vs.bx.length→q≠j→JM vs.bx q=true→xs ≠ []→env.β q≠env.β j:=fun q hq hqj hh hne he=>
  hqj (hT.bxd q j hq hjl hh ((JK hj).trans (QG hne)) he)
 refine ⟨h.step hs ?_ (by rw [←hZ];rfl) (by rw [←hZ];rfl) (by rw [←hZ];rfl),hs, ?_⟩
 ·refine ⟨hfr.free, by show m1.bar ≤ m1.nxt;rw [hfr.bar];exact Jy hT.bar hfr.nxt, rfl, rfl, rfl, fun t ht hh => .inr (.inl ⟨t, ht, hh, rfl⟩), fun q w => ?_, fun t b ht => ?_, ?_, fun t cs' ht => ?_, fun t t' h1 h2 g1 g2 h3 => ?_, fun q w => .inr (.inr w), fun t h1 h2 w => ?_, hfr.rts hT.rts, hfr.unq hT.rts hT.unq⟩
  ·rcases hS q w with w2|⟨w2,w3,w4⟩
   ·exact Jt (hT.slt q w2) hfr.nxt
   ·rw [w3];exact (hi w4).1
  ·have ht':vs.bf[t]? = some b:=by rw [←hbf2];exact ht
   exact XV.le hfr hle.mono (fun q w=>WbS q (hWb q w)) (by show env2.τ t=_;rw [hτ2];rfl) (hT.bf t b ht') (fun _ _ _ w=>w)
  ·intro t t' b b' q h1 h2 l1 l2 t1 t2;refine hT.bfd t t' b b' q (by show vs.bf[t]? = _;rw [←hbf2];exact h1) (by show vs.bf[t']? = _;rw [←hbf2];exact h2) l1 l2 ?_ ?_
   ·show env.τ t=_;rw [←hτ2];exact t1
   ·show env.τ t'=_;rw [←hτ2];exact t2
  ·rw [hbx2,Qd] at ht;split at ht
   ·rename_i e1;rw [hlen0] at e1;subst e1;cases ht;exact hnew
   ·rw [Jat] at ht;split at ht
    ·rw [Ja] at ht;obtain ⟨_,_,rfl⟩:=ht;trivial
    ·rename_i e1;have htl:t<vs.bx.length:=Jx ht;refine Qy.le hT.free hT.rts hfr hle (fun _=>hβ t htl) (hT.bx t cs' ht) (fun w1 w => ?_) (fun _ w=>w);exact hne_j t htl e1 ((JK ht).trans w1) w.1 w.2
  ·have h1' : t < vs.bx.length + 1 := by rw [← hnb];exact h1
   have h2':t'<vs.bx.length+1:=by rw [←hnb];exact h2
   have h3':env2.β t=env2.β t':=h3
   have g1':JM vs2.bx t=true:=g1
   have g2':JM vs2.bx t'=true:=g2
   have cross : ∀t,t<vs.bx.length→JM vs2.bx t=true→JM vs2.bx vs.bx.length=true→env2.β t=i→False:=by
    intro t ht q1 q2 q3;rw [hho t ht] at q1;rw [hhn] at q2;rw [hβ t ht] at q3;split at q1
    ·cases q1
    ·rename_i e1;obtain ⟨_,h4⟩:=hi (JcY q2);rcases h4 with ⟨h4,h5,_⟩|h4
     ·exact hne_j t ht e1 q1 h4 (by rw [q3,h5])
     ·have h6:env.β t<m.nxt:=hT.slt _ (hT.inS t ht q1);omega
   rcases JB t vs.bx.length with ht | ht
   ·rcases JB t' vs.bx.length with ht' | ht'
    ·rw [hho t ht] at g1';rw [hho t' ht'] at g2';rw [hβ t ht,hβ t' ht'] at h3';split at g1'
     ·cases g1'
     ·split at g2'
      ·cases g2'
      ·exact hT.bxd t t' ht ht' g1' g2' h3'
    ·obtain rfl:t'=vs.bx.length:=by omega
     rw [hβn] at h3';exact (cross t ht g1' g2' h3').elim
   ·obtain rfl:t=vs.bx.length:=by omega
    rcases JB t' vs.bx.length with ht' | ht'
    ·rw [hβn] at h3';exact (cross t' ht' g2' g1' h3'.symm).elim
    ·omega
  ·have h1':t<vs.bx.length+1:=by rw [←hnb];exact h1
   have g1':JM vs2.bx t=true:=h2
   have w':=(hφ2 _).1 w
   rcases JB t vs.bx.length with ht | ht
   ·rw [hho t ht] at g1';rw [show (vs2.cx S0 env2 m1).env.β t=env.β t from hβ t ht] at w';split at g1'
    ·cases g1'
    ·rename_i e1;rcases w' with w' | w'
     ·exact hT.φd t ht g1' w'
     ·obtain ⟨h4,h5⟩:=hp _ w';exact hne_j t ht e1 g1' h4 h5
   ·obtain rfl:t=vs.bx.length:=by omega
    rw [hhn] at g1';rw [show (vs2.cx S0 env2 m1).env.β vs.bx.length=i from hβn] at w';obtain ⟨_,h4⟩:=hi (JcY g1');rcases w' with w' | w'
    ·rcases h4 with ⟨h4,h5,_⟩|h4
     ·rw [h5] at w';exact hT.φd j hjl ((JK hj).trans (QG h4)) w'
     ·have h5:i<m.nxt:=hT.slt i (hT.φS i w');omega
    ·rcases h4 with ⟨h4,h5,h6⟩|h4
     ·exact h6 w'
     ·obtain ⟨h6,h7⟩:=hp _ w';have h8:env.β j<m.nxt:=hT.slt _ (hjS h6);omega
 ·have hx:(V.newRunO own' { vs with bx:=QC vs.bx j [.g] } e ys).1 = .v (.s (.m e vs.bx.length)):=by show Sl.v (.s (.m e (QC vs.bx j [.g]).length))=_;rw [hlen0]
  rw [hx];refine ⟨by show vs.bx.length<vs2.bx.length;omega, ?_,fun L hL => ?_⟩
  ·by_cases hy:ys = []
   ·exact ⟨Jdu (hv.1 hy),JbH (hv.1 hy) _⟩
   ·rw [hv.2 hy];exact ⟨rfl,.inr (hi hy).1⟩
  ·have hL':lenOf vs2.bx vs.bx.length=some L:=hL
   rw [hbx2,XM,Jf hlen0.symm] at hL';cases hL';refine ⟨fun q=>hv.1 (JT q),fun q => ?_⟩;rw [hv.2 (JR.1 q)];show _=Value.slice (some ⟨env2.β vs.bx.length,0,none⟩) _ _;rw [hβn]
theorem JeJ (j q:Nat) (c:Cl):Qh (JaS j q c)=Qh c:=by
 cases c <;> first | rfl | (unfold JaS;dsimp only;cases Nat.beq _ j <;> rfl)
theorem JdZ (j q : Nat) (cs : List Cl) : J9 (cs.map (JaS j q)) = J9 cs ∧ Xo (cs.map (JaS j q)) = Xo cs ∧ JaQ (cs.map (JaS j q)) = JaQ cs := by
 cases cs with
 | nil=>exact ⟨rfl,rfl,rfl⟩
 | cons c cs=>cases cs with
  | nil=>
   cases c with
   | m e j'=>
    show J9 [JaS j q (.m e j')]=_∧Xo [JaS j q (.m e j')]=_∧JaQ [JaS j q (.m e j')]=_;unfold JaS;dsimp only;cases Nat.beq j' j <;> exact ⟨rfl,rfl,rfl⟩
   | _=>exact ⟨rfl,rfl,rfl⟩
  | cons c2 cs=>
   obtain ⟨k1,k2,k3⟩:=JbO c c2 cs;obtain ⟨g1,g2,g3⟩:=JbO (JaS j q c) (JaS j q c2) (cs.map (JaS j q));exact ⟨(g1.trans (Jh7 (JeJ j q) (c::c2::cs))).trans k1.symm,g2.trans k2.symm,g3.trans k3.symm⟩
theorem Jr9 {j q:Nat} {cs:List Cl} (h:J9 cs=true) (hs:cs.any Qh=false):cs.map (JaS j q)=cs:=by
 unfold J9 at h;split at h
 ·rfl
 ·rfl
 ·rfl
 ·rfl
 ·rfl
 ·rfl
 ·rw [hs] at h;cases h
theorem Rel.cool (h:Rel P S0 env m a vs) {j:Nat} {e:Ty} {xs:List e.El} (hj:vs.bx[j]? = some [.r true e xs]) :
  ∃env1,Rel P S0 env1 m a (V.cool vs j e xs)∧Stp (vs.cx S0 env m) ((V.cool vs j e xs).cx S0 env1 m) ∧
   (∀(s:S1) (w:Value),Ja3 P (vs.cx S0 env m) s w→Ja3 P ((V.cool vs j e xs).cx S0 env1 m) (Jf4 j vs.bf.length s) w):=by
 have hT:=h.T;have hjl:j<vs.bx.length:=Jx hj;obtain ⟨⟨hpos,hR⟩,hown⟩:=hT.bx j _ hj;obtain ⟨t,ht0,ht1⟩ : ∃t:Option Nat,(xs = []→t=none)∧(xs ≠ []→t=some (env.β j)):=by
  by_cases hx:xs = []
  ·exact ⟨none,fun _=>rfl,fun q=>absurd hx q⟩
  ·exact ⟨some (env.β j),fun q=>absurd q hx,fun _=>rfl⟩
 refine ⟨env.setτ vs.bf.length t, ?_⟩;generalize hZ:V.cool vs j e xs=vs2;have hbx2:vs2.bx=(QC vs.bx j [.g]).map (·.map (JaS j vs.bf.length)):=by rw [←hZ];rfl
 have hbf2:vs2.bf=vs.bf ++ [⟨e,xs,true,false⟩]:=by rw [←hZ];rfl
 have hsl2:vs2.sl=fun i=>Jsa j vs.bf.length (vs.sl i):=by rw [←hZ];rfl
 have hdf2:vs2.df=vs.df.map fun p=>(p.1,p.2.map (Jf4 j vs.bf.length)):=by rw [←hZ];rfl
 have hN2:vs2.N=vs.N:=by rw [←hZ];rfl
 have hnb:vs2.bx.length=vs.bx.length:=by rw [hbx2,List.length_map,Qc]
 have hget : ∀t,vs2.bx[t]? = if t=j then some [.g] else (vs.bx[t]?).map (·.map (JaS j vs.bf.length)):=by
  intro t;rw [hbx2,List.getElem?_map,Jat];by_cases e1:t=j
  ·subst e1;rw [Jf rfl,Jf rfl,hj];rfl
  ·rw [Jd e1,Jd e1]
 have hho : ∀t,JM vs2.bx t=if t=j then false else JM vs.bx t:=by
  intro t;unfold JM;rw [hget];by_cases e1:t=j
  ·rw [Jf e1,Jf e1];rfl
  ·rw [Jd e1,Jd e1];cases vs.bx[t]? with
   | none=>rfl
   | some cs=>exact (JdZ _ _ cs).2.1
 have hlo : ∀t,lenOf vs2.bx t=if t=j then none else lenOf vs.bx t:=by
  intro t;unfold lenOf;rw [hget];by_cases e1:t=j
  ·rw [Jf e1,Jf e1];rfl
  ·rw [Jd e1,Jd e1];cases vs.bx[t]? with
   | none=>rfl
   | some cs=>exact (JdZ _ _ cs).2.2
 generalize hen:env.setτ vs.bf.length t=env2;have hβ2:env2.β=env.β:=by rw [←hen];rfl
 have hφ2:env2.φ=env.φ:=by rw [←hen];rfl
 have hτo : ∀q,q<vs.bf.length→env2.τ q=env.τ q:=fun q hq=>by rw [←hen];exact setτ_old env t (by omega)
 have hτn:env2.τ vs.bf.length=t:=by rw [←hen];exact setτ_new env _ t
 have hhj:xs ≠ []→JM vs.bx j=true:=fun q=>(JK hj).trans (QG q)
 have hS : ∀q,vs2.S S0 env2 q→vs.S S0 env q∧(xs ≠ []→q≠env.β j):=by
  intro q w;rcases w with w|⟨t,h1,h3,h2⟩|w
  ·exact ⟨.inl w,fun q1 q2=>hown rfl q1 (show S0 (env.β j) by rw [←q2];exact w)⟩
  ·rw [hho] at h3;split at h3
   ·cases h3
   ·rename_i e1;rw [hnb] at h1;rw [hβ2] at h2;exact ⟨.inr (.inl ⟨t,h1,h3,h2⟩),fun q1 q2=>e1 (hT.bxd t j h1 hjl h3 (hhj q1) (h2.trans q2))⟩
  ·rw [hφ2] at w;exact ⟨.inr (.inr w),fun q1 q2=>hT.φd j hjl (hhj q1) (by rw [q2] at w;exact w)⟩
 have hfr:Fr2 (fun _=>False) (fun _=>False) m m:=Fr2.refl hT.free;have hle:Jac (vs.cx S0 env m) (vs2.cx S0 env2 m):=by
  refine ⟨fun q r hr hn=>⟨hr,fun w=>hn (hS q w).1⟩,by show vs.bx.length≤vs2.bx.length;omega,fun q _=>by show env2.β q=_;rw [hβ2];rfl,fun q b hb=>⟨b.live, ?_,hτo q (Jx hb)⟩,fun q hq w => ?_,fun q L hq w => ?_,fun _ q=>q,fun q w=>by show env2.φ q;rw [hφ2];exact w,Je _,fun _ _ q=>q⟩
  ·show vs2.bf[q]? = _;rw [hbf2,Qd,Jd (by have:q<vs.bf.length:=Jx hb;omega)];exact hb
  ·have w':JM vs2.bx q=true:=w
   rw [hho] at w';split at w'
   ·cases w'
   ·exact w'
  ·have w':lenOf vs2.bx q=some L:=w
   rw [hlo] at w';split at w'
   ·cases w'
   ·exact w'
 have hcl : ∀ (c : Cl) (w : Value), Jap P (vs.cx S0 env m) c w → Jap P (vs2.cx S0 env2 m) (JaS j vs.bf.length c) w := by
  intro c w hr;cases c with
  | m e' j'=>
   unfold JaS;dsimp only;cases hb:Nat.beq j' j with
   | false=>exact hr.le hle
   | true=>
    have:=Jr hb
    subst this;obtain ⟨g1,g2⟩:=JcR hT hj hr;refine ⟨⟨e,xs,true,false⟩,by show vs2.bf[vs.bf.length]? = _;rw [hbf2,Qd,Jf rfl], ?_⟩
    show JjO P _ _ (env2.τ vs.bf.length) w;rw [hτn];by_cases hx:xs = []
    ·subst hx;rw [ht0 rfl];refine ⟨?_,Jdt (g1 rfl)⟩;rcases g1 rfl with q|⟨i,o,q⟩
     ·exact .inl q
     ·exact .inr ⟨i,o,0,q⟩
    ·rw [ht1 hx];exact g2 hx
  | _=>exact hr.le hle
 have hcs : ∀(cs:List Cl) (ws:List Value),Qa P (vs.cx S0 env m) cs ws→Qa P (vs2.cx S0 env2 m) (cs.map (JaS j vs.bf.length)) ws:=by
  intro cs;induction cs with
  | nil=>intro ws hr;cases ws with
   | nil=>trivial
   | cons=>exact hr.elim
  | cons c cs ih=>intro ws hr;cases ws with
   | nil=>exact hr.elim
   | cons w ws=>exact ⟨hcl c w hr.1,ih ws hr.2⟩
 have hs1 : ∀(s:S1) (w:Value),Ja3 P (vs.cx S0 env m) s w→Ja3 P (vs2.cx S0 env2 m) (Jf4 j vs.bf.length s) w:=by
  intro s w hr;cases s with
  | x=>trivial
  | s c=>exact hcl c w hr
  | a cs=>obtain ⟨b,h1,h2⟩:=hr;exact ⟨b,h1,hcs cs _ h2⟩
 have hss : ∀(l:List S1) (ws:List Value),QZ P (vs.cx S0 env m) l ws→QZ P (vs2.cx S0 env2 m) (l.map (Jf4 j vs.bf.length)) ws:=by
  intro l;induction l with
  | nil=>intro ws hr;cases ws with
   | nil=>trivial
   | cons=>exact hr.elim
  | cons c l ih=>intro ws hr;cases ws with
   | nil=>exact hr.elim
   | cons w ws=>exact ⟨hs1 c w hr.1,ih ws hr.2⟩
 have hsv : ∀(s:Sl) (w:Value),J8 P (vs.cx S0 env m) s w→J8 P (vs2.cx S0 env2 m) (Jsa j vs.bf.length s) w:=by
  intro s w hr;cases s with
  | v s=>exact hs1 s w hr
  | t l=>obtain ⟨b,h1,h2⟩:=hr;exact ⟨b,h1,hss l _ h2⟩
 have hst:Stp (vs.cx S0 env m) (vs2.cx S0 env2 m):=by
  refine ⟨hfr.mono (fun _ w=>w.elim) (fun _ w=>w.elim),hle,fun q w => ?_,fun q w => ?_⟩
  ·rcases w with ⟨t,h1,h3,h2⟩|w
   ·have h3':JM vs2.bx t=true:=h3
    rw [hho] at h3';split at h3'
    ·cases h3'
    ·exact .inl (.inl ⟨t,show t<vs.bx.length by rw [←hnb];exact h1,h3',by have:env2.β t=q:=h2;rw [hβ2] at this;exact this⟩)
   ·have w':env2.φ q:=w
    rw [hφ2] at w';exact .inl (.inr w')
  ·obtain ⟨t',b,h1,h2,h3⟩:=w;have h1':vs2.bf[t']? = some b:=h1
   have h3':env2.τ t'=some q:=h3
   rw [hbf2,Qd] at h1';split at h1'
   ·rename_i e1;subst e1;rw [hτn] at h3';by_cases hx:xs = []
    ·rw [ht0 hx] at h3';cases h3'
    ·rw [ht1 hx] at h3';cases h3';exact .inr (.inl (.inl ⟨j,hjl,hhj hx,rfl⟩))
   ·rw [hτo t' (Jx h1')] at h3';exact .inl ⟨t',b,h1',h2,h3'⟩
 refine ⟨⟨?_,by rw [hN2];exact h.size,fun i=>by rw [hsl2];exact hsv _ _ (h.sl i), ?_⟩,hst,hs1⟩
 ·refine ⟨hT.free, hT.bar, rfl, rfl, rfl, fun t ht hh => .inr (.inl ⟨t, ht, hh, rfl⟩), fun q w => hT.slt q (hS q w).1, fun t' b hb => ?_, fun t1 t2 b1 b2 q h1 h2 l1 l2 g1 g2 => ?_, fun t' cs hc => ?_, fun t1 t2 h1 h2 g1 g2 he => ?_, fun q w => .inr (.inr w), fun t' h1 h2 w => ?_, hT.rts, hT.unq⟩
  ·have hb':vs2.bf[t']? = some b:=hb
   rw [hbf2,Qd] at hb';split at hb'
   ·rename_i e1;subst e1;cases hb';refine ⟨hpos, ?_⟩;show (match env2.τ vs.bf.length with | none=>_ | some i=>_);rw [hτn];by_cases hx:xs = []
    ·rw [ht0 hx];exact fun _=>hx
    ·rw [ht1 hx];obtain ⟨k,c,eo,fr,g1,g2,g3,g4,g5,g6,g7,g8,_⟩:=hR hx;exact ⟨fun w=>(hS _ w).2 hx rfl,k,c,eo,fr,g1,g2,g6 rfl,g3,g7,fun q x hq=>QR.mono hle.mono (g8 q x hq),fun _=>⟨g4,g5.1⟩⟩
   ·exact XV.le (Wb:=fun _=>False) (Wl:=fun _=>False) hfr hle.mono (fun _ w=>w.elim) (hτo t' (Jx hb')) (hT.bf t' b hb') (fun _ _ _ w=>w)
  ·have h1':vs2.bf[t1]? = some b1:=h1
   have h2':vs2.bf[t2]? = some b2:=h2
   have g1':env2.τ t1=some q:=g1
   have g2':env2.τ t2=some q:=g2
   have cross : ∀t1 b1,vs.bf[t1]? = some b1→env.τ t1=some q→t=some q→False:=by
    intro t1 b1 k1 k2 k3;by_cases hx:xs = []
    ·rw [ht0 hx] at k3;cases k3
    ·rw [ht1 hx] at k3;cases k3;exact (hT.bf t1 b1 k1).noS k2 (hT.inS j hjl (hhj hx))
   rw [hbf2,Qd] at h1' h2';split at h1' <;> split at h2'
   ·rename_i e1 e2;rw [e1,e2]
   ·rename_i e1 e2;subst e1;rw [hτn] at g1';rw [hτo t2 (Jx h2')] at g2';exact (cross t2 b2 h2' g2' g1').elim
   ·rename_i e1 e2;subst e2;rw [hτn] at g2';rw [hτo t1 (Jx h1')] at g1';exact (cross t1 b1 h1' g1' g2').elim
   ·rw [hτo t1 (Jx h1')] at g1';rw [hτo t2 (Jx h2')] at g2';exact hT.bfd t1 t2 b1 b2 q h1' h2' l1 l2 g1' g2'
  ·rw [hget] at hc;split at hc
   ·cases hc;trivial
   ·rename_i e1;rw [Ja] at hc;obtain ⟨cs0,hc0,rfl⟩:=hc;have hB:Qy P (vs2.cx S0 env2 m) t' cs0:=Qy.le hT.free hT.rts hfr hle (fun _=>by show env2.β t'=_;rw [hβ2];rfl) (hT.bx t' cs0 hc0) (fun _ w=>w) (fun _ w=>w)
    cases hrun:J9 cs0 with
    | true=>
     cases hsg:cs0.any Qh with
     | false=>rw [Jr9 hrun hsg];exact hB
     | true=>
      refine Qy.ofSg ((Jh7 (JeJ _ _) cs0).trans hsg) ?_;obtain ⟨k,ws,g1,g3,g4,g5,g6,g7⟩:=(hT.bx t' cs0 hc0).sg hsg;unfold JbP;rw [show (vs2.cx S0 env2 m).env.β t'=env.β t' by show env2.β t'=_;rw [hβ2]]
      exact ⟨k,ws,g1,g3,g4,g5,JlC (fun c hc=>by cases c <;> first | rfl | cases hc) (JeJ _ _) hle (fun c w q=>(hcs [c] [w] ⟨q,trivial⟩).1) g6,by rw [Jls (fun c hc=>by cases c <;> first | rfl | cases hc) (JeJ _ _)];exact g7⟩
    | false=>
     refine Qy.of ((JdZ _ _ cs0).1.trans hrun) ?_;obtain ⟨k,c,eo,fr,g1,g2,g3,g4,g5,g6⟩:=(hT.bx t' cs0 hc0).cel hrun;unfold JeA;rw [show (vs2.cx S0 env2 m).env.β t'=env.β t' by show env2.β t'=_;rw [hβ2]]
     exact ⟨k,c,eo,fr,g1,g2,g3,g4,g5,hcs cs0 _ g6⟩
  ·have g1':JM vs2.bx t1=true:=g1
   have g2':JM vs2.bx t2=true:=g2
   rw [hho] at g1' g2';split at g1'
   ·cases g1'
   ·split at g2'
    ·cases g2'
    ·refine hT.bxd t1 t2 (by rw [show (vs.cx S0 env m).nb=vs.bx.length from rfl,←hnb];exact h1) (by rw [show (vs.cx S0 env m).nb=vs.bx.length from rfl,←hnb];exact h2) g1' g2' ?_
     have he':env2.β t1=env2.β t2:=he
     rw [hβ2] at he';exact he'
  ·have g1':JM vs2.bx t'=true:=h2
   rw [hho] at g1';split at g1'
   ·cases g1'
   ·refine hT.φd t' (by rw [show (vs.cx S0 env m).nb=vs.bx.length from rfl,←hnb];exact h1) g1' ?_
    have w':env2.φ (env2.β t'):=w
    rw [hφ2,hβ2] at w';exact w'
 ·rw [hdf2];have hd:=h.df;generalize vs.df=l at hd;generalize a.defers=ds at hd;induction l generalizing ds with
  | nil=>cases ds with
   | nil=>trivial
   | cons=>exact hd.elim
  | cons p l ih=>
   obtain ⟨k,l0⟩:=p;cases ds with
   | nil=>exact hd.elim
   | cons d ds=>exact ⟨hd.1,hss l0 _ hd.2.1,ih ds hd.2.2⟩
theorem JeG (j q:Nat) (c:Cl):Qh (Ja4 j q c)=Qh c:=by
 cases c <;> first | rfl | (unfold Ja4;dsimp only;cases Nat.beq _ j <;> rfl)
theorem JdQ (j q : Nat) (cs : List Cl) : J9 (cs.map (Ja4 j q)) = J9 cs ∧ Xo (cs.map (Ja4 j q)) = Xo cs ∧ JaQ (cs.map (Ja4 j q)) = JaQ cs := by
 cases cs with
 | nil=>exact ⟨rfl,rfl,rfl⟩
 | cons c cs=>cases cs with
  | nil=>
   cases c with
   | m e j'=>
    show J9 [Ja4 j q (.m e j')]=_∧Xo [Ja4 j q (.m e j')]=_∧JaQ [Ja4 j q (.m e j')]=_;unfold Ja4;dsimp only;cases Nat.beq j' j <;> exact ⟨rfl,rfl,rfl⟩
   | _=>exact ⟨rfl,rfl,rfl⟩
  | cons c2 cs=>
   obtain ⟨k1,k2,k3⟩:=JbO c c2 cs;obtain ⟨g1,g2,g3⟩:=JbO (Ja4 j q c) (Ja4 j q c2) (cs.map (Ja4 j q));exact ⟨(g1.trans (Jh7 (JeG j q) (c::c2::cs))).trans k1.symm,g2.trans k2.symm,g3.trans k3.symm⟩
theorem Jrk {j q:Nat} {cs:List Cl} (h:J9 cs=true) (hs:cs.any Qh=false):cs.map (Ja4 j q)=cs:=by
 unfold J9 at h;split at h
 ·rfl
 ·rfl
 ·rfl
 ·rfl
 ·rfl
 ·rfl
 ·rw [hs] at h;cases h
theorem Rel.move (h : Rel P S0 env m a vs) {j : Nat} {own : Bool} {e : Ty} {xs : List e.El} (hj : vs.bx[j]? = some [.r own e xs]) :
  ∃env1,Rel P S0 env1 m a (V.move vs j own e xs)∧Stp (vs.cx S0 env m) ((V.move vs j own e xs).cx S0 env1 m):=by
 have hT:=h.T;have hjl:j<vs.bx.length:=Jx hj;obtain ⟨hRR,hown⟩:=hT.bx j _ hj;refine ⟨{ env with β:=fun i=>if i=vs.bx.length then env.β j else env.β i }, ?_⟩;generalize hZ:V.move vs j own e xs=vs2;have hbx2:vs2.bx=(QC vs.bx j [.g]).map (·.map (Ja4 j vs.bx.length)) ++ [[.r own e xs]]:=by rw [←hZ];rfl
 have hbf2:vs2.bf=vs.bf:=by rw [←hZ];rfl
 have hsl2:vs2.sl=fun i=>Jub j vs.bx.length (vs.sl i):=by rw [←hZ];rfl
 have hdf2:vs2.df=vs.df.map fun p=>(p.1,p.2.map (Jnb j vs.bx.length)):=by rw [←hZ];rfl
 have hN2:vs2.N=vs.N:=by rw [←hZ];rfl
 have hnb:vs2.bx.length=vs.bx.length+1:=by rw [hbx2,Jz,List.length_map,Qc];rfl
 have hget : ∀t,vs2.bx[t]? = if t=vs.bx.length then some [.r own e xs] else if t=j then some [.g] else (vs.bx[t]?).map (·.map (Ja4 j vs.bx.length)):=by
  intro t;rw [hbx2,Qd,List.length_map,Qc];by_cases e0:t=vs.bx.length
  ·rw [Jf e0,Jf e0]
  ·rw [Jd e0,Jd e0,List.getElem?_map,Jat];by_cases e1:t=j
   ·subst e1;rw [Jf rfl,Jf rfl,hj];rfl
   ·rw [Jd e1,Jd e1]
 have hho : ∀t,JM vs2.bx t=if t=vs.bx.length then JM vs.bx j else if t=j then false else JM vs.bx t:=by
  intro t;show (match vs2.bx[t]? with | some cs=>Xo cs | none=>false)=_;rw [hget];by_cases e0:t=vs.bx.length
  ·rw [Jf e0,Jf e0,JK hj]
  ·rw [Jd e0,Jd e0];by_cases e1:t=j
   ·rw [Jf e1,Jf e1];rfl
   ·rw [Jd e1,Jd e1];unfold JM;cases vs.bx[t]? with
    | none=>rfl
    | some cs=>exact (JdQ _ _ cs).2.1
 have hlo : ∀t,lenOf vs2.bx t=if t=vs.bx.length then some xs.length else if t=j then none else lenOf vs.bx t:=by
  intro t;unfold lenOf;rw [hget];by_cases e0:t=vs.bx.length
  ·rw [Jf e0,Jf e0];rfl
  ·rw [Jd e0,Jd e0];by_cases e1:t=j
   ·rw [Jf e1,Jf e1];rfl
   ·rw [Jd e1,Jd e1];cases vs.bx[t]? with
    | none=>rfl
    | some cs=>exact (JdQ _ _ cs).2.2
 generalize hen:({ env with β:=fun i=>if i=vs.bx.length then env.β j else env.β i }:Env)=env2;have hβn:env2.β vs.bx.length=env.β j:=by rw [←hen];exact Jf rfl
 have hβo : ∀t,t≠vs.bx.length→env2.β t=env.β t:=fun t ht=>by rw [←hen];exact Jd ht
 have hφ2:env2.φ=env.φ:=by rw [←hen]
 have hτ2:env2.τ=env.τ:=by rw [←hen]
 have hhj:xs ≠ []→JM vs.bx j=true:=fun q=>(JK hj).trans (QG q)
 have hlt : ∀t,JM vs.bx t=true→t≠vs.bx.length:=fun t ht=>by
  obtain ⟨cs,h1,_⟩:=JlX ht;have:=Jx h1
  omega
 have hold : ∀t,JM vs2.bx t=true → ∃t0,JM vs.bx t0=true∧env2.β t=env.β t0∧t0<vs.bx.length∧((t=vs.bx.length∧t0=j)∨(t=t0∧t≠j)):=by
  intro t w;rw [hho] at w;by_cases e0:t=vs.bx.length
  ·rw [Jf e0] at w;exact ⟨j,w,by rw [e0,hβn],hjl,.inl ⟨e0,rfl⟩⟩
  ·rw [Jd e0] at w;by_cases e1:t=j
   ·rw [Jf e1] at w;cases w
   ·rw [Jd e1] at w;obtain ⟨cs,h1,_⟩:=JlX w;exact ⟨t,w,hβo t e0,Jx h1,.inr ⟨rfl,e1⟩⟩
 have hS : ∀q,vs2.S S0 env2 q→vs.S S0 env q:=by
  intro q w;rcases w with w|⟨t,h1,h3,h2⟩|w
  ·exact .inl w
  ·obtain ⟨t0,k1,k2,k3,_⟩:=hold t h3;exact .inr (.inl ⟨t0,k3,k1,by rw [←k2];exact h2⟩)
  ·rw [hφ2] at w;exact .inr (.inr w)
 have hfr:Fr2 (fun _=>False) (fun _=>False) m m:=Fr2.refl hT.free;have hle:Jac (vs.cx S0 env m) (vs2.cx S0 env2 m):=by
  refine ⟨fun q r hr hn=>⟨hr,fun w=>hn (hS q w)⟩,by show vs.bx.length≤vs2.bx.length;omega,fun q hq=>hβo q (by have:q<vs.bx.length:=hq;omega),fun q b hb=>⟨b.live,by show vs2.bf[q]? = _;rw [hbf2];exact hb,by show env2.τ q=_;rw [hτ2];rfl⟩,fun q hq w => ?_,fun q L hq w => ?_,fun _ q=>q,fun q w=>by show env2.φ q;rw [hφ2];exact w,Je _,fun _ _ q=>q⟩
  ·have w':JM vs2.bx q=true:=w
   have hq':q<vs.bx.length:=hq
   rw [hho,Jd (by omega)] at w';split at w'
   ·cases w'
   ·exact w'
  ·have w':lenOf vs2.bx q=some L:=w
   have hq':q<vs.bx.length:=hq
   rw [hlo,Jd (by omega)] at w';split at w'
   ·cases w'
   ·exact w'
 have hcl : ∀(c:Cl) (w:Value),Jap P (vs.cx S0 env m) c w→Jap P (vs2.cx S0 env2 m) (Ja4 j vs.bx.length c) w:=by
  intro c w hr;cases c with
  | m e' j'=>
   unfold Ja4;dsimp only;cases hb:Nat.beq j' j with
   | false=>exact hr.le hle
   | true=>
    have:=Jr hb
    subst this;obtain ⟨g1,g2,g3⟩:=hr;refine ⟨by show vs.bx.length<vs2.bx.length;omega,⟨g2.1,g2.2⟩,fun L hL => ?_⟩
    have hL':lenOf vs2.bx vs.bx.length=some L:=hL
    rw [hlo,Jf rfl] at hL';have:=g3 L (by show lenOf vs.bx j'=some L;unfold lenOf;rw [hj];exact hL')
    refine ⟨this.1,fun w => ?_⟩;rw [this.2 w];show _=Value.slice (some ⟨env2.β vs.bx.length,0,none⟩) _ _;rw [hβn];rfl
  | _=>exact hr.le hle
 have hcs : ∀(cs:List Cl) (ws:List Value),Qa P (vs.cx S0 env m) cs ws→Qa P (vs2.cx S0 env2 m) (cs.map (Ja4 j vs.bx.length)) ws:=by
  intro cs;induction cs with
  | nil=>intro ws hr;cases ws with
   | nil=>trivial
   | cons=>exact hr.elim
  | cons c cs ih=>intro ws hr;cases ws with
   | nil=>exact hr.elim
   | cons w ws=>exact ⟨hcl c w hr.1,ih ws hr.2⟩
 have hs1 : ∀(s:S1) (w:Value),Ja3 P (vs.cx S0 env m) s w→Ja3 P (vs2.cx S0 env2 m) (Jnb j vs.bx.length s) w:=by
  intro s w hr;cases s with
  | x=>trivial
  | s c=>exact hcl c w hr
  | a cs=>obtain ⟨b,h1,h2⟩:=hr;exact ⟨b,h1,hcs cs _ h2⟩
 have hss : ∀(l:List S1) (ws:List Value),QZ P (vs.cx S0 env m) l ws→QZ P (vs2.cx S0 env2 m) (l.map (Jnb j vs.bx.length)) ws:=by
  intro l;induction l with
  | nil=>intro ws hr;cases ws with
   | nil=>trivial
   | cons=>exact hr.elim
  | cons c l ih=>intro ws hr;cases ws with
   | nil=>exact hr.elim
   | cons w ws=>exact ⟨hs1 c w hr.1,ih ws hr.2⟩
 have hsv : ∀(s:Sl) (w:Value),J8 P (vs.cx S0 env m) s w→J8 P (vs2.cx S0 env2 m) (Jub j vs.bx.length s) w:=by
  intro s w hr;cases s with
  | v s=>exact hs1 s w hr
  | t l=>obtain ⟨b,h1,h2⟩:=hr;exact ⟨b,h1,hss l _ h2⟩
 have hst:Stp (vs.cx S0 env m) (vs2.cx S0 env2 m):=by
  refine ⟨hfr.mono (fun _ w=>w.elim) (fun _ w=>w.elim),hle,fun q w => ?_,fun q w => ?_⟩
  ·rcases w with ⟨t,h1,h3,h2⟩|w
   ·obtain ⟨t0,k1,k2,k3,_⟩:=hold t h3;exact .inl (.inl ⟨t0,k3,k1,by rw [←h2];exact k2.symm⟩)
   ·have w':env2.φ q:=w
    rw [hφ2] at w';exact .inl (.inr w')
  ·obtain ⟨t',b,h1,h2,h3⟩:=w;have h1':vs2.bf[t']? = some b:=h1
   have h3':env2.τ t'=some q:=h3
   rw [hbf2] at h1';rw [hτ2] at h3';exact .inl ⟨t',b,h1',h2,h3'⟩
 refine ⟨⟨?_,by rw [hN2];exact h.size,fun i=>by rw [hsl2];exact hsv _ _ (h.sl i), ?_⟩,hst⟩
 ·refine ⟨hT.free, hT.bar, rfl, rfl, rfl, fun t ht hh => .inr (.inl ⟨t, ht, hh, rfl⟩), fun q w => hT.slt q (hS q w), fun t' b hb => ?_, fun t1 t2 b1 b2 q h1 h2 l1 l2 g1 g2 => ?_, fun t' cs hc => ?_, fun t1 t2 h1 h2 g1 g2 he => ?_, fun q w => .inr (.inr w), fun t' h1 h2 w => ?_, hT.rts, hT.unq⟩
  ·have hb':vs2.bf[t']? = some b:=hb
   rw [hbf2] at hb';exact XV.le (Wb:=fun _=>False) (Wl:=fun _=>False) hfr hle.mono (fun _ w=>w.elim) (by show env2.τ t'=_;rw [hτ2];rfl) (hT.bf t' b hb') (fun _ _ _ w=>w)
  ·have h1':vs2.bf[t1]? = some b1:=h1
   have h2':vs2.bf[t2]? = some b2:=h2
   have g1':env2.τ t1=some q:=g1
   have g2':env2.τ t2=some q:=g2
   rw [hbf2] at h1' h2';rw [hτ2] at g1' g2';exact hT.bfd t1 t2 b1 b2 q h1' h2' l1 l2 g1' g2'
  ·rw [hget] at hc;split at hc
   ·rename_i e0;cases hc;subst e0;refine ⟨JaA.le hT.free hT.rts hfr hle.mono hle.φ (fun _=>hβn) hRR (fun _ w=>w) (fun _ w=>w),fun q1 q2 => ?_⟩;show ¬S0 (env2.β vs.bx.length);rw [hβn];exact hown q1 q2
   ·split at hc
    ·cases hc;trivial
    ·rename_i e0 e1;rw [Ja] at hc;obtain ⟨cs0,hc0,rfl⟩:=hc;have hB:Qy P (vs2.cx S0 env2 m) t' cs0:=Qy.le hT.free hT.rts hfr hle (fun _=>hβo t' e0) (hT.bx t' cs0 hc0) (fun _ w=>w) (fun _ w=>w);cases hrun:J9 cs0 with
     | true=>
      cases hsg:cs0.any Qh with
      | false=>rw [Jrk hrun hsg];exact hB
      | true=>
       refine Qy.ofSg ((Jh7 (JeG _ _) cs0).trans hsg) ?_;obtain ⟨k,ws,g1,g3,g4,g5,g6,g7⟩:=(hT.bx t' cs0 hc0).sg hsg;unfold JbP;rw [show (vs2.cx S0 env2 m).env.β t'=env.β t' from hβo t' e0];exact ⟨k,ws,g1,g3,g4,g5,JlC (fun c hc=>by cases c <;> first | rfl | cases hc) (JeG _ _) hle (fun c w q=>(hcs [c] [w] ⟨q,trivial⟩).1) g6,by rw [Jls (fun c hc=>by cases c <;> first | rfl | cases hc) (JeG _ _)];exact g7⟩
     | false=>
      refine Qy.of ((JdQ _ _ cs0).1.trans hrun) ?_;obtain ⟨k,c,eo,fr,g1,g2,g3,g4,g5,g6⟩:=(hT.bx t' cs0 hc0).cel hrun;unfold JeA;rw [show (vs2.cx S0 env2 m).env.β t'=env.β t' from hβo t' e0];exact ⟨k,c,eo,fr,g1,g2,g3,g4,g5,hcs cs0 _ g6⟩
  ·obtain ⟨a1,k1,k2,k3,k4⟩:=hold t1 g1;obtain ⟨a2,q1,q2,q3,q4⟩:=hold t2 g2;have he':env2.β t1=env2.β t2:=he
   have:a1=a2:=hT.bxd a1 a2 k3 q3 k1 q1 (by show env.β a1=env.β a2;rw [←k2,←q2];exact he')
   rcases k4 with ⟨r1,r2⟩|⟨r1,r2⟩ <;> rcases q4 with ⟨s1,s2⟩|⟨s1,s2⟩ <;> omega
  ·obtain ⟨a1,k1,k2,k3,_⟩:=hold t' h2;have w':env2.φ (env2.β t'):=w
   rw [hφ2,k2] at w';exact hT.φd a1 k3 k1 w'
 ·rw [hdf2];have hd:=h.df;generalize vs.df=l at hd;generalize a.defers=ds at hd;induction l generalizing ds with
  | nil=>cases ds with
   | nil=>trivial
   | cons=>exact hd.elim
  | cons p l ih=>
   obtain ⟨k,l0⟩:=p;cases ds with
   | nil=>exact hd.elim
   | cons d ds=>exact ⟨hd.1,hss l0 _ hd.2.1,ih ds hd.2.2⟩
end Go.IM.V
namespace Go.IM.V
open Go Go.IM
variable {P:Program} {m m1:M} {S0:Nat→Prop} {env:Env} {a:Act} {vs:VS} {X:Cx}
def OpS (P:Program) (S0:Nat→Prop) (env:Env) (m:M) (a:Act) (vs:VS) (o:Oper) (x:Sl) (vs1:VS):Prop:=
 ∃v m1 env1,(iop P a.eval o m=some (.val v m1)∨(iop P a.eval o m=some (.skip m1)∧v=undef))∧Rel P S0 env1 m1 a vs1∧Stp (vs.cx S0 env m) (vs1.cx S0 env1 m1)∧J8 P (vs1.cx S0 env1 m1) x v
theorem OpS.same {o:Oper} {x:Sl} {v:Value} (h:Rel P S0 env m a vs) (hi:iop P a.eval o m=some (.val v m)) (hx:J8 P (vs.cx S0 env m) x v):OpS P S0 env m a vs o x vs:=
 ⟨v,m,env,.inl hi,h,Stp.refl h.T.free,hx⟩
theorem JoX (v : Value) : Ja3 P X (of1 v) v := by
 unfold of1;split
 ·rename_i cs;split
  ·rename_i hall;refine ⟨cs,rfl, ?_⟩;rw [Array.all_eq_true'] at hall;have : ∀l:List Value,(∀v∈l,okc v=true)→Qa P X (l.map .c) l:=by
    intro l;induction l with
    | nil=>intro _;trivial
    | cons v l ih=>intro h;exact ⟨⟨rfl,h v (by simp)⟩,ih fun w hw=>h w (by simp [hw])⟩
   exact this _ fun v hv=>hall v (by simpa using hv)
  ·trivial
 ·trivial
 ·rename_i h1 h2;split
  ·rename_i hn;refine ⟨rfl, ?_⟩;unfold okc;rw [hn];cases v <;> first | rfl | exact absurd rfl (h1 _) | exact absurd rfl (h2 _)
  ·trivial
theorem JdO (v:Value):J8 P X (ofV v) v:=by
 unfold ofV;split
 ·rename_i vs;refine ⟨vs,rfl, ?_⟩;have : ∀l:List Value,QZ P X (l.map of1) l:=by
   intro l;induction l with
   | nil=>trivial
   | cons v l ih=>exact ⟨JoX v,ih⟩
  exact this _
 ·exact JoX v
theorem QE (h:Rel P S0 env m a vs) (x:Operand):J8 P (vs.cx S0 env m) (vs.ev x) (a.eval x):=by
 cases x with
 | tmp t=>exact h.sl t
 | const v=>exact JdO v
 | func f=>exact ⟨rfl,rfl⟩
 | global g=>trivial
theorem Jtk {c:Cl} {w v:Value} (h:exC c=some w) (hr:Jap P X c v):v=w:=by
 cases c <;> first | (cases h;done) | skip
 cases h;exact hr.1
theorem exL_eq : ∀{cs:List Cl} {ws vs:List Value},exL cs=some ws→Qa P X cs vs→vs=ws:=by
 intro cs;induction cs with
 | nil=>intro ws vs h hr;cases h;cases vs with
  | nil=>rfl
  | cons=>exact hr.elim
 | cons c cs ih=>
  intro ws vs h hr;simp only [exL] at h;split at h
  ·rename_i w ws' h1 h2;cases h;cases vs with
   | nil=>exact hr.elim
   | cons v vs=>rw [Jtk h1 hr.1,ih h2 hr.2]
  ·cases h
theorem Jtl {s:S1} {w v:Value} (h:ex1 s=some w) (hr:Ja3 P X s v):v=w:=by
 cases s with
 | x=>cases h
 | s c=>exact Jtk h hr
 | a cs=>
  obtain ⟨b,rfl,h2⟩:=hr;simp only [ex1,Ja] at h;obtain ⟨ws,h3,rfl⟩:=h;rw [←exL_eq h3 h2]
theorem JuC : ∀{cs:List S1} {ws vs:List Value},ex1L cs=some ws→QZ P X cs vs→vs=ws:=by
 intro cs;induction cs with
 | nil=>intro ws vs h hr;cases h;cases vs with
  | nil=>rfl
  | cons=>exact hr.elim
 | cons c cs ih=>
  intro ws vs h hr;simp only [ex1L] at h;split at h
  ·rename_i w ws' h1 h2;cases h;cases vs with
   | nil=>exact hr.elim
   | cons v vs=>rw [Jtl h1 hr.1,ih h2 hr.2]
  ·cases h
theorem Jl1 {s:Sl} {w v:Value} (h:exS s=some w) (hr:J8 P X s v):v=w:=by
 cases s with
 | v s=>exact Jtl h hr
 | t l=>
  obtain ⟨b,rfl,h2⟩:=hr;simp only [exS,Ja] at h;obtain ⟨ws,h3,rfl⟩:=h;rw [←JuC h3 h2]
theorem Jdy : ∀{l:List Operand},Jp6 vs l=true → ∀x∈l,(exS (vs.ev x)).isSome=true:=by
 intro l;induction l with
 | nil=>intro _ x hx;cases hx
 | cons y l ih=>
  intro h x hx;simp only [Jp6,Jh] at h;rcases JJ.1 hx with rfl | hx
  ·exact h.1
  ·exact ih h.2 x hx
theorem Jte {P:Program} {o:Oper} (h:isP (JS P o)=true):JS P o = .p:=by
 unfold isP at h;split at h
 ·assumption
 ·cases h
theorem Jdj {ev:Operand→Value} {o:Oper} (h:Jfo o.op=true):iop P ev o m=QT P ev o m:=by
 unfold Jfo at h;split at h
 ·rename_i c ho;split at h
  ·rename_i hc;unfold iop;rw [ho];dsimp only;unfold JaT;rw [hc]
  ·rename_i hc;unfold iop;rw [ho];dsimp only;unfold JaT;rw [hc]
  ·cases h
 ·cases h
theorem Joc {ev:Operand→Value} {o:Oper} {r:Res} (hk:(isP (JS P o) || Jfo o.op)=true) (h:iop P ev o m=some r) : ∃v,r = .val v m ∧ ∀m2,iop P ev o m2=some (.val v m2):=by
 rw [Bool.or_eq_true] at hk;rcases hk with hk | hk
 ·exact Jur (Jte hk) h
 ·rw [Jdj hk] at h;obtain ⟨v,h1,h2⟩:=Xq h;exact ⟨v,h1,fun m2=>by rw [Jdj hk];exact h2 m2⟩
theorem JjW (h : Rel P S0 env m a vs) {o : Oper} {g : Option Bool} {x : Sl} {vs1 : VS} (hv : Jmz P vs o = some (g, x, vs1)) : OpS P S0 env m a vs o x vs1 := by
 unfold Jmz at hv;split at hv
 ·rename_i hc;simp only [Jh] at hc;split at hv
  ·rename_i v mm hi;cases hv;obtain ⟨v',h1,h2⟩:=Joc hc.1 hi;cases h1;have hcong:iop P a.eval o m=iop P (evV vs) o m:=Jfq fun y hy=>by
    have hsome:=Jdy hc.2 y (by simpa using hy);obtain ⟨w,hw⟩:=Option.isSome_iff_exists.1 hsome;have:=Jl1 hw (QE h y)
    rw [this];unfold evV;rw [hw];rfl
   exact OpS.same h (by rw [hcong];exact h2 m) (JdO v)
  ·cases hv
 ·cases hv
theorem Xk {t e:TypeId} {ty:Ty} (h:JnB P t=some (e,ty)):P.underlying t=some (.slice e)∧0<ty.n∧P.cellsOf e=ty.n ∧ ∃ti,P.info? e=some ti∧ti.size=ty.n∧ti.bytes≤128:=by
 unfold JnB at h;split at h
 ·rename_i e' hu;split at h
  ·rename_i ty' ti h1 h2;split at h
   ·rename_i hc;cases h;exact ⟨hu,hc.2.1,by unfold Program.cellsOf;rw [h2];exact hc.1,ti,h2,hc.1,hc.2.2⟩
   ·cases h
  ·cases h
 ·cases h
def IO:Option Int→Option Value→Prop
 | none,none=>True
 | some n,some w => ∃k,w = .int k n
 | _,_=>False
theorem X7 {x:Sl} {n:Int} {v:Value} (h:JkO x=some n) (hr:J8 P X x v) : ∃k,v = .int k n:=by
 unfold JkO at h;split at h
 ·cases h;exact ⟨_,hr.1⟩
 ·cases h
theorem XA (h:Rel P S0 env m a vs) {o:Option Operand} {l:Option Int} (hl:JlV (o.map vs.ev)=some l):IO l (o.map a.eval):=by
 cases o with
 | none=>cases hl;trivial
 | some x=>
  simp only [JU,JlV,Ja] at hl;obtain ⟨n,h1,rfl⟩:=hl;exact X7 h1 (QE h x)
def hiN (n:Nat):Option Int→Nat
 | none=>n
 | some k=>k.toNat
def inB (y:Nat):Option Int→Prop
 | none=>True
 | some n=>0≤n∧n≤(y:Int)
theorem Qt {l:Option Int} {v:Option Value} {d y:Nat} (h:IO l v) (hb:inB y l):Jar v d y=some (hiN d l):=by
 cases l with
 | none=>cases v with
  | none=>rfl
  | some w=>exact h.elim
 | some n=>cases v with
  | none=>exact h.elim
  | some w=>
   obtain ⟨k,rfl⟩:=h;simp only [Jar,Jlf];rw [Jf (show 0≤n∧n≤(y:Int) from hb)];rfl
theorem JfE {n:Nat} {lo hi:Option Int} (h:JhZ n lo hi=true):inB n hi∧inB (hiN n hi) lo:=by
 cases lo <;> cases hi <;> simp [JhZ,inB,hiN] at h ⊢ <;> omega
theorem JpE {α:Type} (xs:List α) {lo hi:Option Int} (h:JhZ xs.length lo hi=true):(cut xs lo hi).length=hiN xs.length hi - hiN 0 lo:=by
 cases lo <;> cases hi <;> simp [JhZ,cut,hiN] at h ⊢ <;> omega
theorem JpF {α:Type} (xs:List α) {lo hi:Option Int} (h:JhZ xs.length lo hi=true) {k:Nat} {x:α} (hk:(cut xs lo hi)[k]? = some x):xs[hiN 0 lo+k]? = some x:=by
 cases lo with
 | none=>cases hi with
  | none=>simpa [cut,hiN] using hk
  | some n=>
   simp only [cut] at hk;rw [List.getElem?_take] at hk;split at hk
   ·simpa [hiN] using hk
   ·cases hk
 | some l=>cases hi with
  | none=>simpa [cut,hiN] using hk
  | some n=>
   simp only [cut] at hk;rw [List.getElem?_drop,List.getElem?_take] at hk;split at hk
   ·exact hk
   ·cases hk
theorem Jgp {S : Nat → Prop} {t e : TypeId} {ti : TypeInfo} {n : Nat} {α : Type} {R : α → List Value → Prop} {xs : List α} {v : Value} {lo hi : Option Int} {vl vh : Option Value} (hu : P.underlying t = some (.slice e)) (hi' : P.info? e = some ti) (hs : ti.size = n)
  (hr:Jbu P S m n R xs v) (hlo:IO lo vl) (hhi:IO hi vh) (hg:JhZ xs.length lo hi=true) : ∃v',QD P t v vl vh none m=some v'∧Jbu P S m n R (cut xs lo hi) v':=by
 obtain ⟨g1,g2⟩:=JfE hg;have hlen:=JpE xs hg;have hcg : ∀{k:Nat} {x:α},(cut xs lo hi)[k]? = some x→xs[hiN 0 lo+k]? = some x:=fun hk=>JpF xs hg hk
 rcases hr with ⟨rfl,rfl⟩|⟨i,o,sp,cap,rfl,hcap,hr⟩
 ·refine ⟨.slice none 0 0, ?_,.inl ⟨rfl, ?_⟩⟩
  ·unfold QD;rw [hu];dsimp only;rw [hi'];have b1:=Qt (d:=0) (y:=0) (l:=none) (v:=none) trivial trivial;have b2:=Qt (d:=0) (y:=0) hhi g1;have b3:=Qt (d:=0) (y:=hiN 0 hi) hlo g2;rw [b1];simp only [hiN] at b2 b3 ⊢;rw [b2];dsimp only;rw [b3];cases hi <;> cases lo <;> simp [JhZ,hiN] at hg ⊢ <;> omega
  ·apply JT
   rw [hlen];cases hi with
   | none=>simp [hiN]
   | some k=>simp only [JD,inB,hiN] at g1 ⊢;omega
 ·have hl1 : hiN 0 lo ≤ hiN xs.length hi := by
   cases lo with
   | none=>simp [hiN]
   | some k=>simp only [inB,hiN] at g2 ⊢;omega
  have hl2:hiN xs.length hi≤xs.length:=by
   cases hi with
   | none=>exact Je _
   | some k=>simp only [inB,hiN] at g1 ⊢;omega
  have b1:=Qt (d:=cap) (y:=cap) (l:=none) (v:=none) trivial trivial;have b2:=Qt (d:=xs.length) (y:=cap) hhi (by cases hi with | none=>trivial | some k=>exact ⟨g1.1,by have:=g1.2;omega⟩)
  have b3:=Qt (d:=0) (y:=hiN xs.length hi) hlo g2;have hL:hiN 0 lo=hiN 0 lo:=rfl;generalize hiN 0 lo=L at *;generalize hiN xs.length hi=H at *;have comp : ∀v',(if cap=0 then some (.slice (some ⟨i,o,sp⟩) 0 0) else match m.row i with | some (_,e')=>if P.cellsOf e'=ti.size then some (Value.slice (some ⟨i,o+L*ti.size,sp⟩) (H - L) (cap - L)) else none | none=>none)=some v'→QD P t (.slice (some ⟨i,o,sp⟩) xs.length cap) vl vh none m=some v':=by
   intro v' hv';unfold QD;rw [hu];dsimp only;rw [hi',show Jar none cap cap=some cap from rfl];dsimp only;rw [Jd (by simp),b2];dsimp only;rw [b3];dsimp only;rw [Jf ⟨by omega,by omega⟩];exact hv'
  by_cases hc0:cap=0
  ·refine ⟨.slice (some ⟨i,o,sp⟩) 0 0,comp _ (by rw [Jf hc0]),.inr ⟨i,o,sp,0,by rw [show (cut xs lo hi).length=0 by omega],by omega,.inl rfl⟩⟩
  ·rcases hr with hr|⟨c,e',h4,h5,h6,h7,h8⟩
   ·exact absurd hr hc0
   ·refine ⟨.slice (some ⟨i,o+L*ti.size,sp⟩) (H - L) (cap - L),comp _ (by rw [Jd hc0,h4];dsimp only;rw [Jf (by omega)]),.inr ⟨i,o+L*n,sp,cap - L,by rw [hlen,hs],by rw [hlen];omega,.inr ⟨c,e',h4,h5,h6, ?_,fun k x hk => ?_⟩⟩⟩
    ·rw [hlen];have:L*n+(H - L)*n=H*n:=by rw [←Nat.add_mul];congr 1;omega
     have h9:H*n≤xs.length*n:=Jw _ hl2;omega
    ·have hk2:=hcg hk;have h9:=h8 (L+k) x hk2;rw [JQ,←Nat.add_assoc] at h9;exact h9
theorem JaF {t e : TypeId} {ti : TypeInfo} {lo hi mx : Option Int} {vl vh vm : Option Value} (hu : P.underlying t = some (.slice e)) (hi' : P.info? e = some ti)
  (hlo:IO lo vl) (hhi:IO hi vh) (hmx:IO mx vm) (hg:JhZ 0 lo hi=true) (hm : ∀k,mx=some k→hi.isSome=true∧k=0):QD P t (.slice none 0 0) vl vh vm m=some (.slice none 0 0):=by
 obtain ⟨g1,g2⟩:=JfE hg;unfold QD;rw [hu];dsimp only;rw [hi'];have b1:Jar vm 0 0=some 0:=by
  cases mx with
  | none=>exact Qt (l:=none) hmx trivial
  | some k=>
   obtain ⟨_,rfl⟩:=hm k rfl;exact Qt (d:=0) (y:=0) hmx ⟨Int.le_refl _,Int.le_refl _⟩
 have b2:=Qt (d:=0) (y:=0) hhi g1;have b3:=Qt (d:=0) (y:=hiN 0 hi) hlo g2;have hsome : ¬(vm.isSome=true∧vh.isNone=true):=by
  rintro ⟨q1,q2⟩
  cases mx with
  | none=>cases vm with
   | none=>cases q1
   | some w=>exact hmx.elim
  | some k=>
   have:=(hm k rfl).1
   cases hi with
   | none=>cases this
   | some z=>cases vh with
    | none=>exact hhi.elim
    | some w=>cases q2
 rw [b1];dsimp only;rw [Jd hsome,b2];dsimp only;rw [b3];cases hi <;> cases lo <;> simp [JhZ,hiN] at hg ⊢ <;> omega
theorem Jcs {t e:TypeId} {ti:TypeInfo} {lo:Option Int} {h:Int} {vl vh vm:Option Value} {i o len cap:Nat} {sp:Option Nat} (hu:P.underlying t=some (.slice e)) (hi':P.info? e=some ti)
  (hlo:IO lo vl) (hhi:IO (some h) vh) (hmx:IO (some h) vm) (hlc:len≤cap) (hg:JhZ len lo (some h)=true) (hrow:cap≠0 → ∃c e',m.row i=some (c,e')∧P.cellsOf e'=ti.size) :
  QD P t (.slice (some ⟨i,o,sp⟩) len cap) vl vh vm m=some (if cap=0 then .slice (some ⟨i,o,some 0⟩) 0 0 else .slice (some ⟨i,o+hiN 0 lo*ti.size,some 0⟩) (h.toNat - hiN 0 lo) (h.toNat - hiN 0 lo)):=by
 obtain ⟨g1,g2⟩:=JfE hg;have hh:0≤h∧h≤(len:Int):=g1;have b1:Jar vm cap cap=some h.toNat:=Qt (l:=some h) hmx ⟨hh.1,by omega⟩;have b2:Jar vh len h.toNat=some h.toNat:=Qt (l:=some h) hhi ⟨hh.1,by omega⟩;have b3:Jar vl 0 h.toNat=some (hiN 0 lo):=Qt hlo g2;have hsome : ¬(vm.isSome=true∧vh.isNone=true):=by
  rintro ⟨_,q2⟩
  cases vh with
  | none=>exact hhi.elim
  | some w=>cases q2
 have hms:vm.isSome=true:=by
  cases vm with
  | none=>exact hmx.elim
  | some w=>rfl
 have hll:hiN 0 lo≤h.toNat:=by
  cases lo with
  | none=>exact Nat.zero_le _
  | some l=>have:0≤l∧l≤((h.toNat:Nat):Int):=g2;simp only [hiN];omega
 unfold QD;rw [hu];dsimp only;rw [hi',b1];dsimp only;rw [Jd hsome,b2];dsimp only;rw [b3];dsimp only;rw [Jf ⟨Je _,hll⟩];have hk:Jla vm h.toNat h.toNat sp=some 0:=by
  unfold Jla;exact Jf ⟨hms,rfl⟩
 rw [hk];by_cases hc:cap=0
 ·rw [Jf hc,Jf hc]
 ·obtain ⟨c,e',h1,h2⟩:=hrow hc;rw [Jd hc,Jd hc,h1];dsimp only;rw [Jf h2]
theorem Qf {p:Prop} [Decidable p] (h:decide p=true):p:=by simpa using h
def Jbt (g:Option Bool):Prop := ∀b,g=some b→b=true
theorem Jim (h : Rel P S0 env m a vs) {o : Oper} {t : TypeId} {x : Operand} {lo hi mx : Option Operand} (ho : o.op = .slice t x lo hi mx) {g : Option Bool} {y : Sl} {vs1 : VS} {cz : Bool} (hv : Jin P t (vs.ev x) (lo.map vs.ev) (hi.map vs.ev) (mx.map vs.ev) vs cz = some (g, y, vs1)) (hg : Jbt g) : OpS P S0 env m a vs o y vs1 := by
 have hx:=QE h x;have fin : ∀{v'},QD P t (a.eval x) (lo.map a.eval) (hi.map a.eval) (mx.map a.eval) m=some v'→iop P a.eval o m=some (.val v' m):=by
  intro v' hv';unfold iop;rw [ho];dsimp only;rw [hv']
 have nomx : ∀{q:Option Operand},IO none (q.map a.eval)→q.map a.eval=none:=by
  intro q hq;cases q with
  | none=>rfl
  | some z=>exact hq.elim
 unfold Jin at hv;split at hv
 ·cases hv
 ·rename_i e ty hel;obtain ⟨hu, hn, hce, ti, hti, hsz, hby⟩ := Xk hel;split at hv
  ·rename_i v hxv;rw [hxv] at hx;obtain ⟨hx1,_⟩:=hx;cases hnil:XU v with
   | false=>rw [hnil] at hv;cases hv
   | true=>
    rw [hnil] at hv;simp only [Jk] at hv;split at hv
    ·rename_i l1 h1 m1 e1 e2 e3;cases hv;have hgt:=hg _ rfl;simp only [Jh] at hgt;obtain ⟨hg1,hg2⟩:=hgt;have io1:=XA h e1;have io2:=XA h e2;have io3:=XA h e3;have hvn:a.eval x = .slice none 0 0:=by rw [hx1];exact Q7 hnil
     refine OpS.same (v := .slice none 0 0) h (fin ?_) (.inl ⟨rfl,rfl⟩);rw [hvn];refine JaF hu hti io1 io2 io3 hg1 (fun k hk => ?_);subst hk;simpa using hg2
    ·cases hv
  ·
   rename_i e0 j hxj;rw [hxj] at hx;split at hv
   ·rename_i he;subst he;split at hv
    ·rename_i xs l1 h1 m1 hrun e1 e2 e3;have io1 := XA h e1;have io2 := XA h e2;have io3 := XA h e3;obtain ⟨own, hj⟩ := JaD hrun;obtain ⟨k1, k2⟩ := JcR (e' := e0) h.T hj hx;obtain ⟨_, hrow⟩ := Je0 h.T hj;have hLn : lenOf vs.bx j = some xs.length := QN hj;have hjl : j < vs.bx.length := Jx hj;unfold Joa at hv;split at hv
     ·simp only [Jg, Jm] at hv;obtain ⟨hv1, rfl, rfl⟩ := hv;have hgc := hg _ hv1.symm;have hmx := nomx io3;obtain ⟨g1, g2⟩ := JfE hgc;have hH : JqQ xs.length h1 = hiN xs.length h1 := by cases h1 <;> rfl
      have hL:JqR l1=hiN 0 l1:=by cases l1 <;> rfl
      rw [hH,hL];have hll:hiN 0 l1≤hiN xs.length h1:=by
       cases l1 with
       | none=>simp [hiN]
       | some k=>simp only [inB,hiN] at g2 ⊢;omega
      have hl2:hiN xs.length h1≤xs.length:=by
       cases h1 with
       | none=>exact Je _
       | some k=>simp only [inB,hiN] at g1 ⊢;omega
      by_cases hne:xs = []
      ·have hcE := k1 hne;have hx0 : xs.length = 0 := by rw [hne];rfl
       have hr0:Jbu P (vs.S S0 env) m e0.n (QR P (vs.S S0 env) m e0) ([]:List e0.El) (a.eval x):=Jdt hcE;obtain ⟨v',h4,h5⟩:=Jgp (n:=e0.n) hu hti hsz hr0 io1 io2 (by rw [←hne];exact hgc)
       have hcut:cut ([]:List e0.El) l1 h1 = []:=by cases l1 <;> cases h1 <;> simp [cut]
       rw [hcut] at h5;have hsame : v' = a.eval x := by
        rcases hcE with q|⟨i,o',q⟩
        ·rw [q] at h4 ⊢;have:=JaF (m:=m) hu hti io1 io2 (mx:=none) (vm:=none) trivial (by rw [←hx0];exact hgc) (fun k hk=>by cases hk)
         rw [this] at h4;cases h4;rfl
        ·rw [q] at h4 ⊢;unfold QD at h4;rw [hu] at h4;dsimp only at h4;rw [hti,show Jar none 0 0=some 0 from rfl] at h4;dsimp only at h4;rw [Jd (by simp)] at h4;split at h4
         ·split at h4
          ·split at h4
           ·rw [Jf rfl] at h4;cases h4;rfl
           ·cases h4
          ·cases h4
         ·cases h4
       subst hsame;refine OpS.same h (fin (by rw [hmx];exact h4)) ⟨hjl,⟨Jdu hcE,JbH hcE _⟩,fun L hL' => ?_⟩
       have hL'':lenOf vs.bx j=some L:=hL'
       rw [hLn] at hL'';cases hL'';refine ⟨by omega,fun _=>hcE,fun q=>absurd q (by omega)⟩
      ·have hwv:=k2 hne;obtain ⟨c,eo,h3,h4,h5⟩:=hrow hne;have hpos:0<xs.length:=JR.2 hne;have b1:Jar none xs.length xs.length=some xs.length:=rfl;have b2:=Qt (d:=xs.length) (y:=xs.length) io2 g1;have b3:=Qt (d:=0) (y:=hiN xs.length h1) io1 g2;have hi3:QD P t (a.eval x) (lo.map a.eval) (hi.map a.eval) (mx.map a.eval) m=some (.slice (some ⟨env.β j,hiN 0 l1*e0.n,none⟩) (hiN xs.length h1 - hiN 0 l1) (xs.length - hiN 0 l1)):=by
        rw [hmx,hwv];unfold QD;rw [hu];dsimp only;rw [hti,b1];dsimp only;rw [Jd (by simp),b2];dsimp only;rw [b3];dsimp only;rw [Jf ⟨hl2,hll⟩,Jd (by omega)];have h3':m.row (env.β j)=some (c,eo):=h3
        show (match m.row (env.β j) with | some (_,e')=>_ | none=>_)=_;rw [h3'];dsimp only;rw [Jf (by rw [hsz];exact h4),JG,hsz]
        rfl
       refine OpS.same h (fin hi3) ⟨hjl,⟨rfl,.inr (Je3 h.T.free h3)⟩,fun L hL' => ?_⟩;have hL'':lenOf vs.bx j=some L:=hL'
       rw [hLn] at hL'';cases hL'';exact ⟨by omega,fun q=>absurd q (by omega),fun _=>⟨none,_,rfl,by omega,by omega,fun q=>by cases q⟩⟩
     ·rename_i hh kk;simp only [Jg,Jm] at hv;obtain ⟨hv1,rfl,rfl⟩:=hv;have hgt:=hg _ hv1.symm;simp only [Jh,decide_eq_true_eq] at hgt;obtain ⟨hgc,rfl⟩:=hgt;obtain ⟨g1,g2⟩:=JfE hgc;have hL:JqR l1=hiN 0 l1:=by cases l1 <;> rfl
      rw [hL];have hh1:0≤kk∧kk≤(xs.length:Int):=g1;have hll:hiN 0 l1≤kk.toNat:=by
       cases l1 with
       | none=>exact Nat.zero_le _
       | some l=>have:0≤l∧l≤((kk.toNat:Nat):Int):=g2;simp only [hiN];omega
      by_cases hne:xs = []
      ·have hcE:=k1 hne;have hx0:xs.length=0:=by rw [hne];rfl
       have hz:kk=0:=by omega
       have hsame:QD P t (a.eval x) (lo.map a.eval) (hi.map a.eval) (mx.map a.eval) m=some (a.eval x):=by
        rcases hcE with q|⟨i,o',q⟩
        ·rw [q];exact JaF hu hti io1 io2 io3 (by rw [←hx0];exact hgc) (fun k hk=>by cases hk;exact ⟨rfl,hz⟩)
        ·rw [q];rw [Jcs hu hti io1 io2 io3 (Je _) (by rw [←hx0];exact hgc) (fun q=>absurd rfl q),Jf rfl]
       refine OpS.same h (fin hsame) ⟨hjl,⟨Jdu hcE,JbH hcE _⟩,fun L hL' => ?_⟩;have hL'':lenOf vs.bx j=some L:=hL'
       rw [hLn] at hL'';cases hL'';exact ⟨by omega,fun _=>hcE,fun q=>absurd q (by omega)⟩
      ·have hwv:=k2 hne;obtain ⟨c,eo,h3,h4,h5⟩:=hrow hne;have hpos:0<xs.length:=JR.2 hne;have hi3:=Jcs (m:=m) (sp:=none) (o:=0) (i:=env.β j) hu hti io1 io2 io3 (Je _) hgc (fun _=>⟨c,eo,h3,by rw [hsz];exact h4⟩)
       rw [Jd (by omega),JG,hsz] at hi3;refine OpS.same (v := .slice (some ⟨env.β j,hiN 0 l1*e0.n,some 0⟩) (kk.toNat - hiN 0 l1) (kk.toNat - hiN 0 l1)) h (fin (by rw [hwv];exact hi3)) ⟨hjl,⟨rfl,.inr (Je3 h.T.free h3)⟩,fun L hL' => ?_⟩
       have hL'':lenOf vs.bx j=some L:=hL'
       rw [hLn] at hL'';cases hL'';exact ⟨by omega,fun q=>absurd q (by omega),fun _=>⟨some 0,_,rfl,Je _,by omega,fun _=>⟨rfl,rfl⟩⟩⟩
     ·cases hv
    ·cases hv
   ·cases hv
  ·
   rename_i e0 j o0 n0 cp hxj;rw [hxj] at hx;split at hv
   ·rename_i he;subst he;split at hv
    ·rename_i xs l1 h1 hrun e1 e2 e3;simp only [Jg, Jm] at hv;obtain ⟨hv1, rfl, rfl⟩ := hv;have io1 := XA h e1;have io2 := XA h e2;have io3 := XA h e3;obtain ⟨own, hj⟩ := JaD hrun;obtain ⟨_, hrow⟩ := Je0 h.T hj;have hLn : lenOf vs.bx j = some xs.length := QN hj;have hjl : j < vs.bx.length := Jx hj;have hlen : (vs.cx S0 env m).len j = some xs.length := hLn
     obtain ⟨u1,u2,u3⟩:=hx;obtain ⟨w1,w2,w3⟩:=u3 _ hlen;have hgc:=hg _ hv1.symm;have hmx:=nomx io3;obtain ⟨g1,g2⟩:=JfE hgc;have hH:JqQ n0 h1=hiN n0 h1:=by cases h1 <;> rfl
     have hL:JqR l1=hiN 0 l1:=by cases l1 <;> rfl
     rw [hH,hL];have hll:hiN 0 l1≤hiN n0 h1:=by
      cases l1 with
      | none=>simp [hiN]
      | some k=>simp only [inB,hiN] at g2 ⊢;omega
     have hl2:hiN n0 h1≤n0:=by
      cases h1 with
      | none=>exact Je _
      | some k=>simp only [inB,hiN] at g1 ⊢;omega
     by_cases hne:xs.length=0
     ·have hcE:=w2 hne;have hn0:n0=0:=by omega
      subst hn0;have hsame:QD P t (a.eval x) (lo.map a.eval) (hi.map a.eval) (mx.map a.eval) m=some (a.eval x):=by
       rw [hmx];rcases hcE with q|⟨i,o',q⟩
       ·rw [q];exact JaF hu hti io1 io2 (mx:=none) (vm:=none) trivial hgc (fun k hk=>by cases hk)
       ·have b2:=Qt (d:=0) (y:=0) io2 g1;have b3:=Qt (d:=0) (y:=hiN 0 h1) io1 g2;rw [q];unfold QD;rw [hu];dsimp only;rw [hti,show Jar none 0 0=some 0 from rfl];dsimp only;rw [Jd (by simp),b2];dsimp only;rw [b3];dsimp only;rw [Jf ⟨hl2,hll⟩,Jf rfl];rfl
      refine OpS.same h (fin hsame) ⟨hjl,⟨Jdu hcE,JbH hcE _⟩,fun L hL' => ?_⟩;have hL'':lenOf vs.bx j=some L:=hL'
      rw [hLn] at hL'';cases hL'';exact ⟨by omega,fun _=>hcE,fun q=>absurd q (by omega)⟩
     ·obtain ⟨sp,cap,v1,v2,v3,_⟩:=w3 (by omega);obtain ⟨c,eo,h3,h4,h5⟩:=hrow (fun q=>hne (by rw [q];rfl))
      have b1:Jar none cap cap=some cap:=rfl;have b2:=Qt (d:=n0) (y:=cap) io2 (show inB cap h1 by
       cases h1 with
       | none=>trivial
       | some k=>simp only [inB] at g1 ⊢;omega)
      have b3:=Qt (d:=0) (y:=hiN n0 h1) io1 g2;have hi3 : ∃cap',QD P t (a.eval x) (lo.map a.eval) (hi.map a.eval) (mx.map a.eval) m=some (.slice (some ⟨env.β j,(o0+hiN 0 l1)*e0.n,sp⟩) (hiN n0 h1 - hiN 0 l1) cap')∧hiN n0 h1 - hiN 0 l1≤cap'∧o0+hiN 0 l1+cap'≤xs.length:=by
       rw [hmx,v1];unfold QD;rw [hu];dsimp only;rw [hti,b1];dsimp only;rw [Jd (by simp),b2];dsimp only;rw [b3];dsimp only;rw [Jf ⟨by omega,hll⟩];by_cases hc0:cap=0
       ·rw [Jf hc0];have z1:hiN 0 l1=0:=by omega
        have z2:hiN n0 h1=0:=by omega
        refine ⟨0, ?_,by omega,by omega⟩;rw [z1,z2];rfl
       ·rw [Jd hc0];have h3':m.row (env.β j)=some (c,eo):=h3
        refine ⟨cap - hiN 0 l1, ?_,by omega,by omega⟩;show (match m.row (env.β j) with | some (_,e')=>_ | none=>_)=_;rw [h3'];dsimp only;rw [Jf (by rw [hsz];exact h4),hsz,JQ]
        rfl
      obtain ⟨cap',hi3,k3,k4⟩:=hi3;refine OpS.same h (fin hi3) ⟨hjl,⟨rfl,.inr (Je3 h.T.free h3)⟩,fun L hL' => ?_⟩;have hL'':lenOf vs.bx j=some L:=hL'
      rw [hLn] at hL'';cases hL'';exact ⟨by omega,fun q=>absurd q hne,fun _=>⟨sp,cap',rfl,k3,k4,fun q=>by cases q⟩⟩
    ·cases hv
   ·cases hv
  ·split at hv
   ·rename_i e0 xs l1 h1 hl e1 e2 e3;split at hv
    ·rename_i he;subst he;have hr:=Jb8 h.T (e:=e0) hl hx;have io1:=XA h e1;have io2:=XA h e2;have io3:=XA h e3;have hmx:=nomx io3;simp only [Jg,Jm] at hv;obtain ⟨hv1,rfl,rfl⟩:=hv;have hgc:JhZ xs.length l1 h1=true:=by
      cases l1 with
      | none=>cases h1 with
       | none=>rfl
       | some k=>exact hg _ hv1.symm
      | some l=>cases h1 <;> exact hg _ hv1.symm
     obtain ⟨v',h4,h5⟩:=Jgp hu hti hsz hr io1 io2 hgc;exact OpS.same h (fin (by rw [hmx];exact h4)) h5
    ·cases hv
   ·rename_i e0 xs l1 hh kk hl e1 e2 e3;split at hv
    ·rename_i he;subst he;have hr := Jb8 h.T (e := e0) hl hx;have io1 := XA h e1;have io2 := XA h e2;have io3 := XA h e3;have hrow : ∀ {i o' sp cap}, a.eval x = .slice (some ⟨i, o', sp⟩) xs.length cap → cap ≠ 0 → ∃ c e', m.row i = some (c, e') ∧ P.cellsOf e' = ti.size := by
      intro i o' sp cap hvv hc;rcases hr with ⟨hnv,_⟩|⟨i',o2,sp',cap',hv2,hcap,hr⟩
      ·rw [hnv] at hvv;cases hvv
      ·rw [hv2] at hvv;cases hvv;rcases hr with hr|⟨c,e',h4,h5,h6,_⟩
       ·exact absurd hr hc
       ·exact ⟨c,e',h4,by rw [hsz];exact h6⟩
     cases hz:(l1.isNone && cz && (Jgq hh && Jgq kk)) with
     | true=>
      rw [hz] at hv;simp only [Jk,Jg,Jm] at hv;obtain ⟨rfl,rfl,rfl⟩:=hv;have hz' : ∀{q:Int},Jgq q=true→q=0:=by intro q hq;unfold Jgq at hq;split at hq;rfl;cases hq
      simp only [Jh] at hz;obtain rfl:=hz' hz.2.1
      obtain rfl:=hz' hz.2.2
      have hl1:l1=none:=by cases l1 with | none=>rfl | some _=>cases hz.1.1
      subst hl1;rcases hr with ⟨hnv,rfl⟩|⟨i,o',sp,cap,hvv,hcap,hr2⟩
      ·refine OpS.same h (fin ?_) ⟨.inl rfl,.inl rfl⟩;rw [hnv];exact JaF hu hti io1 io2 io3 rfl (fun k hk=>by cases hk;exact ⟨rfl,rfl⟩)
      ·have hg0:JhZ xs.length none (some 0)=true:=by simp [JhZ]
       have hi3:=Jcs (m:=m) (o:=o') (i:=i) (sp:=sp) (cap:=cap) hu hti io1 io2 io3 hcap hg0 (hrow hvv);have hi4:QD P t (.slice (some ⟨i,o',sp⟩) xs.length cap) (lo.map a.eval) (hi.map a.eval) (mx.map a.eval) m=some (.slice (some ⟨i,o',some 0⟩) 0 0):=by
        rw [hi3];simp [hiN]
       refine OpS.same (v := .slice (some ⟨i,o',some 0⟩) 0 0) h (fin (by rw [hvv];exact hi4)) ⟨.inr ⟨i,o',rfl⟩,.inr ⟨i,o',rfl⟩⟩
     | false =>
      rw [hz] at hv;simp only [Jl,Jg,Jm] at hv;obtain ⟨hv1,hv2⟩:=hv;have hgt:=hg _ hv1.symm;simp only [Jh,decide_eq_true_eq] at hgt;obtain ⟨hgc,rfl⟩:=hgt;have e4:y=(V.newBufC true vs e0 (cut xs l1 (some kk))).1:=by rw [hv2]
      have e5:vs1=(V.newBufC true vs e0 (cut xs l1 (some kk))).2:=by rw [hv2]
      subst e4;subst e5;have key : ∃ v', QD P t (a.eval x) (lo.map a.eval) (hi.map a.eval) (mx.map a.eval) m = some v' ∧ capV v' ∧ Jbu P (vs.S S0 env) m e0.n (QR P (vs.S S0 env) m e0) (cut xs l1 (some kk)) v' := by
       have hlen:=JpE xs hgc;obtain ⟨g1,g2⟩:=JfE hgc;have hh1:0≤kk∧kk≤(xs.length:Int):=g1;rcases hr with ⟨hnv,rfl⟩|⟨i,o',sp,cap,hvv,hcap,hr2⟩
       ·refine ⟨.slice none 0 0, ?_,.inl rfl,.inl ⟨rfl,JT ?_⟩⟩
        ·rw [hnv];exact JaF hu hti io1 io2 io3 hgc (fun k hk=>by cases hk;exact ⟨rfl,by simp only [JD] at hh1;omega⟩)
        ·rw [hlen];simp only [hiN,JD] at hh1 ⊢;omega
       ·have hi3 := Jcs (m := m) (o := o') (i := i) (sp := sp) (cap := cap) hu hti io1 io2 io3 hcap hgc (hrow hvv);rw [← hvv] at hi3;by_cases hc : cap = 0
        ·rw [Jf hc] at hi3;refine ⟨_,hi3,.inr ⟨i,o',0,rfl⟩,.inr ⟨i,o',some 0,0, ?_,by rw [hlen];simp only [hiN];omega,.inl rfl⟩⟩
         rw [show (cut xs l1 (some kk)).length=0 by rw [hlen];simp only [hiN];omega]
        ·rw [Jd hc] at hi3;refine ⟨_, hi3, .inr ⟨i, _, _, rfl⟩, .inr ⟨i, o' + hiN 0 l1 * ti.size, some 0, kk.toNat - hiN 0 l1, by rw [hlen];rfl, by rw [hlen];exact Je _, ?_⟩⟩
         rcases hr2 with hr2|⟨c,e',h4,h5,h6,h7,h8⟩
         ·exact absurd hr2 hc
         ·refine .inr ⟨c,e',h4,h5,h6, ?_,fun k z hk => ?_⟩
          ·rw [hlen,hsz];have hll:hiN 0 l1≤kk.toNat:=by
            cases l1 with
            | none=>exact Nat.zero_le _
            | some l=>have:0≤l∧l≤((kk.toNat:Nat):Int):=g2;simp only [hiN];omega
           have:hiN 0 l1*e0.n+(kk.toNat - hiN 0 l1)*e0.n=kk.toNat*e0.n:=by rw [←Nat.add_mul];congr 1;omega
           have h9:kk.toNat*e0.n≤xs.length*e0.n:=Jw _ (by omega);simp only [hiN] at this ⊢;omega
          ·have h9:=h8 (hiN 0 l1+k) z (JpF xs hgc hk);rw [JQ,←Nat.add_assoc] at h9;rw [hsz];exact h9
      obtain ⟨v',h4,h5,h6⟩:=key;obtain ⟨k1,k2,k3⟩:=h.newCap (cp:=true) hn (fun q=>by cases q) h5 h6;exact ⟨v',m,_,.inl (fin h4),k1,k2,k3⟩
    ·cases hv
   ·cases hv
end Go.IM.V
namespace Go.IM.V
open Go Go.IM
variable {P:Program} {m m1:M} {S0:Nat→Prop} {env:Env} {a:Act} {vs:VS} {X:Cx}
theorem Jcw (c:Array Value) (i j:Nat):(c.extract i j).toList=(c.toList.drop i).take (j - i):=by
 apply List.ext_getElem?
 intro k;rw [Jn,JA,List.getElem?_take,List.getElem?_drop,Jn];by_cases h:k<j - i
 ·rw [Jf h];by_cases h2:k<min j c.size - i
  ·rw [Jf h2]
  ·rw [Jd h2];have:c.size≤i+k:=by omega
   rw [Array.getElem?_eq_none this]
 ·rw [Jd (by omega),Jd h]
theorem Jaw {t:TypeId} {cs:List Cl} {off o i:Nat} {c:Array Value} {e:TypeId} {y:Sl} (hy:Jae P t cs off=some y) (hrow:X.m.row i=some (c,e)) (hfit:o+cs.length≤c.size) (hr:Qa P X cs (c.extract o (o+cs.length)).toList) :
  ∃v,Ja5 P t (.pointer (some ⟨i,o+off,none⟩)) X.m=some v∧J8 P X y v:=by
 unfold Jae at hy;unfold Ja5;dsimp only;split at hy
 ·rename_i ti h1 h2;rw [h1,h2];dsimp only;split at hy
  ·rename_i hle;cases hy;unfold M.cells;rw [hrow];dsimp only;rw [Jf (by omega)];refine ⟨_,rfl,_,rfl, ?_⟩;have:=Jbh (JaE hr off) ti.size
   rw [Jcw] at this ⊢;rw [show o+off+ti.size - (o+off)=ti.size by omega];rw [show o+cs.length - o=cs.length by omega] at this;rw [List.drop_take,List.drop_drop,List.take_take,Nat.min_eq_left (by omega)] at this;exact this
  ·cases hy
 ·rename_i ti h1 h2;rw [h1,h2];dsimp only;split at hy
  ·rename_i cl hcl;cases hy;obtain ⟨u,h3,h4⟩:=Xr hr hcl;have hlt:=Jx hcl;unfold M.cell;rw [hrow];dsimp only;refine ⟨u, ?_,h4⟩;rw [Jn,JA,Jf (by omega)] at h3;exact h3
  ·cases hy
 ·cases hy
theorem Jdp {t:TypeId} {cs:List Cl} {off:Nat} {c:Array Value} {y:Sl} (hy:Jae P t cs off=some y) (hr:Qa P X cs c.toList) : ∃v,Jgj P t c off=some v∧J8 P X y v:=by
 unfold Jae at hy;unfold Jgj;split at hy
 ·rename_i ti h1 h2;rw [h1,h2];dsimp only;split at hy
  ·rename_i hle;cases hy;refine ⟨_,rfl,_,rfl, ?_⟩;have:=Jbh (JaE hr off) ti.size
   rw [Jcw,show off+ti.size - off=ti.size by omega];exact this
  ·cases hy
 ·rename_i ti h1 h2;rw [h1,h2];dsimp only;split at hy
  ·rename_i cl hcl;cases hy;obtain ⟨u,h3,h4⟩:=Xr hr hcl;exact ⟨u,by rw [←Array.getElem?_toList];exact h3,h4⟩
  ·cases hy
 ·cases hy
theorem Ju1 {bx:List (List Cl)} (hT:Jao P X bx) {j:Nat} {cs:List Cl} (hj:bx[j]? = some cs) (hnr:J9 cs=false) : ∃c e,X.m.row (X.env.β j)=some (c,e)∧Qa P X cs c.toList:=by
 obtain ⟨k,c,e,fr,h1,h2,_,_,_,h3⟩:=(hT.bx j cs hj).cel hnr;exact ⟨c,e,JcE h1 h2,h3⟩
theorem Ja9 (h:Rel P S0 env m a vs) {j:Nat} {cs:List Cl} (hj:vs.bx[j]? = some cs) (hh:Xo cs=true):(vs.cx S0 env m).has j=true:=(JK hj).trans hh
theorem JcM (h:Rel P S0 env m a vs) {t:TypeId} {x:Sl} {w:Value} (hx:J8 P (vs.cx S0 env m) x w) {g:Option Bool} {y:Sl} {vs1:VS} (hv:JmE P t x vs=some (g,y,vs1)) :
  g=none∧vs1=vs ∧ ∃v,Ja5 P t w m=some v∧J8 P (vs.cx S0 env m) y v:=by
 unfold JmE at hv;split at hv
 ·rename_i j off;split at hv
  ·rename_i cs hj;cases hnr:J9 cs with
   | true=>rw [hnr] at hv;cases hv
   | false=>
   rw [hnr] at hv;simp only [Jl,Ja] at hv;obtain ⟨y',h1,h2⟩:=hv;cases h2;obtain ⟨c,e,hrow,hr⟩:=Ju1 h.T hj hnr;obtain ⟨_,i,rfl,_,hib⟩:=hx;obtain rfl:=hib (Ja9 h hj (Qs hnr))
   have hl:cs.length=c.size:=(Qe hr).trans Jq;obtain ⟨v,h3,h4⟩:=Jaw (X:=vs.cx S0 env m) (o:=0) (c:=c) h1 hrow (by omega) (by rw [hl,JG];simpa using hr)
   rw [JG] at h3;exact ⟨rfl,rfl,v,h3,h4⟩
  ·cases hv
 ·rename_i ty d off;simp only [Ja] at hv;obtain ⟨y',h1,h2⟩:=hv;cases h2;obtain ⟨i,o,c,e',rfl,hrow,hS,hfit,hr⟩:=hx;have hexp:=Ja7 hr;have hl:=Qe hexp;have hl2:=JaW hr;obtain ⟨v,h3,h4⟩:=Jaw (X:=vs.cx S0 env m) (o:=o) (c:=c) h1 hrow (by omega) (by rw [hl,hl2];exact hexp)
  exact ⟨rfl,rfl,v,h3,h4⟩
 ·cases hv
theorem Jsh {a b:Ty} {xs:List (ByteArray × a.El)} {ys:List (ByteArray × b.El)} (h:JpO a b xs=some ys) : ∃e:a=b,e▸xs=ys:=by
 unfold JpO at h;split at h
 ·rename_i e;cases h;exact ⟨e,rfl⟩
 ·cases h
theorem Ja0 {a b:Ty} {xs:List a.El} {ys:List b.El} (h:Jbr a b xs=some ys) : ∃e:a=b,e▸xs=ys:=by
 unfold Jbr at h;split at h
 ·rename_i e;cases h;exact ⟨e,rfl⟩
 ·cases h
theorem Jiq (h : Rel P S0 env m a vs) {t : TypeId} {x : Sl} {w : Value} (hx : J8 P (vs.cx S0 env m) x w) {g : Option Bool} {y : Sl} {vs1 : VS} (hv : Jlm P t x vs = some (g, y, vs1)) (hg : Jbt g) :
  vs1=vs ∧ ∃v,Ja5 P t w m=some v∧J8 P (vs.cx S0 env m) y v:=by
 unfold Jlm at hv;split at hv
 ·rename_i e j i off;unfold JsJ at hv;split at hv
  ·rename_i xs mk hrun;obtain ⟨own,hj,_⟩:=Je2 hrun;simp only [Ja] at hv;obtain ⟨y',h1,h2⟩:=hv;cases h2;have hlt:i.toNat<xs.length:=Qf (hg _ rfl);have hne:xs ≠ []:=fun q=>by rw [q] at hlt;simp at hlt
   obtain ⟨_,kb,rfl,_,hib⟩:=hx;obtain rfl:=hib (Ja9 h hj (Jdn hne))
   obtain ⟨n0,hrr⟩:=JmY h.T hj;obtain ⟨c,eo,hrow,hels⟩:=hrr hne;have hget:xs[i.toNat]? = some (xs.getD i.toNat e.dflt):=by
    rw [Jo,Jj hlt];rfl
   have hr:=hels.2 _ _ hget;have hexp:=Ja7 hr;have hl:=Qe hexp;have hl2:=JaW hr;have hfit:i.toNat*e.n+e.n≤c.size:=by
    rw [hels.1,←Nat.succ_mul];exact Jw _ hlt
   obtain ⟨v,h3,h4⟩:=Jaw (X:=vs.cx S0 env m) (o:=i.toNat*e.n) (c:=c) h1 hrow (by omega) (by rw [hl,hl2];exact hexp)
   exact ⟨rfl,v,h3,h4⟩
  ·cases hv
 ·obtain ⟨_,h1,h2⟩:=JcM h hx hv;exact ⟨h1,h2⟩
theorem JgC {t:TypeId} {len:Nat} {e:TypeId} {ty:Ty} (h:Jlg P t=some (len,e,ty)):P.underlying t=some (.array len e)∧0<ty.n ∧ ∃ti,P.info? e=some ti∧ti.size=ty.n:=by
 unfold Jlg at h;split at h
 ·rename_i n e' hu;split at h
  ·rename_i ty' ti h1 h2;split at h
   ·rename_i hc;cases h;exact ⟨hu,hc.2,ti,h2,hc.1⟩
   ·cases h
  ·cases h
 ·cases h
theorem Jeo (h : Rel P S0 env m a vs) {t : TypeId} {x ix : Sl} {w wi : Value} (hx : J8 P (vs.cx S0 env m) x w) (hix : J8 P (vs.cx S0 env m) ix wi) {g : Option Bool} {y : Sl} {vs1 : VS} (hv : Jck P t x ix vs = some (g, y, vs1)) (hg : Jbt g) :
  vs1=vs ∧ ∃v,Ql P t w wi=some v∧J8 P (vs.cx S0 env m) y v:=by
 unfold Jck at hv;split at hv
 ·rename_i e0 j;split at hv
  ·rename_i e ty xs k h1 hrun h3;obtain ⟨hu,hn,hce,ti,hti,hsz,hby⟩:=Xk h1;split at hv
   ·rename_i he;subst he;cases hv;have hgt:=Qf (hg _ rfl);obtain ⟨kd,rfl⟩:=X7 h3 hix;obtain ⟨own,hj⟩:=JaD hrun;obtain ⟨k1,k2⟩:=JcR (e':=e0) h.T hj hx;have hne:xs ≠ []:=fun q=>by rw [q] at hgt;simp at hgt;omega
    have hwv:=k2 hne;refine ⟨rfl,.pointer (some ⟨env.β j,0+k.toNat*ti.size,none⟩), ?_,Jx hj,env.β j,by rw [hsz,JG];rfl,h.T.slt _ (h.T.inS j (Jx hj) ((JK hj).trans (QG hne))),fun _=>rfl⟩
    rw [hwv];unfold Ql;rw [hu];dsimp only;rw [hti];dsimp only;rw [Jf (by omega)];rfl
   ·cases hv
  ·cases hv
 ·rename_i e0 j o n cp;split at hv
  ·rename_i e ty k h1 h3;obtain ⟨hu, hn, hce, ti, hti, hsz, hby⟩ := Xk h1;split at hv
   ·rename_i he;subst he;split at hv
    ·rename_i n0 hn0;cases hv;have hgt:=Qf (hg _ rfl);obtain ⟨kd,rfl⟩:=X7 h3 hix;obtain ⟨hjl,_,hw⟩:=hx;obtain ⟨g1,_,g3⟩:=hw n0 hn0;obtain ⟨sp,cap,rfl,k1,k2,_⟩:=g3 (by omega);obtain ⟨cs,hcs⟩ : ∃cs,vs.bx[j]? = some cs:=⟨vs.bx[j]'hjl,Jj hjl⟩;have hcl:JaQ cs=some n0:=by rw [←QN hcs];exact hn0
     have hhas:Xo cs=true:=by
      unfold JaQ at hcl;split at hcl
      ·rename_i q1 q2 xs q3;cases hcl;exact QG (fun q=>by rw [q] at g1;simp at g1;omega)
      ·cases hcl
     refine ⟨rfl,.pointer (some ⟨env.β j,o*e0.n+k.toNat*ti.size,none⟩), ?_,hjl,env.β j, ?_,h.T.slt _ (h.T.inS j hjl ((JK hcs).trans hhas)),fun _=>rfl⟩
     ·unfold Ql;rw [hu];dsimp only;rw [hti];dsimp only;rw [Jf (by omega)];rfl
     ·rw [hsz,←Nat.add_mul,show ((o:Int)+k).toNat=o+k.toNat by omega];rfl
    ·cases hv
   ·cases hv
  ·cases hv
 ·rename_i j;split at hv
  ·rename_i len e ty k e0 xs h1 h3 hj;obtain ⟨hu,hn,ti,hti,hsz⟩:=JgC h1;split at hv
   ·rename_i he;subst he;cases hv;have hgt:=Qf (hg _ rfl);obtain ⟨kd,rfl⟩:=X7 h3 hix;obtain ⟨hjl,kb,rfl,hkl,hib⟩:=hx;refine ⟨rfl,.pointer (some ⟨kb,0+k.toNat*ti.size,none⟩), ?_,hjl,kb,by rw [hsz,JG];rfl,hkl,hib⟩
    unfold Ql;rw [hu];dsimp only;rw [hti];dsimp only;rw [Jf hgt]
   ·cases hv
  ·cases hv
 ·rename_i e0 j n;split at hv
  ·rename_i e ty k h1 h3;obtain ⟨hu,hn,hce,ti,hti,hsz,hby⟩:=Xk h1;split at hv
   ·rename_i he;obtain ⟨rfl,hn1,hhas⟩:=he;cases hv;have hgt:=Qf (hg _ rfl);obtain ⟨kd,rfl⟩:=X7 h3 hix;obtain ⟨hjl,_,hw⟩:=hx;have hwv:=(hw hhas).1;refine ⟨rfl,.pointer (some ⟨env.β j,0+(Int.ofNat k).toNat*ti.size,none⟩), ?_,hjl,env.β j,by rw [hsz,hn1];simp,h.T.slt _ (h.T.inS j hjl hhas),fun _=>rfl⟩
    rw [hwv];unfold Ql;rw [hu];dsimp only;rw [hti];dsimp only;rw [Jf (show (0:Int)≤Int.ofNat k∧Int.ofNat k<((n:Nat):Int) from ⟨Int.natCast_nonneg k,Int.ofNat_lt.2 hgt⟩)];rfl
   ·cases hv
  ·cases hv
 split at hv
 ·rename_i e ty e0 xs k h1 h2 h3;obtain ⟨hu, hn, hce, ti, hti, hsz, hby⟩ := Xk h1;split at hv
  ·rename_i he;subst he;cases hv;have hgt := Qf (hg _ rfl);have hr := Jb8 h.T (e := e0) h2 hx;obtain ⟨kd, rfl⟩ := X7 h3 hix;refine ⟨rfl, ?_⟩;obtain ⟨q, rfl⟩ : ∃ q : Nat, k = (q : Int) := ⟨k.toNat, by omega⟩;have hq : q < xs.length := by omega
   have hget:xs[q]? = some (xs.getD q e0.dflt):=by
    rw [Jo,Jj hq];rfl
   rcases hr with ⟨rfl,rfl⟩|⟨i,o,sp,cap,rfl,hcap,hr⟩
   ·simp at hq
   ·rcases hr with hr|⟨c,e',h4,h5,h6,h7,h8⟩
    ·omega
    ·refine ⟨.pointer (some ⟨i,o+q*ti.size,none⟩), ?_,i,o+q*e0.n,c,e', ?_,h4,h5, ?_, ?_⟩
     ·unfold Ql;rw [hu];dsimp only;rw [hti];dsimp only;rw [Jf (by omega)];simp
     ·rw [hsz];rfl
     ·have:(q+1)*e0.n≤xs.length*e0.n:=Jw _ hq
      rw [JQ,Nat.one_mul] at this;omega
     ·rw [Ji];exact h8 q _ hget
  ·cases hv
 ·cases hv
theorem Jit {s:TypeId} {x:Sl} {w:Value} (hx:J8 P (vs.cx S0 env m) x w) {f:Nat} {g:Option Bool} {y:Sl} {vs1:VS} (hv:Joj P s x f vs=some (g,y,vs1)) :
  vs1=vs ∧ ∃v,Jfv P s w f=some v∧J8 P (vs.cx S0 env m) y v:=by
 unfold Joj at hv;split at hv
 ·rename_i fields cs hu;split at hv
  ·rename_i fd hfd;simp only [Ja] at hv;obtain ⟨y',h1,h2⟩:=hv;cases h2;obtain ⟨b,rfl,hr⟩:=hx;obtain ⟨v,h3,h4⟩:=Jdp h1 hr;refine ⟨rfl,v, ?_,h4⟩;unfold Jfv;rw [hu];dsimp only;rw [hfd];exact h3
  ·cases hv
 ·cases hv
theorem Jep {s : TypeId} {x : Sl} {w : Value} (hx : J8 P (vs.cx S0 env m) x w) {f : Nat} {g : Option Bool} {y : Sl} {vs1 : VS} (hv : Jcl P s x f vs = some (g, y, vs1)) :
  vs1=vs ∧ ∃v,Q1 P s w f=some v∧J8 P (vs.cx S0 env m) y v:=by
 unfold Jcl at hv;split at hv
 ·rename_i fields hu;split at hv
  ·rename_i fd hfd;split at hv
   ·rename_i ti hti;split at hv
    ·cases hv
    ·rename_i hz;split at hv
     ·cases hv;obtain ⟨hj,kb,rfl,hkl,hib⟩:=hx;refine ⟨rfl,_, ?_,hj,kb,rfl,hkl,hib⟩;unfold Q1;rw [hu];dsimp only;rw [hfd];dsimp only;rw [hti];dsimp only;rw [Jd hz]
     ·cases hv;obtain ⟨i,o,c,e',rfl,h1,h2,h3,h4⟩:=hx;refine ⟨rfl,_, ?_,i,o,c,e',rfl,h1,h2,h3,h4⟩;unfold Q1;rw [hu];dsimp only;rw [hfd];dsimp only;rw [hti];dsimp only;rw [Jd hz,Nat.add_assoc]
     ·cases hv;obtain ⟨hj,kb,rfl,hkl,hib⟩:=hx;refine ⟨rfl,_, ?_,hj,kb,rfl,hkl,hib⟩;unfold Q1;rw [hu];dsimp only;rw [hfd];dsimp only;rw [hti];dsimp only;rw [Jd hz,Nat.add_assoc]
     ·cases hv
   ·cases hv
  ·cases hv
 ·cases hv
theorem Qz : ∀(vs:List Value) (c:Array Value) (o:Nat),(wr c o vs).size=c.size:=by
 intro vs;induction vs with
 | nil=>intro c o;rfl
 | cons v r ih=>intro c o;simp only [wr];rw [ih];simp
theorem Jc3 : ∀ (vs : List Value) (c : Array Value) (o k : Nat), o + vs.length ≤ c.size → (wr c o vs)[k]? = if k < o then c[k]? else if k < o + vs.length then vs[k - o]? else c[k]? := by
 intro vs;induction vs with
 | nil=>intro c o k _;simp only [wr];split <;> first | rfl | (rw [Jd (by simp;omega)])
 | cons v r ih=>
  intro c o k h;simp only [wr,Ju] at h ⊢;rw [ih _ _ _ (by simp;omega),JL]
  by_cases h1:k<o
  ·rw [Jf (by omega),Jf h1,Jd (by omega)]
  ·rw [Jd h1];by_cases h2:k=o
   ·subst h2;rw [Jf (by omega),Jf rfl,Jf (by omega),Jf (by omega)];simp
   ·rw [Jd (by omega)];by_cases h3:k<o+(r.length+1)
    ·rw [Jf (by omega),Jf (by omega)];rw [show k - o=(k - (o+1))+1 by omega,List.getElem?_cons_succ]
    ·rw [Jd (by omega),Jd (by omega),Jd (by omega)]
theorem JhC {cs ns : List Cl} {c : Array Value} {ws : List Value} {off : Nat} (hr : Qa P X cs c.toList) (hn : Qa P X ns ws) (hfit : off + ns.length ≤ cs.length) : Qa P X (lay cs off ns) (wr c off ws).toList := by
 have hl:cs.length=c.size:=(Qe hr).trans Jq;have hnl:=Qe hn;have:(wr c off ws).toList=c.toList.take off++ws++c.toList.drop (off+ns.length):=by
  apply List.ext_getElem?
  intro k;rw [Jn,Jc3 _ _ _ _ (by omega)];have htl:(c.toList.take off).length=off:=by rw [JE,Jq];omega
  by_cases h1:k<off
  ·rw [Jf h1,JF (by rw [Jz,htl];omega),JF (by omega),List.getElem?_take,Jf h1,Jn]
  ·rw [Jd h1];by_cases h2:k<off+ws.length
   ·rw [Jf h2,JF (by rw [Jz,htl];omega),JN (by omega),htl]
   ·rw [Jd h2,JN (by rw [Jz,htl];omega),List.getElem?_drop,Jn,Jz,htl]
    congr 1;omega
 rw [this];exact XF (XF (Jbh hr off) hn) (JaE hr _)
theorem XD {s : S1} {ns : List Cl} {w : Value} (h : V.cellsOf s = some ns) (hr : Ja3 P X s w) (hk : ns.all JcW = true) : Qa P X ns w.cells.toList ∧ w.cells.all one = true := by
 cases s with
 | x=>cases h
 | s c=>
  cases h;simp only [List.all_cons,List.all_nil,Bool.and_true] at hk;have hone:=Jfj hk hr;have:w.cells = #[w]:=by cases w <;> first | rfl | cases hone
  rw [this];exact ⟨⟨hr,trivial⟩,by simp [hone]⟩
 | a cs =>
  cases h;obtain ⟨b,rfl,h2⟩:=hr;refine ⟨h2, ?_⟩;have : ∀{cs:List Cl} {l:List Value},Qa P X cs l→cs.all JcW=true → ∀v∈l,one v=true:=by
   intro cs;induction cs with
   | nil=>intro l h _ v hv;cases l with
    | nil=>cases hv
    | cons=>exact h.elim
   | cons c cs ih=>
    intro l h hk v hv;simp only [List.all_cons,Jh] at hk;cases l with
    | nil=>exact h.elim
    | cons w l=>
     rcases JJ.1 hv with rfl | hv
     ·exact Jfj hk.1 h.1
     ·exact ih h.2 hk.2 v hv
  rw [Array.all_eq_true'];intro v hv;have hv':v∈b:=hv
  exact this h2 hk v (by simpa using hv')
theorem Jc5 (h : Rel P S0 env m a vs) {t : TypeId} {x y : Sl} (hbar : ∀ j off, x = .v (.s (.p j off)) → j < vs.bx.length → JM vs.bx j = true → m.bar ≤ env.β j) {w wy : Value} (hx : J8 P (vs.cx S0 env m) x w) (hy : J8 P (vs.cx S0 env m) y wy) {g : Option Bool} {z : Sl} {vs1 : VS} (hv : Jil P t x y vs = some (g, z, vs1)) :
  g=none∧z=Qn ∧ ∃m1,XO P t w wy m=some m1∧Rel P S0 env m1 a vs1∧Stp (vs.cx S0 env m) (vs1.cx S0 env m1):=by
 unfold Jil at hv;split at hv
 ·rename_i j off ti s hti;split at hv
  ·rename_i cs ns hj hns;split at hv
   ·rename_i hc;cases hv;obtain ⟨hnr,hc⟩:=hc;obtain ⟨_,kb,rfl,_,hib⟩:=hx;have hhas:=Ja9 h hj (Qs hnr);obtain rfl:=hib hhas
    obtain ⟨hrep,hone⟩:=XD hns hy hc.2.2;obtain ⟨k,c,e,fr,h1,h2,h3,h4,h5,h7⟩:=(h.T.bx j cs hj).cel hnr;have hl:cs.length=c.size:=(Qe h7).trans Jq;have hnl:ns.length=wy.cells.size:=(Qe hrep).trans Jq;have hal:m.alive (env.β j)=some k:=h1;obtain ⟨hR,hS⟩:=h.store (c2:=wr c off wy.cells.toList) hj hnr hal h2 (JhC h7 hrep hc.2.1)
    refine ⟨rfl,rfl,_, ?_,hR,hS⟩;unfold XO;rw [hti];dsimp only;rw [Jf (by rw [←hnl];exact hc.1)]
    unfold M.store;rw [show (vs.cx S0 env m).env.β j=env.β j from rfl,hal];dsimp only;rw [h2];dsimp only;have h5':k.root=env.β j:=h5
    rw [Jf ⟨h3,h4,by rw [Jq];omega,by rw [←Array.all_toList] at hone;exact hone,hbar j off rfl (Jx hj) hhas,by rw [h5'];exact hbar j off rfl (Jx hj) hhas⟩]
    unfold M.put;rw [Jf h5']
   ·cases hv
  ·cases hv
 ·cases hv
theorem Jik (h:Rel P S0 env m a vs) (hbar : ∀i,Wb (vs.cx S0 env m) i→m.bar≤i) {t:TypeId} {x y:Sl} {w wy:Value} (hx:J8 P (vs.cx S0 env m) x w) (hy:J8 P (vs.cx S0 env m) y wy) {g:Option Bool} {z:Sl} {vs1:VS} (hv:Jil P t x y vs=some (g,z,vs1)) :
  g=none∧z=Qn ∧ ∃m1,XO P t w wy m=some m1∧Rel P S0 env m1 a vs1∧Stp (vs.cx S0 env m) (vs1.cx S0 env m1):=
 Jc5 h (fun j off _ hj hh=>hbar _ (.inl ⟨j,hj,hh,rfl⟩)) hx hy hv
theorem JeN {c:Array Value} {b off n:Nat} {ws:List Value} (h1:off+ws.length≤n) (h2:b+n≤c.size):(wr c (b+off) ws).extract b (b+n)=wr (c.extract b (b+n)) off ws:=by
 apply Array.ext'
 apply List.ext_getElem?
 intro k;have hs:(c.extract b (b+n)).size=n:=by rw [Array.size_extract];omega
 rw [Jn,Jn,JA,Jc3 _ c _ _ (by omega),Qz];by_cases hk:k<n
 ·rw [Jf (by omega),Jc3 _ _ _ _ (by omega)];by_cases q1:k<off
  ·rw [Jf (by omega),Jf q1,JA,Jf (by omega)]
  ·rw [Jd (by omega),Jd q1];by_cases q2:k<off+ws.length
   ·rw [Jf (by omega),Jf q2];congr 1;omega
   ·rw [Jd (by omega),Jd q2,JA,Jf (by omega)]
 ·rw [Jd (by omega)];exact (Array.getElem?_eq_none (by rw [Qz];omega)).symm
theorem JaV {c:Array Value} {o b n:Nat} {ws:List Value} (h1:o+ws.length≤c.size) (h2:b+n≤o∨o+ws.length≤b):(wr c o ws).extract b (b+n)=c.extract b (b+n):=by
 apply Array.ext'
 apply List.ext_getElem?
 intro k;rw [Jn,Jn,JA,JA,Qz,Jc3 _ _ _ _ h1];split
 ·rename_i q;rcases h2 with h2 | h2
  ·rw [Jf (by omega)]
  ·by_cases q1:b+k<o
   ·rw [Jf q1]
   ·rw [Jd q1,Jd (by omega)]
 ·rfl
theorem JgY (h : Rel P S0 env m a vs) (hbar : ∀ i, Wb (vs.cx S0 env m) i → m.bar ≤ i) {t : TypeId} {x y : Sl} {w wy : Value} (hx : J8 P (vs.cx S0 env m) x w) (hy : J8 P (vs.cx S0 env m) y wy) {g : Option Bool} {z : Sl} {vs1 : VS} (hv : JjR P t x y vs = some (g, z, vs1)) (hg : Jbt g) :
  z=Qn ∧ ∃m1,XO P t w wy m=some m1∧Rel P S0 env m1 a vs1∧Stp (vs.cx S0 env m) (vs1.cx S0 env m1):=by
 unfold JjR at hv;split at hv
 ·rename_i e j i off;unfold Jn8 at hv;split at hv
  ·rename_i xs mk ti s hrun hti;split at hv
   ·rename_i ns hns;obtain ⟨o, hj, rfl⟩ := Je2 hrun;split at hv
    ·rename_i hcond;obtain ⟨hc1, hc2, hc3⟩ := hcond;simp only [Ja] at hv;obtain ⟨y', hrd, h2⟩ := hv;cases h2;have hlt : i.toNat < xs.length := Qf (hg _ rfl);have hne : xs ≠ [] := fun q => by rw [q] at hlt;simp at hlt
     obtain ⟨_,kb,rfl,_,hib⟩:=hx;have hhas:=Ja9 h hj (Jdn hne);obtain rfl:=hib hhas
     obtain ⟨hrep,hone⟩:=XD hns hy hc3;have hnl:ns.length=wy.cells.size:=(Qe hrep).trans Jq;obtain ⟨hpos,hR⟩:=(h.T.bx j _ hj).run;obtain ⟨k,c,eo,fr,g1,g2,g3,g4,g5,g6,g7,g8,⟨rb,g9,g10⟩,g11⟩:=hR hne;have hal:m.alive (env.β j)=some k:=g1;have hget:xs[i.toNat]? = some (xs.getD i.toNat e.dflt):=by
      rw [Jo,Jj hlt];rfl
     have hr:=g8 _ _ hget;have hfit:i.toNat*e.n+e.n≤c.size:=by
      rw [g7,←Nat.succ_mul];exact Jw _ hlt
     have hwl:wy.cells.toList.length=ns.length:=by rw [Jq,hnl]
     have hexp:Qa P (vs.cx S0 env m) (exp e (xs.getD i.toNat e.dflt)) (c.extract (i.toNat*e.n) (i.toNat*e.n+e.n)).toList:=Ja7 hr;have hel:(exp e (xs.getD i.toNat e.dflt)).length=e.n:=(Qe hexp).trans (JaW hr);have hlay:=JhC (off:=off) hexp hrep (by rw [hel];exact hc2)
     have hnewE : QR P (vs.S S0 env) m e y' (wr (c.extract (i.toNat * e.n) (i.toNat * e.n + e.n)) off wy.cells.toList).toList := JaM h.T hrd hlay;have hels2 : Els P (vs.S S0 env) m e (xs.set i.toNat y') (wr c (i.toNat * e.n + off) wy.cells.toList) := by
      refine ⟨by rw [Qz,JZ];exact g7,fun q x hq => ?_⟩
      rw [List.getElem?_set] at hq;by_cases e1:i.toNat=q
      ·rw [Jf e1,Jf hlt] at hq;cases hq;subst e1;rw [JeN (by rw [hwl];exact hc2) hfit]
       exact hnewE
      ·rw [Jd e1] at hq;have hql:q<xs.length:=Jx hq;rw [JaV (by rw [hwl];omega) (by
        rw [hwl];rcases JB q i.toNat with q1 | q1
        ·left;have:(q+1)*e.n≤i.toNat*e.n:=Jw _ q1
         rw [JQ,Nat.one_mul] at this;omega
        ·right;have:(i.toNat+1)*e.n≤q*e.n:=Jw _ (by omega)
         rw [JQ,Nat.one_mul] at this
         omega)]
       exact g8 q x hq
     obtain ⟨hR2,hS2⟩:=h.storeRun hj hne (ys:=xs.set i.toNat y') (by rw [JZ]) hal g2 hels2;refine ⟨rfl,_, ?_,hR2,hS2⟩;have hbr:m.bar≤k.root:=by
      rcases g11 _ rb g9 g10 with q|⟨q,_⟩
      ·rw [q];exact hbar _ (.inl ⟨j,Jx hj,hhas,rfl⟩)
      ·exact hbar _ (.inr q)
     unfold XO;rw [hti];dsimp only;rw [Jf (by rw [←hnl];exact hc1)]
     unfold M.store;rw [show (vs.cx S0 env m).env.β j=env.β j from rfl,hal];dsimp only;rw [g2];dsimp only;rw [Jf ⟨g3,g4,by rw [hwl];omega,by rw [←Array.all_toList] at hone;exact hone,hbar _ (.inl ⟨j,Jx hj,hhas,rfl⟩),hbr⟩]
    ·cases hv
   ·cases hv
  ·cases hv
 ·obtain ⟨_,h1,h2⟩:=Jik h hbar hx hy hv;exact ⟨h1,h2⟩
theorem Jhv {l:List Value} (h : ∀v∈l,okc v=true):Qa P X (l.map .c) l:=by
 induction l with
 | nil=>trivial
 | cons v l ih=>exact ⟨⟨rfl,h v (by simp)⟩,ih fun w hw=>h w (by simp [hw])⟩
theorem JbF {bx:List (List Cl)} (hT:Jao P X bx) {ty:Ty} : ∀{n:Nat} {cs:List Cl} {ws:List Value} {xs:List ty.El},Jk2 X.bf ty cs n=some xs→Qa P X cs ws→ws.length=n*ty.n →
  xs.length=n ∧ ∀(q:Nat) (x:ty.El),xs[q]? = some x→QR P X.S X.m ty x ((ws.drop (q*ty.n)).take ty.n):=by
 intro n;induction n with
 | zero=>intro cs ws xs h hr hl;cases h;exact ⟨rfl,fun q x hq=>by simp at hq⟩
 | succ n ih=>
  intro cs ws xs h hr hl;simp only [Jk2,Jp,Ja] at h;obtain ⟨y,h1,zs,h2,rfl⟩:=h;obtain ⟨k1,k2⟩:=ih h2 (JaE hr ty.n) (by rw [JI,hl,Nat.succ_mul];omega)
  refine ⟨by simp [k1],fun q x hq => ?_⟩;cases q with
  | zero=>
   cases hq;rw [Nat.zero_mul,List.drop_zero];exact JaM hT h1 (Jbh hr ty.n)
  | succ q=>
   have:=k2 q x (by simpa using hq)
   rw [List.drop_drop] at this;rw [show (q+1)*ty.n=ty.n+q*ty.n by rw [Nat.succ_mul];omega]
   exact this
theorem Jiz (h : Rel P S0 env m a vs) {t : TypeId} {hot : Bool} {g : Option Bool} {x : Sl} {vs1 : VS} (hv : Jop P t hot vs = some (g, x, vs1)) :
  ∃z v m1 env1,QI P t=some z∧(m.new z.cells t).map (fun (p:Addr × M)=>Res.val (.pointer (some p.1)) p.2)=some (.val v m1)∧Rel P S0 env1 m1 a vs1∧Stp (vs.cx S0 env m) (vs1.cx S0 env1 m1)∧J8 P (vs1.cx S0 env1 m1) x v:=by
 unfold Jop at hv;split at hv
 ·rename_i z hz;split at hv
  ·rename_i hone;have hf := h.T.free m.nxt (Je _);have hf' : m.get m.nxt = none := hf
   have hnew:m.new z.cells t=some (⟨m.nxt,0,none⟩,m.mk1 (.cells z.cells t)):=by unfold M.new;rw [hf']
   have hall : ∀v∈z.cells.toList,okc v=true:=by
    rw [Array.all_eq_true'] at hone;exact fun v hv=>hone v (by simpa using hv)
   cases hot with
   | false=>
    simp only [Jl,Jg,Jm] at hv;obtain ⟨rfl,hv⟩:=hv;obtain ⟨h1,h2,h3⟩:=h.newBox hnew (Jhv hall);have e1:x=(newBox vs (z.cells.toList.map .c)).1:=by rw [hv]
    have e2:vs1=(newBox vs (z.cells.toList.map .c)).2:=by rw [hv]
    subst e1;subst e2;exact ⟨z,_,_,_,hz,by rw [hnew];rfl,h1,h2,h3⟩
   | true =>
    simp only [Jk] at hv;split at hv
    ·rename_i n e ty ha;split at hv
     ·rename_i hc;obtain ⟨hc1,hc2,hc3⟩:=hc;simp only [Ja,Jm] at hv;obtain ⟨xs,hxs,rfl,hv⟩:=hv;obtain ⟨k1,k2⟩:=JbF h.T (ty:=ty) hxs (Jhv hall) (by rw [Jq];exact hc1)
      have hels:Els P (vs.S S0 env) m ty xs z.cells:=by
       refine ⟨by rw [k1];exact hc1,fun q x hq => ?_⟩
       have:=k2 q x hq
       rw [Jcw,show q*ty.n+ty.n - q*ty.n=ty.n by omega];exact this
      have hne:xs ≠ []:=fun q=>by rw [q] at k1;simp at k1;omega
      obtain ⟨h1,h2⟩:=h.newRunG (arr:=true) hc2 (fun q=>by cases q) hnew hels hne;have e1:x=(newBox vs [.ra ty xs]).1:=by rw [hv]
      have e2:vs1=(newBox vs [.ra ty xs]).2:=by rw [hv]
      subst e1;subst e2;refine ⟨z,_,_,_,hz,by rw [hnew];rfl,h1,h2, ?_,m.nxt,rfl,Nat.lt_succ_self _,fun _ => ?_⟩
      ·show vs.bx.length<(vs.bx ++ [_]).length;simp
      ·exact (J6 env _ _).symm
     ·cases hv
    ·cases hv
  ·cases hv
 ·cases hv
theorem JmI (h : Rel P S0 env m a vs) {t : TypeId} {hot : Bool} {y : Sl} {w : Value} (hy : J8 P (vs.cx S0 env m) y w) {g : Option Bool} {x : Sl} {vs1 : VS} (hv : vbox P t hot y vs = some (g, x, vs1)) :
  ∃v m1 env1,(m.new w.cells t).map (fun (p:Addr × M)=>Res.val (.pointer (some p.1)) p.2)=some (.val v m1)∧Rel P S0 env1 m1 a vs1∧Stp (vs.cx S0 env m) (vs1.cx S0 env1 m1)∧J8 P (vs1.cx S0 env1 m1) x v:=by
 unfold vbox at hv;split at hv
 ·rename_i s;split at hv
  ·rename_i cs hcs;split at hv
   ·rename_i hk;have hf := h.T.free m.nxt (Je _);have hf' : m.get m.nxt = none := hf
    have hnew:m.new w.cells t=some (⟨m.nxt,0,none⟩,m.mk1 (.cells w.cells t)):=by unfold M.new;rw [hf']
    have hrc:=(XD hcs hy hk).1;cases hot with
    | false=>
     simp only [Jl,Jg,Jm] at hv;obtain ⟨rfl,hv⟩:=hv;obtain ⟨h1,h2,h3⟩:=h.newBox hnew hrc;have e1:x=(newBox vs cs).1:=by rw [hv]
     have e2:vs1=(newBox vs cs).2:=by rw [hv]
     subst e1;subst e2;exact ⟨_,_,_,by rw [hnew];rfl,h1,h2,h3⟩
    | true =>
     simp only [Jk] at hv;split at hv
     ·rename_i n e ty ha;split at hv
      ·rename_i hc;obtain ⟨hc1,hc2,hc3⟩:=hc;simp only [Ja,Jm] at hv;obtain ⟨xs,hxs,rfl,hv⟩:=hv;have hwl:w.cells.size=n*ty.n:=by rw [←Array.length_toList,←Qe hrc];exact hc1
       obtain ⟨k1,k2⟩:=JbF h.T (ty:=ty) hxs hrc (by rw [Jq];exact hwl)
       have hels:Els P (vs.S S0 env) m ty xs w.cells:=by
        refine ⟨by rw [k1];exact hwl,fun q x hq => ?_⟩
        have:=k2 q x hq
        rw [Jcw,show q*ty.n+ty.n - q*ty.n=ty.n by omega];exact this
       have hne:xs ≠ []:=fun q=>by rw [q] at k1;simp at k1;omega
       obtain ⟨h1,h2⟩:=h.newRunG (arr:=true) hc2 (fun q=>by cases q) hnew hels hne;have e1:x=(newBox vs [.ra ty xs]).1:=by rw [hv]
       have e2:vs1=(newBox vs [.ra ty xs]).2:=by rw [hv]
       subst e1;subst e2;refine ⟨_,_,_,by rw [hnew];rfl,h1,h2, ?_,m.nxt,rfl,Nat.lt_succ_self _,fun _ => ?_⟩
       ·show vs.bx.length<(vs.bx ++ [_]).length;simp
       ·exact (J6 env _ _).symm
      ·cases hv
     ·cases hv
   ·cases hv
  ·cases hv
 ·cases hv
end Go.IM.V
namespace Go.IM.V
open Go Go.IM
variable {P:Program} {m m1:M} {S0:Nat→Prop} {env:Env} {a:Act} {vs:VS} {X:Cx}
theorem zip_wr : ∀(l:List Value) (c:Array Value) (off s:Nat),(l.zipIdx s).foldl (fun (cs:Array Value) (p:Value × Nat)=>cs.setIfInBounds (off+p.2) p.1) c=wr c (off+s) l:=by
  intro l;induction l with
  | nil=>intro c off s;rfl
  | cons v l ih=>intro c off s;simp only [List.zipIdx_cons,List.foldl_cons,wr];rw [ih];rfl
theorem Jn5 (v:Array Value) (c:Array Value) (off:Nat):v.zipIdx.foldl (fun (cs:Array Value) (p:Value × Nat)=>cs.setIfInBounds (off+p.2) p.1) c=wr c off v.toList:=by
  rw [←Array.foldl_toList,Array.toList_zipIdx];exact zip_wr v.toList c off 0
theorem Jnz {n : Nat} : ∀ (l : List (Nat × Value)) (c : Array Value) (k : Nat), (∀ (j : Nat) p, l[j]? = some p → p.1 = k + j ∧ p.2.cells.size = n) → (k + l.length) * n ≤ c.size →
    ∃c',Instr.fill (fun i=>some (i*n,n)) c l=some c'∧c'.size=c.size∧(∀q,q<k*n→c'[q]? = c[q]?) ∧ ∀(j:Nat) p,l[j]? = some p→(c'.extract ((k+j)*n) ((k+j)*n+n)).toList=p.2.cells.toList:=by
  intro l;induction l with
  | nil=>intro c k h1 h2;exact ⟨c,rfl,rfl,fun _ _=>rfl,fun j p hp=>by simp at hp⟩
  | cons p l ih =>
    intro c k h1 h2;obtain ⟨hp1,hp2⟩:=h1 0 p rfl;obtain ⟨i,v⟩:=p;simp only [Nat.add_zero] at hp1 hp2;subst hp1;have hfit:i*n+n≤c.size:=by
      have:(i+1)*n≤(i+(l.length+1))*n:=Jw _ (by omega)
      rw [JQ,Nat.one_mul] at this;simp only [Ju] at h2;omega
    obtain ⟨c',g1,g2,g3,g4⟩:=ih (wr c (i*n) v.cells.toList) (i+1) (fun j p hp=>by
      have:=h1 (j+1) p (by simpa using hp)
      exact ⟨by omega,this.2⟩) (by rw [Qz];simp only [Ju] at h2;rw [show i+1+l.length=i+(l.length+1) by omega];exact h2)
    refine ⟨c', ?_,by rw [g2,Qz],fun q hq => ?_,fun j p hp => ?_⟩
    · unfold Instr.fill
      dsimp only;rw [Jd (by simp;omega)]
      rw [Jn5];exact g1
    · rw [g3 q (by rw [JQ];omega),Jc3 _ _ _ _ (by rw [Jq];omega),Jf hq]
    · cases j with
      | zero =>
        cases hp;dsimp only at hp2 ⊢;rw [Nat.add_zero];apply List.ext_getElem?
        intro q;rw [Jn,JA];by_cases hq:q<n
        · rw [Jf (by rw [g2,Qz];omega),g3 _ (by rw [JQ];omega),Jc3 _ _ _ _ (by rw [Jq];omega),Jd (by omega),Jf (by rw [Jq];omega)]
          congr 1;omega
        · rw [Jd (by omega),J1 (by rw [Jq];omega)]
      | succ j=>
        have:=g4 j p (by simpa using hp)
        rw [show i+(j+1)=i+1+j by omega];exact this
theorem JiQ (h : Rel P S0 env m a vs) {ty : Ty} : ∀ {l : List (Nat × Operand)} {k : Nat} {ys : List ty.El}, JlF vs.bf ty vs.ev k l = some ys →
    ys.length=l.length ∧ ∀(j:Nat) p,l[j]? = some p→p.1=k+j ∧ ∃y,ys[j]? = some y∧QR P (vs.S S0 env) m ty y (a.eval p.2).cells.toList:=by
  intro l;induction l with
  | nil=>intro k ys hy;cases hy;exact ⟨rfl,fun j p hp=>by simp at hp⟩
  | cons p l ih =>
    intro k ys hy;obtain ⟨i,x⟩:=p;simp only [JlF] at hy;split at hy
    · rename_i hik
      split at hy
      · rename_i y ys' h1 h2
        cases hy;obtain ⟨g1,g2⟩:=ih h2;refine ⟨by simp [g1],fun j p hp => ?_⟩;cases j with
        | zero =>
          cases hp;refine ⟨by simp [hik],y,rfl, ?_⟩;have hx:=QE h x;cases hs:vs.ev x with
          | t l=>rw [hs] at h1;cases h1
          | v s=>
            rw [hs] at h1 hx;exact (Jhp h.T h1 hx).1
        | succ j=>
          obtain ⟨g3,y',g4,g5⟩:=g2 j p (by simpa using hp);exact ⟨by omega,y',by simpa using g4,g5⟩
      · cases hy
    · cases hy
theorem Rel.newBF (h : Rel P S0 env m a vs) {hot : Bool} {ty : Ty} {v : Value} (hfr : Fr2 (fun _ => False) (fun _ => False) m m1) (hn : 0 < ty.n) (hv : Jl7 v) :
    ∃env1,Rel P S0 env1 m1 a (V.newB hot vs ty []).2∧Stp (vs.cx S0 env m) ((V.newB hot vs ty []).2.cx S0 env1 m1)∧J8 P ((V.newB hot vs ty []).2.cx S0 env1 m1) (V.newB hot vs ty []).1 v:=by
  have hT:=h.T;cases hot with
  | false =>
    obtain ⟨h1,h2⟩:=h.addBuf (m1:=m1) (cp:=false) (ty:=ty) (xs := []) (t:=none) (Wl':=fun _=>False) hfr (bf:=vs.bf) (fun j b hj=>⟨b,hj,.inl rfl,fun _ _ _ w=>w⟩) rfl (fun _ w=>w.elim) (fun i hi=>by cases hi) (by
      refine ⟨hn, ?_⟩;show (match (env.setτ vs.bf.length none).τ vs.bf.length with | none=>_ | some i=>_);rw [setτ_new];exact fun _=>rfl)
    refine ⟨_,h1,h2,⟨⟨ty, [],true,false⟩, ?_, ?_⟩⟩
    · show (vs.bf ++ [_])[vs.bf.length]? = _;rw [Qd,Jf rfl]
    · show JjO P _ _ ((env.setτ vs.bf.length none).τ vs.bf.length) _
      rw [setτ_new];rcases hv with rfl|⟨i,o,rfl⟩
      · exact ⟨.inl rfl,.inl ⟨rfl,rfl⟩⟩
      · exact ⟨.inr ⟨i,o,0,rfl⟩,.inr ⟨i,o,_,0,rfl,Je _,.inl rfl⟩⟩
  | true =>
    obtain ⟨h1,h2⟩:=h.addBox (cs := [.r true ty []]) (i:=0) hfr (fun w=>by cases w) ⟨⟨hn,fun w=>absurd rfl w⟩,fun _ w=>absurd rfl w⟩;refine ⟨_,h1,h2,by show vs.bx.length<(vs.bx ++ [_]).length;simp,⟨?_,JbH hv _⟩,fun L hL => ?_⟩
    · rcases hv with rfl|⟨i,o,rfl⟩ <;> rfl
    · have hL':lenOf (vs.bx ++ [[.r true ty []]]) vs.bx.length=some L:=hL
      rw [XM,Jf rfl] at hL';cases hL';exact ⟨fun _=>hv,fun w=>absurd w (Nat.lt_irrefl _)⟩
theorem JdF (h : Rel P S0 env m a vs) {t : TypeId} {hot : Bool} {len : Nat} {parts : Array (Nat × Operand)} {g : Option Bool} {x : Sl} {vs1 : VS} (hv : JcN P t hot len parts.toList vs = some (g, x, vs1)) :
    ∃v m1 env1,XB P t len (parts.map fun (p:Nat × Operand)=>(p.1,a.eval p.2)).toList m=some (v,m1)∧Rel P S0 env1 m1 a vs1∧Stp (vs.cx S0 env m) (vs1.cx S0 env1 m1)∧J8 P (vs1.cx S0 env1 m1) x v:=by
  unfold JcN at hv;split at hv
  · rename_i e ty hel
    obtain ⟨hu,hn,hce,ti,hti,hsz,hby⟩:=Xk hel;split at hv
    · rename_i ys z hys hz
      split at hv
      · rename_i hc
        simp only [Jg, Jm] at hv;obtain ⟨rfl, hv⟩ := hv;obtain ⟨h1, h2⟩ := JiQ h hys;obtain ⟨c', g1, g2, g3, g4⟩ := Jnz (n := ty.n) (parts.map fun (p : Nat × Operand) => (p.1, a.eval p.2)).toList
          ((Array.range (len*ti.size)).map ((if len*ti.size=0 then #[] else z.cells)[· % (if len*ti.size=0 then (#[]:Array Value) else z.cells).size]!)) 0 (fun j p hp=>by
            rw [Jn,Array.getElem?_map] at hp;simp only [Ja] at hp;obtain ⟨q,hq,rfl⟩:=hp;obtain ⟨h3,y,h4,h5⟩:=h2 j q (by rw [Jn];exact hq)
            exact ⟨h3,by have:=JaW h5;rw [Jq] at this;exact this⟩) (by simp [hsz];rw [←hc.1];simp)
        have hels:Els P (vs.S S0 env) m ty ys c':=by
          refine ⟨by rw [g2,h1,hc.1];simp [hsz],fun q y hq => ?_⟩
          have hql:q<parts.toList.length:=by rw [←h1];exact Jx hq
          have hp:parts.toList[q]? = some parts.toList[q]:=by simp [hql]
          obtain ⟨h3,y',h4,h5⟩:=h2 q _ hp;rw [hq] at h4;cases h4;have:=g4 q (parts.toList[q].1,a.eval parts.toList[q].2) (by rw [Jn,Array.getElem?_map,←Array.getElem?_toList,hp];rfl)
          rw [JG] at this;rw [this];exact h5
        have hf':m.get m.nxt=none:=h.T.free m.nxt (Je _)
        have hnew:m.new c' e=some (⟨m.nxt,0,none⟩,m.mk1 (.cells c' e)):=by unfold M.new;rw [hf']
        obtain ⟨env1, k1, k2, k3⟩ : ∃ env1, Rel P S0 env1 (m.mk1 (.cells c' e)) a (V.newB hot vs ty ys).2 ∧ Stp (vs.cx S0 env m) ((V.newB hot vs ty ys).2.cx S0 env1 (m.mk1 (.cells c' e))) ∧ J8 P ((V.newB hot vs ty ys).2.cx S0 env1 (m.mk1 (.cells c' e))) (V.newB hot vs ty ys).1 (.slice (some ⟨m.nxt, 0, if ys.length = 0 then some 0 else none⟩) ys.length ys.length) := by
          by_cases hne:ys = []
          · subst hne
            exact h.newBF (Ja6 h.T.free _) hn (.inr ⟨m.nxt,0,rfl⟩)
          · obtain ⟨_,env1,k⟩:=h.newB (hot:=hot) hn hce hnew hels (fun _=>hne)
            rw [Jd (fun q=>hne (JT q))];exact ⟨env1,k⟩
        have e1:x=(newB hot vs ty ys).1:=by rw [hv]
        have e2:vs1=(newB hot vs ty ys).2:=by rw [hv]
        subst e1;subst e2;refine ⟨_,_,_, ?_,k1,k2,k3⟩;unfold XB;rw [hu];dsimp only;rw [hti,hz];dsimp only;rw [Jf (by rw [hsz];exact hc.2)]
        rw [hsz] at g1 ⊢;rw [g1];dsimp only;rw [hnew];dsimp only;rw [Jf (by rw [g2];simp [hsz]),h1,hc.1]
      · cases hv
    · cases hv
  · cases hv
theorem Jen (h : Rel P S0 env m a vs) {t : TypeId} {hot : Bool} {l c : Sl} {wl wc : Value} (hl : J8 P (vs.cx S0 env m) l wl) (hcc : J8 P (vs.cx S0 env m) c wc) {g : Option Bool} {x : Sl} {vs1 : VS} (hv : JdE P t hot l c vs = some (g, x, vs1)) (hg : Jbt g) :
    ∃v m1 env1,Xn P t wl wc m=some (v,m1)∧Rel P S0 env1 m1 a vs1∧Stp (vs.cx S0 env m) (vs1.cx S0 env1 m1)∧J8 P (vs1.cx S0 env1 m1) x v:=by
  unfold JdE at hv;split at hv
  · rename_i e ty l c hel hl1 hc1
    obtain ⟨hu,hn,hce,ti,hti,hsz,hby⟩:=Xk hel;obtain ⟨k1,rfl⟩:=X7 hl1 hl;obtain ⟨k2,rfl⟩:=X7 hc1 hcc;split at hv
    · rename_i z hz
      split at hv
      · rename_i y hy
        split at hv
        · rename_i hone
          simp only [Jg, Jm] at hv;obtain ⟨rfl, hv⟩ := hv;have hgt := hg _ rfl;rw [Jh] at hgt;obtain ⟨hgt1, hgt2⟩ := hgt;obtain ⟨h0, rfl, hlim⟩ := Qf hgt1;obtain ⟨n, rfl⟩ : ∃ n : Nat, l = (n : Int) := ⟨l.toNat, by omega⟩;have hzr : QR P (vs.S S0 env) m ty y z.cells.toList := by
            refine JaM h.T hy ?_;rw [Array.all_eq_true'] at hone;have : ∀l:List Value,(∀v∈l,okc v=true)→Qa P (vs.cx S0 env m) (l.map .c) l:=by
              intro l;induction l with
              | nil=>intro _;trivial
              | cons v l ih=>intro h;exact ⟨⟨rfl,h v (by simp)⟩,ih fun w hw=>h w (by simp [hw])⟩
            exact this _ fun v hv=>hone v (by simpa using hv)
          have hzn:z.cells.size=ty.n:=by have:=JaW hzr;rw [Jq] at this;exact this
          rw [Ji] at hv;have hels : Els P (vs.S S0 env) m ty (List.replicate n y) ((Array.range (n * ti.size)).map ((if n * ti.size = 0 then #[] else z.cells)[· % (if n * ti.size = 0 then (#[] : Array Value) else z.cells).size]!)) := by
            refine ⟨by simp [hsz],fun q x hq => ?_⟩;have hqn:q<n:=by have:=Jx hq;simpa using this
            have hx:x=y:=by
              rw [List.getElem?_replicate,Jf hqn] at hq;cases hq;rfl
            subst hx;have hpos : ¬n*ti.size=0:=by
              intro h0;rcases Nat.mul_eq_zero.1 h0 with h0 | h0 <;> omega
            rw [Jd hpos];have : (((Array.range (n * ti.size)).map fun i => z.cells[i % z.cells.size]!).extract (q * ty.n) (q * ty.n + ty.n)).toList = z.cells.toList := by
              apply List.ext_getElem?
              intro r;rw [Jn,JA,Jn];have hmul:q*ty.n+ty.n≤n*ty.n:=by
                have:(q+1)*ty.n≤n*ty.n:=Jw _ hqn
                rw [JQ,Nat.one_mul] at this;exact this
              by_cases hr:r<ty.n
              · rw [Jf (by simp [hsz];omega),Array.getElem?_map,Array.getElem?_range,Jf (by rw [hsz];omega)]
                simp only [JU];rw [hzn,Nat.mul_comm q,Nat.mul_add_mod,Nat.mod_eq_of_lt hr];rw [getElem!_pos z.cells r (by omega),Array.getElem?_eq_getElem (by omega)]
              · rw [Jd (by omega),Array.getElem?_eq_none (by omega)]
            rw [this];exact hzr
          have hf':m.get m.nxt=none:=h.T.free m.nxt (Je _)
          generalize hcells:((Array.range (n*ti.size)).map ((if n*ti.size=0 then #[] else z.cells)[· % (if n*ti.size=0 then (#[]:Array Value) else z.cells).size]!))=cells at hels;have hnew:m.new cells e=some (⟨m.nxt,0,none⟩,m.mk1 (.cells cells e)):=by unfold M.new;rw [hf']
          obtain ⟨_,env1,r1,r2,r3⟩:=h.newB (hot:=hot) hn hce hnew hels (fun q q2=>by
            rw [q] at hgt2;have h5:0<((n:Nat):Int):=by simpa using hgt2
            have:=congrArg List.length q2
            simp at this
            omega)
          have e1:x=(newB hot vs ty (List.replicate n y)).1:=by rw [hv]
          have e2:vs1=(newB hot vs ty (List.replicate n y)).2:=by rw [hv]
          subst e1;subst e2;rw [List.length_replicate] at r3;refine ⟨_,_,_, ?_,r1,r2,r3⟩;unfold Xn;rw [hu];dsimp only;rw [hti,hz];dsimp only;have hlim':n<1099511627776:=by unfold lim at hlim;omega
          have hb2:ti.bytes*n≤128*1099511627776:=Nat.mul_le_mul hby (by omega)
          rw [Jf ⟨by omega, Int.le_refl _, by omega, by have : ((ti.bytes : Int) * (n : Int)) = ((ti.bytes * n : Nat) : Int) :=(by simp);rw [this];omega⟩]
          rw [Ji,hcells,hnew]
        · cases hv
      · cases hv
    · cases hv
  · cases hv
theorem JjS (h : Rel P S0 env m a vs) {t : TypeId} {l c : Sl} {wl wc : Value} (hl : J8 P (vs.cx S0 env m) l wl) (hcc : J8 P (vs.cx S0 env m) c wc) {x : Sl} {vs1 : VS} (hv : JtJ P t l c vs = some (x, vs1)) :
    ∃v m1 env1,Xn P t wl wc m=some (v,m1)∧Rel P S0 env1 m1 a vs1∧Stp (vs.cx S0 env m) (vs1.cx S0 env1 m1)∧J8 P (vs1.cx S0 env1 m1) x v:=by
  unfold JtJ at hv;split at hv
  · rename_i e ty n c hel hl1 hc1
    obtain ⟨hu,hn,hce,ti,hti,hsz,hby⟩:=Xk hel;obtain ⟨k1,rfl⟩:=X7 hl1 hl;obtain ⟨k2,rfl⟩:=X7 hc1 hcc;split at hv
    · rename_i z hz
      split at hv
      · rename_i v hzv
        split at hv
        · rename_i hcond
          obtain ⟨hok,hn1,rfl,hlim⟩:=hcond;cases hv;have hf':m.get m.nxt=none:=h.T.free m.nxt (Je _)
          have hzs:z.cells.size=1:=by rw [←Array.length_toList,hzv];rfl
          have hz0:z.cells = #[v]:=by apply Array.ext';rw [hzv]
          have hsz1:ti.size=1:=by omega
          have hcl:((Array.range ((n+1)*ti.size)).map ((if (n+1)*ti.size=0 then #[] else z.cells)[· % (if (n+1)*ti.size=0 then (#[]:Array Value) else z.cells).size]!)).toList=List.replicate (n+1) v:=by
            rw [hsz1,Nat.mul_one,Jd (by omega),hz0];apply List.ext_getElem?
            intro i;rw [Jn,Array.getElem?_map,Array.getElem?_range,List.getElem?_replicate];by_cases hi:i<n+1
            · rw [Jf hi,Jf hi];simp [Nat.mod_one]
            · rw [Jd hi,Jd hi];rfl
          generalize hcells:((Array.range ((n+1)*ti.size)).map ((if (n+1)*ti.size=0 then #[] else z.cells)[· % (if (n+1)*ti.size=0 then (#[]:Array Value) else z.cells).size]!))=cells at hcl;have hnew:m.new cells e=some (⟨m.nxt,0,none⟩,m.mk1 (.cells cells e)):=by unfold M.new;rw [hf']
          have hrep:Qa P (vs.cx S0 env m) (List.replicate (n+1) (.c v)) cells.toList:=by
            rw [hcl];generalize n+1=k;induction k with
            | zero=>trivial
            | succ k ih=>exact ⟨⟨rfl,hok⟩,ih⟩
          obtain ⟨r1,r2,r3⟩:=h.newBox (cs:=List.replicate (n+1) (.c v)) hnew hrep;refine ⟨.slice (some ⟨m.nxt,0,none⟩) (n+1) (n+1),_,_, ?_,r1,r2, ?_⟩
          · unfold Xn
            rw [hu];dsimp only;rw [hti,hz];dsimp only;have hb2:ti.bytes*(n+1)≤128*64:=Nat.mul_le_mul hby hlim;have hof:(Int.ofNat (n+1))=((n+1:Nat):Int):=rfl
            rw [hof, Jf ⟨by omega, Int.le_refl _, by omega, by have : ((ti.bytes : Int) * ((n + 1 : Nat) : Int)) = ((ti.bytes * (n + 1) : Nat) : Int) :=(by simp);rw [this];omega⟩]
            rw [Ji,hcells,hnew]
          · obtain ⟨q1,kb,q2,q3,q4⟩:=r3
            cases q2;refine ⟨q1,⟨rfl,.inr q3⟩,fun hh => ?_⟩;have q5:=q4 hh;show Value.slice (some ⟨m.nxt,0,none⟩) (n+1) (n+1) = .slice (some ⟨(env.setβ vs.bx.length m.nxt).β vs.bx.length,0,none⟩) (n+1) (n+1) ∧ ∃eo,(m.mk1 (.cells cells e)).typ ((env.setβ vs.bx.length m.nxt).β vs.bx.length)=some eo∧_;rw [J6];refine ⟨rfl,e, ?_,hce⟩;unfold M.typ;rw [Qp,Jf rfl];rfl
        · cases hv
      · cases hv
    · cases hv
  · cases hv
theorem Jri {S1 S : Nat → Prop} {ty : Ty} {ys : List ty.El} {w : Value} (hr : Jbu P S1 m ty.n (QR P S m ty) ys w) : ∃ c, JjM ty.n w m = some (ys.length, c) ∧ Els P S m ty ys c := by
  by_cases hy:ys = []
  · subst hy
    refine ⟨#[], ?_,Els.nil⟩;rcases hr with ⟨rfl,_⟩|⟨i,o,sp,cap,rfl,_⟩
    · rfl
    · simp [JjM]
  · rcases hr with ⟨_, h⟩ | ⟨i, o, sp, cap, rfl, hcap, hr⟩
    · exact absurd h hy
    · have := Jhn (i := i) (o := o) (len := ys.length) (cap := cap) hy (.inr ⟨i, o, sp, cap, rfl, hcap, hr⟩)
      obtain ⟨_,_,c,e,h1,h2,h3,h4,h5⟩:=this;refine ⟨_, ?_,h5⟩;unfold JjM;dsimp only;have hpos:0<ys.length:=JR.2 hy;by_cases hz:ys.length*ty.n=0
      · rw [Jf hz]
        have h6:(c.extract o (o+ys.length*ty.n)).size=0:=by rw [h5.1];exact hz
        rw [JY h6]
      · rw [Jd hz,h4]
        rfl
theorem Jfg (h : Rel P S0 env m a vs) {ty : Ty} {x : Sl} {ys : List ty.El} {w : Value} (hx : Jna vs ty x = some ys) (hr : J8 P (vs.cx S0 env m) x w) : ∃ c, JjM ty.n w m = some (ys.length, c) ∧ Els P (vs.S S0 env) m ty ys c := by
  unfold Jna at hx;split at hx
  · rename_i s
    obtain ⟨rfl,rfl⟩:=XH hx;obtain ⟨rfl,_⟩:=hr;refine ⟨s.data.map fun (b:UInt8) => .int .u8 b.toNat, ?_,by simp [XS,Ty.n],fun q y hq => ?_⟩
    · unfold JjM
      simp only [Ty.n,if_true,XS,List.length_map];rfl
    · simp only [XS, List.getElem?_map, Ja] at hq
      obtain ⟨b,hb,rfl⟩:=hq;show _ = [Value.int .u8 _];simp only [Ty.n,Nat.mul_one];apply List.ext_getElem?
      intro k;rw [Jn,JA];have hql:=Jx hb;rw [Jq] at hql;have hsz:s.size=s.data.size:=rfl;cases k with
      | zero=>
        rw [Jf (by simp;omega),Array.getElem?_map,Nat.add_zero]
        rw [Jn] at hb;rw [hb];rfl
      | succ k=>rw [Jd (by omega)];simp
  · rename_i c hc
    exact Jri (Jda h.T hx hr)
  · cases hx
theorem Jpx {i:Nat} {x:Blk} (o:Obj) (k:Nat):(m.gen i x o).get k=if k=m.nxt then some { obj:=o,root:=x.root } else if i=k then some { x with sup:=true } else m.get k:=by
  simp only [M.gen,M.get_bump,M.get_set];by_cases e:k=m.nxt
  · subst e;simp
  · rw [Jd e,Jd (Ne.symm e)]
theorem Jhb (h : Rel P S0 env m a vs) {t : TypeId} {hot : Bool} {xt : Option TypeId} {s x : Sl} {ws wx : Value} (hs : J8 P (vs.cx S0 env m) s ws) (hx : J8 P (vs.cx S0 env m) x wx) {g : Option Bool} {y : Sl} {vs1 : VS} (hg : Jbt g) : Jj7 P t hot xt s x vs = some (g, y, vs1) →
    ∃v m1 env1,Xh P t xt ws wx m=some (v,m1)∧Rel P S0 env1 m1 a vs1∧Stp (vs.cx S0 env m) (vs1.cx S0 env1 m1)∧J8 P (vs1.cx S0 env1 m1) y v:=by
  have main : ∀ {e : TypeId} {ty : Ty}, JnB P t = some (e, ty) → ((∃ q, xt.bind P.underlying = some (.slice q)) ∨ xt.bind P.underlying = some .string) →
      Jhc P e ty hot s x vs=some (g,y,vs1) → ∃v m1 env1,Xh P t xt ws wx m=some (v,m1)∧Rel P S0 env1 m1 a vs1∧Stp (vs.cx S0 env m) (vs1.cx S0 env1 m1)∧J8 P (vs1.cx S0 env1 m1) y v:=by
    intro e ty hel hxt hv;obtain ⟨hu,hn,hce,ti,hti,hsz,hby⟩:=Xk hel;unfold Jhc at hv;split at hv
    · rename_i ys z hys hz
      split at hv
      · rename_i hzn
        obtain ⟨cs,hnews,hels⟩:=Jfg h hys hx;have hone:=hels.all_one hn;have hf':m.get m.nxt=none:=h.T.free m.nxt (Je _)
        have hcs0:ys = []→cs = #[]:=fun hy=>JY (by rw [hels.1,hy];simp)
        have core : ∀{base len cap r},ws = .slice base len cap→Qr P e ti base len cap wx m=some r→Xh P t xt ws wx m=some r:=by
          intro base len cap r hw hr;unfold Xh;rw [hu,hw];dsimp only;rw [hti,hz];dsimp only;rw [Jd (by omega)];rcases hxt with ⟨q,hq⟩|hq <;> rw [hq] <;> exact hr
        have empty : ∀{base len cap},len≤cap→ys = []→Qr P e ti base len cap wx m=some (.slice base len cap,m):=by
          intro base len cap hl hy;unfold Qr;rw [hsz,hnews];dsimp only;rw [Jf (by rw [hy];rfl),Jf hl]
        have big : ∀{len:Nat},len+ys.length<lim → ¬((len+ys.length)*ti.bytes > 140737488355328∨len+ys.length > 9223372036854775807∨cs.all one=false):=by
          intro len hl;unfold lim at hl;have:(len+ys.length)*ti.bytes≤1099511627776*128:=Nat.mul_le_mul (by omega) hby
          rw [hone];simp;omega
        have newOf : ∀c:Array Value,m.new c e=some (⟨m.nxt,0,none⟩,m.mk1 (.cells c e)):=fun c=>by unfold M.new;rw [hf']
        have onNil : ys ≠ [] → ys.length < lim → Jl7 ws → Xh P t xt ws wx m = some (.slice (some ⟨m.nxt, 0, none⟩) ys.length ys.length, m.mk1 (.cells cs e)) := by
          intro hy hlim hcE;have hpos:0<ys.length:=JR.2 hy;rcases hcE with q|⟨i,o,q⟩
          · refine core q ?_
            unfold Qr;rw [hsz,hnews];dsimp only;rw [Jd (by omega),Jd (big (by omega)),Jf ⟨rfl,rfl⟩,newOf]
          · refine core q ?_
            unfold Qr;rw [hsz,hnews];dsimp only;rw [Jd (by omega),Jd (big (by omega)),Jd (by omega),Jf rfl,newOf]
        have emptyE:Jl7 ws→ys = []→Xh P t xt ws wx m=some (ws,m):=by
          intro hcE hy;rcases hcE with q|⟨i,o,q⟩
          · rw [core q (empty (Je _) hy),q]
          · rw [core q (empty (Je _) hy),q]
        have onCap : ∀ {xs : List ty.El} {i o n : Nat} {S1 : Nat → Prop}, ys ≠ [] → n + ys.length < lim → ws = .slice (some ⟨i, o, some 0⟩) n n → Jbu P S1 m ty.n (QR P (vs.S S0 env) m ty) xs ws →
            ∃c,Els P (vs.S S0 env) m ty (xs++ys) c∧Xh P t xt ws wx m=some (.slice (some ⟨m.nxt,0,none⟩) (xs++ys).length (xs++ys).length,m.mk1 (.cells c e)):=by
          intro xs i o n S1 hy hlim hw hrep;have hpos:0<ys.length:=JR.2 hy;by_cases hxs:xs = []
          · subst hxs
            have hn0:n=0:=by
              rw [hw] at hrep;rcases hrep with ⟨q,_⟩|⟨i',o',sp',cap',q,_⟩
              · cases q
              · cases q;rfl
            subst hn0;exact ⟨cs,hels,onNil hy (by omega) (.inr ⟨i,o,hw⟩)⟩
          · rw [hw] at hrep
            obtain ⟨hnl,_,c,e',h4,_,h6,h7,h8⟩:=Jhn hxs hrep;have hpx:0<xs.length:=JR.2 hxs;refine ⟨_,h8.append hels,core hw ?_⟩;unfold Qr;rw [hsz,hnews];dsimp only;rw [Jd (by omega),Jd (big hlim),Jd (by omega),Jd (by omega),h4,hnl,h7];dsimp only;rw [Jf h6,newOf,Jz]
        revert hs
        split at hv
        · rename_i v
          intro hs;obtain ⟨rfl,_⟩:=hs;cases hnil:XU ws with
          | false=>rw [hnil] at hv;cases hv
          | true =>
            rw [hnil] at hv;simp only [Jk,Jg,Jm] at hv;obtain ⟨rfl,hv⟩:=hv;have hlim:=Qf (hg _ rfl);have hws:=Q7 hnil;have e1:y=(newB hot vs ty ys).1:=by rw [hv]
            have e2:vs1=(newB hot vs ty ys).2:=by rw [hv]
            subst e1;subst e2;by_cases hy:ys = []
            · obtain ⟨env1,k1,k2,k3⟩:=h.newBE (hot:=hot) (ty:=ty) (v:=ws) hn (.inl hws)
              have hem:=emptyE (.inl hws) hy;subst hy;exact ⟨_,_,_,hem,k1,k2,k3⟩
            · obtain ⟨_,env1,k1,k2,k3⟩:=h.newB (hot:=hot) hn hce (newOf cs) hels (fun _=>hy)
              exact ⟨_,_,_,onNil hy hlim (.inl hws),k1,k2,k3⟩
        · rename_i j
          intro hs;split at hv
          · rename_i b hb
            split at hv
            · rename_i xs hxs
              obtain ⟨hbe,rfl⟩:=XH hxs;obtain ⟨be,bxs,blive,bcap⟩:=b;dsimp only at hbe hv;subst hbe;dsimp only at hv;cases hlv:blive with
              | false=>rw [hlv] at hv;cases hv
              | true =>
                subst hlv;simp only [Jk,Jg,Jm] at hv;obtain ⟨rfl,hv⟩:=hv;have hlim:=Qf (hg _ rfl);have e1:y=(newBufC bcap { vs with bf:=freeze vs.bf j } be (bxs++ys)).1:=by rw [hv]
                have e2:vs1=(newBufC bcap { vs with bf:=freeze vs.bf j } be (bxs++ys)).2:=by rw [hv]
                subst e1;subst e2;obtain ⟨b',hb1,hws⟩:=hs;have hb1':vs.bf[j]? = some b':=hb1
                rw [hb] at hb1';cases hb1';have hB:=h.T.bf j _ hb;have hB2:=hB.2;rw [show (vs.cx S0 env m).env.τ j=env.τ j from rfl] at hB2 hws;by_cases hy:ys = []
                · subst hy
                  have hv0 : ∃ base len cap, ws = .slice base len cap ∧ len ≤ cap := by
                    unfold JjO at hws;split at hws
                    · rcases hws.1 with q|⟨i,o,n,q⟩
                      · exact ⟨_,_,_,q,Je _⟩
                      · exact ⟨_,_,_,q,Je _⟩
                    · exact ⟨_,_,_,hws,Je _⟩
                  obtain ⟨base,len,cap,hw,hlc⟩:=hv0;have hem:=core hw (empty hlc rfl);rw [←hw] at hem;have happ:bxs++([]:List be.El)=bxs:=List.append_nil _;rw [happ];obtain ⟨k1,k2,k3⟩:=h.useBuf (m1:=m) hb rfl (ty:=be) (xs:=bxs) (t:=env.τ j) (Fr2.refl h.T.free) (fun i hi => .inl hi) (by
                    refine ⟨hn, ?_⟩;show (match (env.setτ vs.bf.length (env.τ j)).τ vs.bf.length with | none=>_ | some i=>_);rw [setτ_new];exact hB2) (v:=ws) hws
                  exact ⟨_,_,_,hem,k1,k2,k3⟩
                · have hpos : 0 < ys.length := JR.2 hy
                  cases hτ:env.τ j with
                  | none =>
                    rw [hτ] at hws;obtain ⟨hcap, hrep⟩ := hws;have fin : ∀ {c : Array Value}, Els P (vs.S S0 env) m be (bxs ++ ys) c → Xh P t xt ws wx m = some (.slice (some ⟨m.nxt, 0, none⟩) (bxs ++ ys).length (bxs ++ ys).length, m.mk1 (.cells c e)) →
                        ∃v m1 env1,Xh P t xt ws wx m=some (v,m1)∧Rel P S0 env1 m1 a (newBufC bcap { vs with bf:=freeze vs.bf j } be (bxs++ys)).2∧Stp (vs.cx S0 env m) ((newBufC bcap { vs with bf:=freeze vs.bf j } be (bxs++ys)).2.cx S0 env1 m1)∧J8 P ((newBufC bcap { vs with bf:=freeze vs.bf j } be (bxs++ys)).2.cx S0 env1 m1) (newBufC bcap { vs with bf:=freeze vs.bf j } be (bxs++ys)).1 v:=by
                      intro c hc hi;have hmono:Jex (vs.S S0 env) m (vs.S S0 env) (m.mk1 (.cells c e)):=(Ja6 h.T.free (.cells c e)).mono_row h.T.free (fun _ w=>w.elim) (fun i w => .inl w);obtain ⟨k1,k2,k3⟩:=h.useBuf (m1:=m.mk1 (.cells c e)) hb rfl (ty:=be) (xs:=bxs++ys) (t:=some m.nxt) ((Ja6 h.T.free _).mono (fun _ w=>w) (fun _ w=>w.elim)) (fun i hi=>by cases hi;exact .inr (Je _)) (by
                        refine ⟨hn, ?_⟩;show (match (env.setτ vs.bf.length (some m.nxt)).τ vs.bf.length with | none=>_ | some i=>_);rw [setτ_new];refine ⟨fun w=>absurd (h.T.slt _ w) (Nat.lt_irrefl _),_,c,e,(0,0),Xa _,rfl,hce,rfl,hc.1,(hc.mono hmono).2,fun _=>⟨rfl,Nat.le_succ _⟩⟩) (v := .slice (some ⟨m.nxt,0,none⟩) (bxs++ys).length (bxs++ys).length) rfl
                      exact ⟨_,_,_,hi,k1,k2,k3⟩
                    rcases hcap with q|⟨i,o,n,q⟩
                    · have hb0 : bxs = [] := by
                        rw [q] at hrep;rcases hrep with ⟨_,h1⟩|⟨_,_,_,_,h1,_⟩
                        · exact h1
                        · cases h1
                      subst hb0;simp only [JD] at hlim;exact fin hels (onNil hy (by omega) (.inl q))
                    · have hnl : n = bxs.length := by
                        rw [q] at hrep;rcases hrep with ⟨h1,_⟩|⟨_,_,_,_,h1,_⟩
                        · cases h1
                        · cases h1;rfl
                      obtain ⟨c,h1,h2⟩:=onCap hy (by rw [hnl];exact hlim) q hrep
                      exact fin h1 h2
                  | some i =>
                    rw [hτ] at hB2 hws;have hws':ws = .slice (some ⟨i,0,none⟩) bxs.length bxs.length:=hws
                    obtain ⟨hS,k,c,e',fr,h3,h4,h5,h6,h7,h8,h9⟩:=hB2;obtain ⟨h10,h11⟩:=h9 rfl;have h3':m.alive i=some k:=h3
                    have hels0:Els P (vs.S S0 env) m be bxs c:=⟨h7,h8⟩;have hfr:=Jpy (.cells (c++cs) e' fr) h.T.free h3' h10;have hmono:Jex (vs.S S0 env) m (vs.S S0 env) (m.gen i k (.cells (c++cs) e' fr)):=hfr.mono_row h.T.free (fun _ w=>w.elim) (fun i w => .inl w);have hels2:=(hels0.append hels).mono hmono;obtain ⟨k1,k2,k3⟩:=h.useBuf (m1:=m.gen i k (.cells (c++cs) e' fr)) hb rfl (ty:=be) (xs:=bxs++ys) (t:=some m.nxt) (hfr.mono (fun _ w=>w) (fun q w => .inl (by rw [w];exact hτ))) (fun i hi=>by cases hi;exact .inr (Je _)) (by
                      refine ⟨hn, ?_⟩;show (match (env.setτ vs.bf.length (some m.nxt)).τ vs.bf.length with | none=>_ | some i=>_);rw [setτ_new];refine ⟨fun w=>absurd (h.T.slt _ w) (Nat.lt_irrefl _),_,c++cs,e',fr,Jdz _ hf' h3',rfl,h5,rfl,hels2.1,hels2.2,fun _=>⟨rfl, ?_⟩⟩;exact Jy h11 (Nat.le_succ _)) (v := .slice (some ⟨m.nxt,0,none⟩) (bxs.length+ys.length) (bxs.length+ys.length)) (by show _=_;rw [Jz])
                    refine ⟨_,_,_,core hws' ?_,k1,k2,k3⟩;unfold Qr;rw [hsz,hnews];dsimp only;rw [Jd (by omega),Jd (big hlim),h3'];dsimp only;rw [h4];dsimp only;have hcs:c.size=bxs.length*ti.size:=by rw [h7,hsz]
                    rw [←hsz];rw [Jd (by rw [h5,hsz];simp),Jd (by omega),Jd (by rw [h6,hcs];simp),Jf ⟨rfl,rfl,h10,hcs,h11⟩,hf']
            · cases hv
          · cases hv
        · rename_i e0 xs
          intro hs;split at hv
          · rename_i he
            subst he;simp only [Jg,Jm] at hv;obtain ⟨rfl,hv⟩:=hv;obtain ⟨hle,hlim⟩:=Qf (hg _ rfl);obtain ⟨hcE,hor⟩:=hs;have e1:y=(newB hot vs e0 ys).1:=by rw [hv]
            have e2:vs1=(newB hot vs e0 ys).2:=by rw [hv]
            subst e1;subst e2;by_cases hy:ys = []
            · obtain ⟨env1,k1,k2,k3⟩:=h.newBE (hot:=hot) (ty:=e0) (v:=ws) hn hcE
              have hem:=emptyE hcE hy;subst hy;exact ⟨_,_,_,hem,k1,k2,k3⟩
            · obtain ⟨_,env1,k1,k2,k3⟩:=h.newB (hot:=hot) hn hce (newOf cs) hels (fun _=>hy)
              exact ⟨_,_,_,onNil hy hlim hcE,k1,k2,k3⟩
          · cases hv
        · rename_i e0 j
          intro hs;split at hv
          · rename_i own e1 xs0 hj0
            split at hv
            · rename_i xs hc
              obtain ⟨hc1,hc2⟩:=Ja0 hc;subst hc1;subst hc2;split at hv
              · rename_i he
                subst he;simp only [Jg,Jm] at hv;obtain ⟨rfl,hv⟩:=hv;have hlim:=Qf (hg _ rfl);have hj:vs.bx[j]? = some [.r own e0 xs0]:=hj0;have e1:y=(newRunO own { vs with bx:=QC vs.bx j [.g] } e0 (xs0++ys)).1:=by rw [hv]
                have e2:vs1=(newRunO own { vs with bx:=QC vs.bx j [.g] } e0 (xs0++ys)).2:=by rw [hv]
                subst e1;subst e2;obtain ⟨g1,g2⟩:=JcR (e':=e0) h.T hj hs;have hbox:=h.T.bx j _ hj;obtain ⟨⟨hpos,hR⟩,hown⟩:=hbox;have hjl:j<vs.bx.length:=Jx hj;by_cases hxs:xs0 = []
                · subst hxs
                  have hcE:=g1 rfl;by_cases hy:ys = []
                  · have hem:=emptyE hcE hy
                    subst hy;obtain ⟨k1,k2,k3⟩:=h.moveRun (own':=own) (ys := []) (m1:=m) (i:=0) (p:=fun _=>False) hj (Fr2.refl h.T.free) (fun q w=>w.elim) (fun w=>absurd rfl w) ⟨⟨hn,fun w=>absurd rfl w⟩,fun _ w=>absurd rfl w⟩ (v:=ws) ⟨fun _=>hcE,fun w=>absurd rfl w⟩;exact ⟨_,_,_,hem,k1,k2,k3⟩
                  · have hlim' : ys.length < lim := by simpa using hlim
                    have hfr := Ja6 h.T.free (.cells cs e);have hnew : JaA P ((V.newRunO own { vs with bx := QC vs.bx j [.g] } e0 ys).2.cx S0 ((env.setβ vs.bx.length m.nxt).addφ (fun _ => False)) (m.mk1 (.cells cs e))) vs.bx.length false e0 ys := by
                      refine ⟨hn,fun _ => ?_⟩;have hβ:((env.setβ vs.bx.length m.nxt).addφ (fun _=>False)).β vs.bx.length=m.nxt:=J6 _ _ _;show ∃k c' eo fr,(m.mk1 _).alive (((env.setβ vs.bx.length m.nxt).addφ (fun _=>False)).β vs.bx.length)=some k∧_;rw [hβ];refine ⟨_,cs,e,(0,0),Xa _,rfl,rfl,rfl,⟨Nat.le_succ _,fun q=>by cases q⟩,fun _=>hce,hels.1, ?_,⟨_,by show (m.mk1 _).get m.nxt=_;rw [Qp,Jf rfl],rfl⟩,fun q b hb hr => ?_⟩
                      · refine (hels.mono (S' := (V.newRunO own { vs with bx := QC vs.bx j [.g] } e0 ys).2.S S0 ((env.setβ vs.bx.length m.nxt).addφ (fun _ => False))) (m' := m.mk1 (.cells cs e)) (hfr.mono_row h.T.free (fun _ w => w.elim) (fun q w => ?_))).2
                        rcases w with w|⟨t,h1,h3,h2⟩|w
                        · exact .inl (.inl w)
                        · have h1' : t < (QC vs.bx j [Cl.g] ++ [[Cl.r own e0 ys]]).length := h1
                          simp only [Jz,Qc,Ju,JD] at h1';have h3':JM (QC vs.bx j [.g] ++ [[.r own e0 ys]]) t=true:=h3
                          rw [Xi,Qc,Jbn hj] at h3';have h2':(env.setβ vs.bx.length m.nxt).β t=q:=h2
                          by_cases e3:t=vs.bx.length
                          · subst e3;rw [J6] at h2';exact .inr (by show m.nxt≤q;omega)
                          · rw [Jd e3] at h3'
                            rw [Jas _ _ e3] at h2';split at h3'
                            · cases h3'
                            · exact .inl (.inr (.inl ⟨t,by omega,h3',h2'⟩))
                        · exact .inl (.inr (.inr (w.elim id False.elim)))
                      · have hb' : (m.mk1 (.cells cs e)).get q = some b := hb
                        rw [Qp] at hb';split at hb'
                        · rename_i e3;left;rw [e3];exact hβ.symm
                        · have:=h.T.rts.lt h.T.free hb'
                          have hr':b.root=m.nxt:=hr
                          have this':b.root<m.nxt:=this
                          omega
                    have hi:=onNil hy hlim' hcE;obtain ⟨k1,k2,k3⟩:=h.moveRun (own':=own) (ys:=ys) (m1:=m.mk1 (.cells cs e)) (i:=m.nxt) (p:=fun _=>False) hj (hfr.mono (fun _ w=>w.elim) (fun _ w=>w.elim)) (fun q w=>w.elim) (fun _=>⟨Nat.lt_succ_self _,.inr (Je _)⟩) ⟨hnew,fun _ _ w=>by
                      have w':S0 ((env.setβ vs.bx.length m.nxt).β vs.bx.length):=w
                      rw [J6] at w';exact absurd (h.T.slt m.nxt (.inl w')) (Nat.lt_irrefl _)⟩ (v := .slice (some ⟨m.nxt,0,none⟩) ys.length ys.length) ⟨fun w=>absurd w hy,fun _=>rfl⟩
                    exact ⟨_,_,_,hi,k1,k2,k3⟩
                · have hws := g2 hxs
                  obtain ⟨k,c,eo,fr,h3,h4,h5,h6,h7,h8,h9,h10,⟨rb,h11,h12⟩,h13⟩:=hR hxs;have hce2:=h8 rfl;have h3':m.alive (env.β j)=some k:=h3
                  have hβS:vs.S S0 env (env.β j):=h.T.inS j hjl ((JK hj).trans (QG hxs));by_cases hy:ys = []
                  · subst hy
                    have happ : xs0 ++ ([] : List e0.El) = xs0 := List.append_nil _;rw [happ];have hem := core hws (empty (Je _) rfl);rw [← show ws = _ from hws] at hem;have hsub : ∀ q, (V.newRunO own { vs with bx := QC vs.bx j [.g] } e0 xs0).2.S S0 ((env.setβ vs.bx.length (env.β j)).addφ (fun _ => False)) q → vs.S S0 env q := by
                      intro q w;rcases w with w|⟨t,h1,h3,h2⟩|w
                      · exact .inl w
                      · have h1' : t < (QC vs.bx j [Cl.g] ++ [[Cl.r own e0 xs0]]).length := h1
                        simp only [Jz,Qc,Ju,JD] at h1';have h3':JM (QC vs.bx j [.g] ++ [[.r own e0 xs0]]) t=true:=h3
                        rw [Xi,Qc,Jbn hj] at h3';have h2':(env.setβ vs.bx.length (env.β j)).β t=q:=h2
                        by_cases e3:t=vs.bx.length
                        · subst e3;rw [J6] at h2';rw [←h2'];exact hβS
                        · rw [Jd e3] at h3'
                          rw [Jas _ _ e3] at h2';split at h3'
                          · cases h3'
                          · exact .inr (.inl ⟨t,by omega,h3',h2'⟩)
                      · exact .inr (.inr (w.elim id False.elim))
                    have hβn:((env.setβ vs.bx.length (env.β j)).addφ (fun _=>False)).β vs.bx.length=env.β j:=J6 _ _ _;have hnew:JaA P ((V.newRunO own { vs with bx:=QC vs.bx j [.g] } e0 xs0).2.cx S0 ((env.setβ vs.bx.length (env.β j)).addφ (fun _=>False)) m) vs.bx.length false e0 xs0:=
                      JaA.le (X:=vs.cx S0 env m) (Y:=(V.newRunO own { vs with bx:=QC vs.bx j [.g] } e0 xs0).2.cx S0 ((env.setβ vs.bx.length (env.β j)).addφ (fun _=>False)) m) (Wb:=fun _=>False) (Wl:=fun _=>False) h.T.free h.T.rts (Fr2.refl h.T.free) (fun q r hr hS=>⟨hr,fun w=>hS (hsub q w)⟩) (fun q w => .inl w) (fun _=>hβn) ⟨hpos,hR⟩ (fun _ w=>w) (fun _ w=>w)
                    obtain ⟨k1,k2,k3⟩:=h.moveRun (own':=own) (ys:=xs0) (m1:=m) (i:=env.β j) (p:=fun _=>False) hj (Fr2.refl h.T.free) (fun q w=>w.elim) (fun _=>⟨h.T.slt _ hβS,.inl ⟨hxs,rfl,fun w=>w⟩⟩) ⟨hnew,fun o1 o2 w=>hown o1 o2 (by
                      have w':S0 ((env.setβ vs.bx.length (env.β j)).β vs.bx.length):=w
                      rw [J6] at w';exact w')⟩ (v:=ws) ⟨fun w=>absurd w hxs,fun _=>hws⟩
                    exact ⟨_,_,_,hem,k1,k2,k3⟩
                  · have hpos2 : 0 < ys.length := JR.2 hy
                    have hne:xs0++ys ≠ []:=fun w=>hxs (List.append_eq_nil_iff.1 w).1
                    have hels0:Els P (vs.S S0 env) m e0 xs0 c:=⟨h9,h10⟩;have hfr:=Jpy (.cells (c++cs) eo fr) h.T.free h3' h6;have hi:Xh P t xt ws wx m=some (.slice (some ⟨m.nxt,0,none⟩) (xs0++ys).length (xs0++ys).length,m.gen (env.β j) k (.cells (c++cs) eo fr)):=by
                      refine core hws ?_;unfold Qr;rw [hsz,hnews];dsimp only;rw [Jd (by omega),Jd (big hlim),show (vs.cx S0 env m).env.β j=env.β j from rfl,h3'];dsimp only;rw [h4];dsimp only;have hcs:c.size=xs0.length*ti.size:=by rw [h9,hsz]
                      rw [←hsz];rw [Jd (by rw [hce2,hsz];simp),Jd (by omega),Jd (by rw [h5,hcs];simp),Jf ⟨rfl,rfl,h6,hcs,h7.1⟩,hf',Jz]
                    generalize hen:(env.setβ vs.bx.length m.nxt).addφ (fun q=>q=env.β j)=env2;have hβn:env2.β vs.bx.length=m.nxt:=by rw [←hen];exact J6 _ _ _
                    have hφ2 : ∀q,env2.φ q↔env.φ q∨q=env.β j:=fun q=>by rw [←hen];exact Iff.rfl
                    have hβo : ∀t,t≠vs.bx.length→env2.β t=env.β t:=fun t ht=>by rw [←hen];exact Jas _ _ ht
                    have hsub : ∀ q, (V.newRunO own { vs with bx := QC vs.bx j [.g] } e0 (xs0 ++ ys)).2.S S0 env2 q → vs.S S0 env q ∨ m.nxt ≤ q := by
                      intro q w;rcases w with w|⟨t,h1,h3,h2⟩|w
                      · exact .inl (.inl w)
                      · have h1' : t < (QC vs.bx j [Cl.g] ++ [[Cl.r own e0 (xs0 ++ ys)]]).length := h1
                        simp only [Jz,Qc,Ju,JD] at h1';have h3':JM (QC vs.bx j [.g] ++ [[.r own e0 (xs0++ys)]]) t=true:=h3
                        rw [Xi,Qc,Jbn hj] at h3';by_cases e3:t=vs.bx.length
                        · subst e3;rw [hβn] at h2;exact .inr (by show m.nxt≤q;omega)
                        · rw [Jd e3] at h3'
                          rw [hβo t e3] at h2;split at h3'
                          · cases h3'
                          · exact .inl (.inr (.inl ⟨t,by omega,h3',h2⟩))
                      · rcases (hφ2 q).1 w with w | w
                        · exact .inl (.inr (.inr w))
                        · exact .inl (by rw [w];exact hβS)
                    have hmono : Jex (vs.S S0 env) m ((V.newRunO own { vs with bx := QC vs.bx j [.g] } e0 (xs0 ++ ys)).2.S S0 env2) (m.gen (env.β j) k (.cells (c ++ cs) eo fr)) := hfr.mono_row h.T.free (fun _ w => w.elim) hsub;have hels2 := (hels0.append hels).mono hmono;have hnew : JaA P ((V.newRunO own { vs with bx := QC vs.bx j [.g] } e0 (xs0 ++ ys)).2.cx S0 env2 (m.gen (env.β j) k (.cells (c ++ cs) eo fr))) vs.bx.length false e0 (xs0 ++ ys) := by
                      refine ⟨hn,fun _ => ?_⟩;show ∃k' c' eo' fr',(m.gen (env.β j) k (.cells (c++cs) eo fr)).alive (env2.β vs.bx.length)=some k'∧_;rw [hβn];have hkr:k.root≠m.nxt:=by have:k.root<m.nxt:=h.T.rts.lt h.T.free (JO h3');omega
                      refine ⟨_,c++cs,eo,fr,Jdz _ hf' h3',rfl,rfl,rfl,⟨Jy h7.1 (Nat.le_succ _),fun q=>by cases q⟩,fun _=>hce2,hels2.1,hels2.2, ?_,fun q b hb hr => ?_⟩
                      · show ∃ rb, (m.gen (env.β j) k (.cells (c ++ cs) eo fr)).get k.root = some rb ∧ rb.root = k.root
                        rw [Jpx,Jd hkr];split
                        · rename_i e3
                          have h11':m.get k.root=some rb:=h11
                          rw [←e3,JO h3'] at h11';cases h11';exact ⟨_,rfl,rfl⟩
                        · exact ⟨rb,h11,h12⟩
                      · have hb' : (m.gen (env.β j) k (.cells (c ++ cs) eo fr)).get q = some b := hb
                        rw [Jpx] at hb';split at hb'
                        · rename_i e3;left;rw [e3];exact hβn.symm
                        · split at hb'
                          · rename_i e3;cases hb';exact .inr ⟨(hφ2 q).2 (.inr e3.symm),rfl⟩
                          · rename_i e3
                            rcases h13 q b hb' hr with w|⟨w,w2⟩
                            · exact absurd w.symm e3
                            · exact .inr ⟨(hφ2 q).2 (.inl w),w2⟩
                    subst hen;obtain ⟨k1,k2,k3⟩:=h.moveRun (own':=own) (ys:=xs0++ys) (i:=m.nxt) (p:=fun q=>q=env.β j) hj (hfr.mono (fun _ w=>w.elim) (fun q w => .inr ⟨hxs,w⟩)) (fun q w=>⟨hxs,w⟩) (fun _=>⟨Nat.lt_succ_self _,.inr (Je _)⟩) ⟨hnew,fun _ _ w=>by
                      have w':S0 ((env.setβ vs.bx.length m.nxt).β vs.bx.length):=w
                      rw [J6] at w';exact absurd (h.T.slt m.nxt (.inl w')) (Nat.lt_irrefl _)⟩ (v := .slice (some ⟨m.nxt,0,none⟩) (xs0++ys).length (xs0++ys).length) ⟨fun w=>absurd w hne,fun _=>rfl⟩
                    exact ⟨_,_,_,hi,k1,k2,k3⟩
              · cases hv
            · cases hv
          · cases hv
        · rename_i e0 j o n
          intro hs;split at hv
          · rename_i he
            subst he;simp only [Ja] at hv;obtain ⟨xs,hrun,hv⟩:=hv;simp only [Jm] at hv;obtain ⟨rfl,hv⟩:=hv;obtain ⟨hpos,hlim⟩:=Qf (hg _ rfl);have hy:ys ≠ []:=JR.1 hpos;have e1:y=(newB hot vs e0 ((xs.drop o).take n++ys)).1:=by rw [hv]
            have e2:vs1=(newB hot vs e0 ((xs.drop o).take n++ys)).2:=by rw [hv]
            subst e1;subst e2;have hrep:=Jda (c := .w e0 j o n true) (e:=e0) (xs:=(xs.drop o).take n) h.T (by unfold Jfc;dsimp only;rw [Jf rfl,hrun];rfl) hs
            obtain ⟨own,hj⟩:=JaD hrun;have hL:(vs.cx S0 env m).len j=some xs.length:=QN hj;obtain ⟨_,_,hw⟩:=hs;obtain ⟨q1,q2,q3⟩:=hw _ hL;have hne:(xs.drop o).take n++ys ≠ []:=fun w=>hy (List.append_eq_nil_iff.1 w).2
            by_cases hx0:xs.length=0
            · have hcE := q2 hx0
              have hxe:(xs.drop o).take n = []:=by
                rw [JT hx0];simp
              rw [hxe,List.nil_append] at hne ⊢;obtain ⟨_,env1,k1,k2,k3⟩:=h.newB (hot:=hot) hn hce (newOf cs) hels (fun _=>hne);exact ⟨_,_,_,onNil hy (by omega) hcE,k1,k2,k3⟩
            · obtain ⟨sp,cap,hwv,c1,c2,c3⟩:=q3 (by omega)
              obtain ⟨rfl,rfl⟩:=c3 rfl;obtain ⟨c,h1,h2⟩:=onCap hy hlim hwv hrep;obtain ⟨_,env1,k1,k2,k3⟩:=h.newB (hot:=hot) hn hce (newOf c) h1 (fun _=>hne);exact ⟨_,_,_,h2,k1,k2,k3⟩
          · cases hv
        · intro _;cases hv
      · cases hv
    · cases hv
  intro hv;unfold Jj7 at hv;split at hv
  · rename_i e ty q h1 h2
    exact main h1 (.inl ⟨q,h2⟩) hv
  · rename_i e ty h1 h2
    exact main h1 (.inr h2) hv
  · cases hv
end Go.IM.V
namespace Go.IM.V
open Go Go.IM
variable {P:Program} {m m1:M} {S0:Nat→Prop} {env:Env} {a:Act} {vs:VS} {X Y:Cx}
def Jcz (P:Program) (X:Cx) (c:Array Value):List Cl→Nat→Prop
 | [],o=>o=c.size
 | .sg n e xs::cs,o=>(xs.length=n ∧ ∀(k:Nat) (x:e.El),xs[k]? = some x→QR P X.S X.m e x (c.extract (o+k*e.n) (o+k*e.n+e.n)).toList)∧Jcz P X c cs (o+n*e.n)
 | .mt _::cs,o=>Jcz P X c cs o
 | cl::cs,o=>(∃w,c[o]? = some w∧Jap P X cl w)∧Jcz P X c cs (o+1)
theorem Qv {c:Array Value} {cl:Cl} {cs:List Cl} {o:Nat} (h:Qh cl=false):Jcz P X c (cl::cs) o↔(∃w,c[o]? = some w∧Jap P X cl w)∧Jcz P X c cs (o+1):=by
 cases cl <;> first | exact Iff.rfl | cases h
theorem JeO {cl:Cl} (h:Qh cl=false):wid cl=1:=by cases cl <;> first | rfl | cases h
theorem Jb2 {c:Array Value} : ∀{cs:List Cl} {o:Nat},Jcz P X c cs o→o≤c.size:=by
 intro cs;induction cs with
 | nil=>intro o h;exact Nat.le_of_eq h
 | cons cl cs ih=>
  intro o h;cases hs:Qh cl with
  | false=>have:=ih ((Qv hs).1 h).2;omega
  | true=>
   cases cl with
   | sg n e xs=>have:=ih h.2;omega
   | mt ks=>exact ih (show Jcz P X c cs o from h)
   | _=>cases hs
theorem QY {c:Array Value} (i n:Nat):(c.extract i (i+n)).toList=(c.toList.drop i).take n:=by
 rw [Jcw,show i+n - i=n by omega]
theorem Jt2 {c : Array Value} : ∀ {cs : List Cl} {o : Nat}, o ≤ c.size → JeD P X cs (c.toList.drop o) → Jcz P X c cs o := by
 intro cs;induction cs with
 | nil=>
  intro o ho h;have:(c.toList.drop o).length=0:=by rw [show c.toList.drop o = [] from h];rfl
  rw [JI,Jq] at this;show o=c.size;omega
 | cons cl cs ih=>
  intro o ho h;obtain ⟨w1,w2,h1,h2,h3⟩:=h;have hlen:c.size - o=w1.length+w2.length:=by
   have:=congrArg List.length h1
   rw [JI,Jq,Jz] at this;exact this
  have hw2:w2=c.toList.drop (o+w1.length):=by
   rw [←List.drop_drop,h1];simp
  cases hs:Qh cl with
  | false=>
   obtain ⟨w,rfl,h4⟩:=(JaK hs).1 h2;refine (Qv hs).2 ⟨⟨w, ?_,h4⟩,ih (by simp at hlen;omega) (by rw [hw2] at h3;exact h3)⟩
   have:(c.toList.drop o)[0]? = some w:=by rw [h1];rfl
   rw [List.getElem?_drop,Jn] at this;exact this
  | true=>
   cases cl with
   | sg n e xs=>
    obtain ⟨g1,g2,g3⟩:=h2;refine ⟨⟨g2,fun k x hx => ?_⟩,ih (by omega) (by rw [hw2,g1] at h3;exact h3)⟩
    have hk:k<n:=by rw [←g2];exact Jx hx
    have hfit:k*e.n+e.n≤n*e.n:=by rw [←Nat.succ_mul];exact Jw _ hk
    have:=g3 k x hx
    rw [QY,←List.drop_drop,h1,List.drop_append_of_le_length (by omega),List.take_append_of_le_length (by rw [JI];omega)]
    exact this
   | mt ks=>
    obtain rfl:w1 = []:=h2
    exact ih ho (by rw [h1];exact h3)
   | _=>cases hs
theorem Jt1 {c : Array Value} : ∀ {cs : List Cl} {o : Nat}, Jcz P X c cs o → JeD P X cs (c.toList.drop o) := by
 intro cs;induction cs with
 | nil=>intro o h;show c.toList.drop o = [];rw [show o=c.size from h];simp
 | cons cl cs ih=>
  intro o h;cases hs:Qh cl with
  | false=>
   obtain ⟨⟨w,h1,h2⟩,h3⟩:=(Qv hs).1 h;have hlt:=Jb2 h3;refine ⟨[w],c.toList.drop (o+1), ?_,(JaK hs).2 ⟨w,rfl,h2⟩,ih h3⟩;have hl:o<c.toList.length:=by rw [Jq];omega
   rw [List.drop_eq_getElem_cons hl];have:c.toList[o]? = some w:=by rw [Jn];exact h1
   rw [Jj hl] at this;cases this;rfl
  | true=>
   cases cl with
   | sg n e xs=>
    obtain ⟨⟨g2,g3⟩,h3⟩:=h;have hlt:=Jb2 h3;refine ⟨(c.toList.drop o).take (n*e.n),c.toList.drop (o+n*e.n),by rw [←List.drop_drop,List.take_append_drop],⟨by rw [JE,JI,Jq];omega,g2,fun k x hx => ?_⟩,ih h3⟩
    have hk:k<n:=by rw [←g2];exact Jx hx
    have hfit:k*e.n+e.n≤n*e.n:=by rw [←Nat.succ_mul];exact Jw _ hk
    have:=g3 k x hx
    rw [QY] at this;rw [List.drop_take,List.drop_drop,List.take_take,Nat.min_eq_left (by omega)];exact this
   | mt ks=>exact ⟨[],c.toList.drop o,rfl,rfl,ih (show Jcz P X c cs o from h)⟩
   | _=>cases hs
theorem XK {c:Array Value} {cs:List Cl}:JeD P X cs c.toList↔Jcz P X c cs 0:=
 ⟨fun h=>Jt2 (Nat.zero_le _) h,fun h=>by have:=Jt1 h;rwa [List.drop_zero] at this⟩
theorem JpD {c : Array Value} : ∀ {cs r : List Cl} {off o : Nat}, Jr6 cs off = some r → Jcz P X c cs o → Jcz P X c r (o + off) := by
 intro cs;induction cs with
 | nil=>intro r off o h hr;cases off with
  | zero=>cases h;exact hr
  | succ k=>cases h
 | cons cl cs ih =>
  intro r off o h hr;cases off with
  | zero=>cases h;exact hr
  | succ k =>
   simp only [Jr6] at h;cases hb:Nat.ble (wid cl) (k+1) with
   | false=>rw [hb] at h;cases h
   | true=>
    rw [hb] at h;have hle:=JC hb;cases hs:Qh cl with
    | false=>
     rw [JeO hs] at h hle;have:=ih h ((Qv hs).1 hr).2
     rwa [show o+1+(k+1 - 1)=o+(k+1) by omega] at this
    | true=>
     cases cl with
     | sg n e xs=>
      have hw:wid (.sg n e xs)=n*e.n:=rfl;rw [hw] at h hle;have:=ih h hr.2
      rwa [show o+n*e.n+(k+1 - n*e.n)=o+(k+1) by omega] at this
     | mt ks=>exact ih (off:=k+1) h hr
     | _=>cases hs
theorem JrV {c:Array Value} : ∀{n:Nat} {r:List Cl} {o:Nat},Jcz P X c r o→n≤r.length→(r.take n).any Qh=false→o+n≤c.size∧Qa P X (r.take n) (c.extract o (o+n)).toList:=by
 intro n;induction n with
 | zero=>intro r o h _ _;exact ⟨Jb2 h,by rw [QY];trivial⟩
 | succ n ih=>
  intro r o h hl hs;cases r with
  | nil=>simp at hl
  | cons cl r=>
   rw [List.take_succ_cons,List.any_cons,JP] at hs;obtain ⟨⟨w,h1,h2⟩,h3⟩:=(Qv hs.1).1 h;obtain ⟨g1,g2⟩:=ih h3 (by simpa using hl) hs.2;refine ⟨by omega, ?_⟩;have hlo:o<c.toList.length:=by rw [Jq];omega
   rw [QY,List.drop_eq_getElem_cons hlo,List.take_succ_cons,List.take_succ_cons];refine ⟨?_,by rw [QY] at g2;exact g2⟩
   have:c.toList[o]? = some w:=by rw [Jn];exact h1
   rw [Jj hlo] at this;cases this;exact h2
theorem Jja {e:Ty} {n o:Nat} {xs:List e.El} {c:Array Value} (hlen:xs.length=n) (hfit:o+n*e.n≤c.size) (hel : ∀(k:Nat) (x:e.El),xs[k]? = some x→QR P X.S X.m e x (c.extract (o+k*e.n) (o+k*e.n+e.n)).toList) :
  ∀(k:Nat),k≤n→Qa P X (JrX xs k) (c.extract o (o+k*e.n)).toList:=by
 intro k;induction k with
 | zero=>intro _;rw [QY,Nat.zero_mul];trivial
 | succ k ih=>
  intro hk;have h1:=ih (by omega);have hget:xs[k]? = some (xs.getD k e.dflt):=by
   rw [Jo,Jj (by omega)];rfl
  have h2:=Ja7 (hel k _ hget);have hs:(c.extract o (o+(k+1)*e.n)).toList=(c.extract o (o+k*e.n)).toList++(c.extract (o+k*e.n) (o+k*e.n+e.n)).toList:=by
   rw [QY,QY,QY,Nat.succ_mul,List.take_add,List.drop_drop]
  rw [hs];exact XF h1 h2
theorem Jg6 (h:Rel P S0 env m a vs) {t:TypeId} {x ix:Sl} {w wi:Value} (hx:J8 P (vs.cx S0 env m) x w) (hix:J8 P (vs.cx S0 env m) ix wi) {g:Option Bool} {y:Sl} {vs1:VS} (hv:Jj0 P t x ix vs=some (g,y,vs1)) (hg:Jbt g) :
  vs1=vs ∧ ∃v,Jft P t w wi=some v∧J8 P (vs.cx S0 env m) y v:=by
 unfold Jj0 at hv;split at hv
 ·rename_i n e cs k hu h3;split at hv
  ·rename_i ti hti;simp only [Ja,Jm] at hv;obtain ⟨y',h1,rfl,rfl,rfl⟩:=hv;have hgt:k<n:=Qf (hg _ rfl);obtain ⟨kd,rfl⟩:=X7 h3 hix;obtain ⟨b,rfl,hr⟩:=hx;obtain ⟨v,h4,h5⟩:=Jdp h1 hr;refine ⟨rfl,v, ?_,h5⟩;unfold Jft;rw [hu];dsimp only;rw [hti];dsimp only;rw [Jf ⟨Int.natCast_nonneg k,Int.ofNat_lt.2 hgt⟩]
   exact h4
  ·cases hv
 ·cases hv
theorem Ji9 {c : Array Value} : ∀ {r : List Cl} {o : Nat}, Jcz P X c r o → o + Jih r = c.size ∧ Qa P X (JkX r) (c.extract o (o + Jih r)).toList := by
 intro r;induction r with
 | nil=>intro o h;exact ⟨h,by rw [QY];trivial⟩
 | cons cl r ih =>
  intro o h;cases hs:Qh cl with
  | false=>
   obtain ⟨⟨w,h1,h2⟩,h3⟩:=(Qv hs).1 h;obtain ⟨g1,g2⟩:=ih h3;have hw:Jih (cl::r)=1+Jih r:=by show wid cl+Jih r=_;rw [JeO hs]
   have hf:JkX (cl::r)=cl::JkX r:=by cases cl <;> first | rfl | cases hs
   refine ⟨by omega, ?_⟩;rw [hw,hf];have hlo:o<c.toList.length:=by rw [Jq];omega
   rw [QY,List.drop_eq_getElem_cons hlo,Nat.add_comm 1,List.take_succ_cons];refine ⟨?_,by rw [QY] at g2;exact g2⟩
   have:c.toList[o]? = some w:=by rw [Jn];exact h1
   rw [Jj hlo] at this;cases this;exact h2
  | true=>
   cases cl with
   | sg n e xs=>
    obtain ⟨⟨k1,k2⟩,k3⟩:=h;obtain ⟨g1,g2⟩:=ih k3;have hw:Jih (.sg n e xs::r)=n*e.n+Jih r:=rfl;refine ⟨by omega, ?_⟩;rw [hw];have hle:=Jb2 k3;have f1:=Jja (P:=P) (X:=X) k1 hle k2 n (Je _);have hsp:(c.extract o (o+(n*e.n+Jih r))).toList=(c.extract o (o+n*e.n)).toList++(c.extract (o+n*e.n) (o+n*e.n+Jih r)).toList:=by
     rw [QY,QY,QY,List.take_add,List.drop_drop]
    rw [hsp];exact XF f1 g2
   | mt ks=>
    obtain ⟨g1,g2⟩:=ih (show Jcz P X c r o from h);have hw:Jih (.mt ks::r)=Jih r:=by show 0+Jih r=_;omega
    rw [hw];exact ⟨g1,g2⟩
   | _=>cases hs
theorem JkI {t : TypeId} {cs : List Cl} {off i : Nat} {c : Array Value} {e : TypeId} {y : Sl} (hy : Juf P t cs off = some y) (hrow : X.m.row i = some (c, e)) (hr : Jcz P X c cs 0) :
  ∃v,Ja5 P t (.pointer (some ⟨i,off,none⟩)) X.m=some v∧J8 P X y v:=by
 unfold Juf at hy;split at hy
 ·cases hy
 ·rename_i r hd;have hI := JpD hd hr;rw [JG] at hI;unfold Ja5;dsimp only;split at hy
  ·rename_i ti h1 h2;rw [h1, h2];dsimp only;split at hy
   ·rename_i e0 n xs hw;split at hy
    ·rename_i hsz;cases hy;cases r with
     | nil=>cases hw
     | cons cl r=>
      cases cl <;> first | cases hw | skip
      obtain ⟨⟨k1,k2⟩,k3⟩:=hI;have hle:=Jb2 k3;unfold M.cells;rw [hrow];dsimp only;rw [Jf (by rw [hsz];exact hle)]
      refine ⟨_,rfl,_,rfl, ?_⟩;rw [hsz];exact Jja k1 hle k2 n (Je _)
    ·cases hy
   ·split at hy
    ·rename_i hc;cases hy;obtain ⟨g1,g2⟩:=JrV hI hc.1 hc.2;unfold M.cells;rw [hrow];dsimp only;rw [Jf g1];exact ⟨_,rfl,_,rfl,g2⟩
    ·split at hy
     ·rename_i hsz;cases hy;obtain ⟨g1,g2⟩:=Ji9 hI;unfold M.cells;rw [hrow];dsimp only;rw [Jf (by rw [hsz];omega)]
      exact ⟨_,rfl,_,rfl,by rw [hsz];exact g2⟩
     ·cases hy
  ·rename_i ti h1 h2;rw [h1,h2];dsimp only;split at hy
   ·rename_i cl r';cases hs:Qh cl with
    | true=>rw [hs] at hy;cases hy
    | false=>
     rw [hs] at hy;cases hy;obtain ⟨⟨w,g1,g2⟩,_⟩:=(Qv hs).1 hI;unfold M.cell;rw [hrow];exact ⟨w,g1,g2⟩
   ·cases hy
  ·cases hy
theorem Jgg {c c2 : Array Value} (hsz : c2.size = c.size) : ∀ {cs : List Cl} {o : Nat}, (∀ k, o ≤ k → c2[k]? = c[k]?) → Jcz P X c cs o → Jcz P X c2 cs o := by
 intro cs;induction cs with
 | nil=>intro o _ h;exact Eq.trans h hsz.symm
 | cons cl cs ih =>
  intro o hk h;cases hs:Qh cl with
  | false=>
   obtain ⟨⟨w,h1,h2⟩,h3⟩:=(Qv hs).1 h;exact (Qv hs).2 ⟨⟨w,by rw [hk o (Je _)];exact h1,h2⟩,ih (fun k q=>hk k (by omega)) h3⟩
  | true=>
   cases cl with
   | sg n e xs=>
    refine ⟨⟨h.1.1,fun k x hx => ?_⟩,ih (fun k q=>hk k (by omega)) h.2⟩;have:=h.1.2 k x hx
    have he:c2.extract (o+k*e.n) (o+k*e.n+e.n)=c.extract (o+k*e.n) (o+k*e.n+e.n):=by
     apply Array.ext'
     apply List.ext_getElem?
     intro q;rw [Jn,Jn,JA,JA,hsz];split
     ·exact hk _ (by omega)
     ·rfl
    rw [he];exact this
   | mt ks=>exact ih hk (show Jcz P X c cs o from h)
   | _=>cases hs
theorem JeX {c : Array Value} : ∀ {cs : List Cl} {off o : Nat} {e : Ty} {n : Nat} {xs : List e.El} {oo : Nat}, Jcz P X c cs o → JeY cs off = some ⟨e, n, xs, oo⟩ →
  ∃s,o+off=s+oo∧o≤s∧oo<e.n∧0<n∧xs.length=n∧s+n*e.n≤c.size∧(∀(k:Nat) (x:e.El),xs[k]? = some x→QR P X.S X.m e x (c.extract (s+k*e.n) (s+k*e.n+e.n)).toList) ∧
   ∀(c2:Array Value) (ys:List e.El),c2.size=c.size→(∀k,k<s∨s+n*e.n≤k→c2[k]? = c[k]?)→ys.length=n →
    (∀(k:Nat) (x:e.El),ys[k]? = some x→QR P X.S X.m e x (c2.extract (s+k*e.n) (s+k*e.n+e.n)).toList)→Jcz P X c2 (JaN e ys cs off) o:=by
 intro cs;induction cs with
 | nil=>intro off o e n xs oo _ h;cases h
 | cons cl cs ih =>
  intro off o e n xs oo hr h;cases hs:Qh cl with
  | true =>
   cases cl with
   | sg n' e' xs' =>
    simp only [JeY] at h;cases hb:(Nat.blt off e'.n && Nat.blt 0 n') with
    | true=>
     rw [hb] at h;cases h;rw [Jh] at hb;have h1:off<e.n:=by exact JC hb.1
     have h2:0<n:=by exact JC hb.2
     refine ⟨o,rfl,Je _,h1,h2,hr.1.1,Jb2 hr.2,hr.1.2,fun c2 ys hsz hk hl hy => ?_⟩;simp only [JaN];rw [show (Nat.blt off e.n && Nat.blt 0 n)=true by rw [Jh];exact hb]
     exact ⟨⟨hl,hy⟩,Jgg hsz (fun k q=>hk k (.inr q)) hr.2⟩
    | false=>
     rw [hb] at h;simp only [Jl] at h;cases hb2:Nat.ble (n'*e'.n) off with
     | false=>rw [hb2] at h;cases h
     | true=>
      rw [hb2] at h;have hle:=JC hb2;obtain ⟨s,g1,g2,g3,g4,g5,g6,g7,g8⟩:=ih hr.2 h;refine ⟨s,by omega,by omega,g3,g4,g5,g6,g7,fun c2 ys hsz hk hl hy => ?_⟩;simp only [JaN];rw [hb];refine ⟨⟨hr.1.1,fun k x hx => ?_⟩,g8 c2 ys hsz hk hl hy⟩;have:=hr.1.2 k x hx
      have hkn:k<n':=by rw [←hr.1.1];exact Jx hx
      have hfit:k*e'.n+e'.n≤n'*e'.n:=by rw [←Nat.succ_mul];exact Jw _ hkn
      have he:c2.extract (o+k*e'.n) (o+k*e'.n+e'.n)=c.extract (o+k*e'.n) (o+k*e'.n+e'.n):=by
       apply Array.ext'
       apply List.ext_getElem?
       intro q;rw [Jn,Jn,JA,JA,hsz];split
       ·exact hk _ (by omega)
       ·rfl
      rw [he];exact this
   | mt ks=>cases off <;> cases h
   | _=>cases hs
  | false=>
   obtain ⟨⟨w,h1,h2⟩,h3⟩:=(Qv hs).1 hr;cases off with
   | zero=>cases cl <;> first | cases h | cases hs
   | succ k=>
    have h':JeY cs k=some ⟨e,n,xs,oo⟩:=by cases cl <;> first | exact h | cases hs
    obtain ⟨s,g1,g2,g3,g4,g5,g6,g7,g8⟩:=ih h3 h';refine ⟨s,by omega,by omega,g3,g4,g5,g6,g7,fun c2 ys hsz hk hl hy => ?_⟩;have he:JaN e ys (cl::cs) (k+1)=cl::JaN e ys cs k:=by cases cl <;> first | rfl | cases hs
    rw [he];exact (Qv hs).2 ⟨⟨w,by rw [hk o (.inl (by omega))];exact h1,h2⟩,g8 c2 ys hsz hk hl hy⟩
theorem JiN {e : Ty} {ys : List e.El} : ∀ {cs : List Cl} {off : Nat} {n : Nat} {xs : List e.El} {oo : Nat}, JeY cs off = some ⟨e, n, xs, oo⟩ → (JaN e ys cs off).any Qh = true := by
 intro cs;induction cs with
 | nil=>intro off n xs oo h;cases h
 | cons cl cs ih=>
  intro off n xs oo h;cases hs:Qh cl with
  | true=>
   cases cl with
   | sg n' e' xs'=>
    simp only [JaN];cases (Nat.blt off e'.n && Nat.blt 0 n') <;> rfl
   | mt ks=>cases off <;> cases h
   | _=>cases hs
  | false=>
   cases off with
   | zero=>cases cl <;> first | cases h | cases hs
   | succ k=>
    have h':JeY cs k=some ⟨e,n,xs,oo⟩:=by cases cl <;> first | exact h | cases hs
    have he:JaN e ys (cl::cs) (k+1)=cl::JaN e ys cs k:=by cases cl <;> first | rfl | cases hs
    rw [he,List.any_cons,ih h',Bool.or_true]
theorem JiR {c : Array Value} : ∀ {ns cs r : List Cl} {o : Nat} {ws : List Value} {c2 : Array Value}, Jf1 cs ns = some r → Jcz P X c cs o → Qa P X ns ws → c2.size = c.size → (∀ k w, ws[k]? = some w → c2[o + k]? = some w) → (∀ k, o + ws.length ≤ k → c2[k]? = c[k]?) → o + ws.length ≤ c.size ∧ Jcz P X c2 r o := by
 intro ns;induction ns with
 | nil=>
  intro cs r o ws c2 h hr hn hsz h1 h2;cases ws with
  | nil=>
   have:r=cs:=by cases cs <;> (cases h;rfl)
   subst this;exact ⟨Jb2 hr,Jgg hsz (fun k q=>h2 k q) hr⟩
  | cons=>exact hn.elim
 | cons cn ns ih =>
  intro cs r o ws c2 h hr hn hsz h1 h2;cases ws with
  | nil=>exact hn.elim
  | cons w ws =>
   cases cs with
   | nil=>cases h
   | cons cl cs=>
    simp only [Jf1] at h;cases hs:Qh cl with
    | true=>rw [hs] at h;cases h
    | false=>
     rw [hs] at h;simp only [Jl,Ja] at h;obtain ⟨r',h3,rfl⟩:=h;obtain ⟨g1,g2⟩:=ih (c2:=c2) (o:=o+1) h3 ((Qv hs).1 hr).2 hn.2 hsz (fun k u hu=>by have:=h1 (k+1) u (by simpa using hu);rwa [show o+(k+1)=o+1+k by omega] at this) (fun k q=>h2 k (by simp only [Ju];omega))
     have hcn:Qh cn=false:=by
      have:=Jbi (cs := [cn]) (us := [w]) (P:=P) (X:=X) ⟨hn.1,trivial⟩
      rw [List.any_cons,JP] at this;exact this.1
     refine ⟨by simp only [Ju];omega,(Qv hcn).2 ⟨⟨w,by have:=h1 0 w rfl;rwa [Nat.add_zero] at this,hn.1⟩,g2⟩⟩
theorem Jrr {c : Array Value} {ns : List Cl} : ∀ {cs r : List Cl} {off o : Nat} {ws : List Value} {c2 : Array Value}, JiW ns cs off = some r → Jcz P X c cs o → Qa P X ns ws → c2.size = c.size → (∀ k w, ws[k]? = some w → c2[o + off + k]? = some w) → (∀ k, k < o + off ∨ o + off + ws.length ≤ k → c2[k]? = c[k]?) → o + off + ws.length ≤ c.size ∧ Jcz P X c2 r o := by
 intro cs;induction cs with
 | nil=>
  intro r off o ws c2 h hr hn hsz h1 h2;cases off with
  | zero=>exact JiR (by simpa only [JiW] using h) hr hn hsz h1 (fun k q=>h2 k (.inr q))
  | succ k=>cases h
 | cons cl cs ih =>
  intro r off o ws c2 h hr hn hsz h1 h2;cases off with
  | zero=>exact JiR (by simpa only [JiW] using h) hr hn hsz h1 (fun k q=>h2 k (.inr q))
  | succ k =>
   simp only [JiW] at h;cases hb:Nat.ble (wid cl) (k+1) with
   | false=>rw [hb] at h;cases h
   | true =>
    rw [hb] at h;simp only [Jk,Ja] at h;obtain ⟨r',h3,rfl⟩:=h;have hle:=JC hb;cases hs:Qh cl with
    | false=>
     rw [JeO hs] at h3 hle;obtain ⟨⟨w,q1,q2⟩,q3⟩:=(Qv hs).1 hr;have e1:o+1+(k+1 - 1)=o+(k+1):=by omega
     obtain ⟨g1,g2⟩:=ih (c2:=c2) h3 q3 hn hsz (fun i u hu=>by rw [e1];exact h1 i u hu) (fun i q=>h2 i (by rw [e1] at q;exact q))
     rw [e1] at g1;exact ⟨g1,(Qv hs).2 ⟨⟨w,by rw [h2 o (.inl (by omega))];exact q1,q2⟩,g2⟩⟩
    | true=>
     cases cl with
     | sg n e xs=>
      have hw:wid (.sg n e xs)=n*e.n:=rfl;rw [hw] at h3 hle;have e1:o+n*e.n+(k+1 - n*e.n)=o+(k+1):=by omega
      obtain ⟨g1,g2⟩:=ih (c2:=c2) h3 hr.2 hn hsz (fun i u hu=>by rw [e1];exact h1 i u hu) (fun i q=>h2 i (by rw [e1] at q;exact q))
      rw [e1] at g1;refine ⟨g1,⟨hr.1.1,fun i x hx => ?_⟩,g2⟩;have:=hr.1.2 i x hx
      have hkn:i<n:=by rw [←hr.1.1];exact Jx hx
      have hfit:i*e.n+e.n≤n*e.n:=by rw [←Nat.succ_mul];exact Jw _ hkn
      have he:c2.extract (o+i*e.n) (o+i*e.n+e.n)=c.extract (o+i*e.n) (o+i*e.n+e.n):=by
       apply Array.ext'
       apply List.ext_getElem?
       intro q;rw [Jn,Jn,JA,JA,hsz];split
       ·exact h2 _ (.inl (by omega))
       ·rfl
      rw [he];exact this
     | mt ks=>
      obtain ⟨g1,g2⟩:=ih (c2:=c2) h3 (show Jcz P X c cs o from hr) hn hsz h1 h2;exact ⟨g1,g2⟩
     | _=>cases hs
theorem JlH : ∀ {ns cs r : List Cl}, Jf1 cs ns = some r → ns.any Qh = false → r.any Qh = cs.any Qh := by
 intro ns;induction ns with
 | nil=>
  intro cs r h _;have:r=cs:=by cases cs <;> (cases h;rfl)
  rw [this]
 | cons cn ns ih=>
  intro cs r h hn;cases cs with
  | nil=>cases h
  | cons cl cs=>
   simp only [Jf1] at h;cases hs:Qh cl with
   | true=>rw [hs] at h;cases h
   | false=>
    rw [hs] at h;simp only [Jl,Ja] at h;obtain ⟨r',h3,rfl⟩:=h;rw [List.any_cons,JP] at hn;rw [List.any_cons,List.any_cons,ih h3 hn.2,hs,hn.1]
theorem Juk {ns : List Cl} (hn : ns.any Qh = false) : ∀ {cs r : List Cl} {off : Nat}, JiW ns cs off = some r → r.any Qh = cs.any Qh := by
 intro cs;induction cs with
 | nil=>intro r off h;cases off with
  | zero=>exact JlH (by simpa only [JiW] using h) hn
  | succ k=>cases h
 | cons cl cs ih=>
  intro r off h;cases off with
  | zero=>exact JlH (by simpa only [JiW] using h) hn
  | succ k=>
   simp only [JiW] at h;cases hb:Nat.ble (wid cl) (k+1) with
   | false=>rw [hb] at h;cases h
   | true=>
    rw [hb] at h;simp only [Jk,Ja] at h;obtain ⟨r',h3,rfl⟩:=h;rw [List.any_cons,List.any_cons,ih h3]
theorem Jgh {e:Ty} {ys:List e.El} {cs:List Cl} {off:Nat}:Jcn (JaN e ys cs off)=Jcn cs:=by
 cases cs with
 | nil=>rfl
 | cons c cs=>
  cases c with
  | sg n e' xs=>
   simp only [JaN];cases (Nat.blt off e'.n && Nat.blt 0 n) <;> rfl
  | _=>cases off <;> rfl
theorem JoS {ns cs r : List Cl} (h : Jf1 cs ns = some r) (hn : ns.any Qh = false) (ht : Jcn cs = none) : Jcn r = none := by
 cases ns with
 | nil=>
  have:r=cs:=by cases cs <;> (cases h;rfl)
  rw [this];exact ht
 | cons cn ns=>
  cases cs with
  | nil=>cases h
  | cons cl cs=>
   simp only [Jf1] at h;cases hs:Qh cl with
   | true=>rw [hs] at h;cases h
   | false=>
    rw [hs] at h;simp only [Jl,Ja] at h;obtain ⟨r',h3,rfl⟩:=h;rw [List.any_cons,JP] at hn;exact JaJ hn.1
theorem Jrq {ns : List Cl} (hn : ns.any Qh = false) {cs r : List Cl} {off : Nat} (h : JiW ns cs off = some r) (ht : Jcn cs = none) : Jcn r = none := by
 cases off with
 | zero=>exact JoS (by cases cs <;> simpa only [JiW] using h) hn ht
 | succ k=>
  cases cs with
  | nil=>cases h
  | cons cl cs=>
   simp only [JiW] at h;cases hb:Nat.ble (wid cl) (k+1) with
   | false=>rw [hb] at h;cases h
   | true=>
    rw [hb] at h;simp only [Jk,Ja] at h;obtain ⟨r',h3,rfl⟩:=h;cases cl <;> first | rfl | cases ht
theorem Jfm {x:Sl} (h:Jf2 vs x=true):QS x=true:=by
 unfold Jf2 at h;split at h
 ·rfl
 ·rfl
 ·cases h
theorem Jbg {bx:List (List Cl)} {j:Nat} {cs:List Cl} (h:JqI bx j=some cs):bx[j]? = some cs∧cs.any Qh=true∧Jcn cs=none:=by
 unfold JqI at h;split at h
 ·rename_i cs' hj;cases hs:(cs'.any Qh && (Jcn cs').isNone) with
  | false=>rw [hs] at h;cases h
  | true=>
   rw [hs] at h;cases h;rw [Jh,Option.isNone_iff_eq_none] at hs;exact ⟨hj,hs.1,hs.2⟩
 ·cases h
theorem Jip (h : Rel P S0 env m a vs) {t : TypeId} {x : Sl} {w : Value} (hx : J8 P (vs.cx S0 env m) x w) {g : Option Bool} {y : Sl} {vs1 : VS} (hv : Jog P t x vs = some (g, y, vs1)) (hg : Jbt g) :
  vs1=vs ∧ ∃v,Ja5 P t w m=some v∧J8 P (vs.cx S0 env m) y v:=by
 unfold Jog at hv;split at hv
 ·rename_i j off;split at hv
  ·rename_i cs hj;obtain ⟨hj,hs,htg⟩:=Jbg hj;simp only [Ja] at hv;obtain ⟨y',h1,h2⟩:=hv;cases h2;obtain ⟨_,i,rfl,_,hib⟩:=hx;obtain rfl:=hib (Ja9 h hj (Q2 hs).1)
   obtain ⟨k,c,e,fr,g1,g2,_,_,_,g6⟩:=((h.T.bx j cs hj).sg hs).cells htg;obtain ⟨v,h3,h4⟩:=JkI (X:=vs.cx S0 env m) (c:=c) (e:=e) h1 (JcE g1 g2) (XK.1 g6);exact ⟨rfl,v,h3,h4⟩
  ·cases hv
 ·rename_i e j i off;split at hv
  ·rename_i cs hj;obtain ⟨hj, hs, htg⟩ := Jbg hj;split at hv
   ·rename_i e' n xs o hsg;split at hv
    ·rename_i xs' hcast;obtain ⟨rfl,rfl⟩:=Ja0 hcast;simp only [Ja] at hv;obtain ⟨y',h1,h2⟩:=hv;cases h2;have hlt:i.toNat<n:=Qf (hg _ rfl);obtain ⟨_,kb,rfl,_,hib⟩:=hx;obtain rfl:=hib (Ja9 h hj (Q2 hs).1)
     obtain ⟨k,c,eo,fr,g1,g2,_,_,_,g6⟩:=((h.T.bx j cs hj).sg hs).cells htg;obtain ⟨s,k1,_,k3,_,k5,k6,k7,_⟩:=JeX (XK.1 g6) hsg;rw [JG] at k1;have hget:xs[i.toNat]? = some (xs.getD i.toNat e'.dflt):=by
      rw [Jo,Jj (by rw [k5];exact hlt)];rfl
     have hr:=k7 _ _ hget;have hexp:=Ja7 hr;have hl:=Qe hexp;have hl2:=JaW hr;have hfit:i.toNat*e'.n+e'.n≤n*e'.n:=by rw [←Nat.succ_mul];exact Jw _ hlt
     obtain ⟨v,h3,h4⟩:=Jaw (X:=vs.cx S0 env m) (o:=s+i.toNat*e'.n) (c:=c) (e:=eo) h1 (JcE g1 g2) (by omega) (by rw [hl,hl2];exact hexp)
     rw [show i.toNat*e'.n+off=s+i.toNat*e'.n+o by omega];exact ⟨rfl,v,h3,h4⟩
    ·cases hv
   ·cases hv
  ·cases hv
 ·cases hv
theorem Jg7 (h : Rel P S0 env m a vs) {t : TypeId} {x ix : Sl} {w wi : Value} (hx : J8 P (vs.cx S0 env m) x w) (hix : J8 P (vs.cx S0 env m) ix wi) {g : Option Bool} {y : Sl} {vs1 : VS} (hv : Jj1 P t x ix vs = some (g, y, vs1)) (hg : Jbt g) :
  vs1=vs ∧ ∃v,Ql P t w wi=some v∧J8 P (vs.cx S0 env m) y v:=by
 unfold Jj1 at hv;split at hv
 ·rename_i j off;split at hv
  ·rename_i len e ty cs h1 hj;obtain ⟨hj,hs,htg⟩:=Jbg hj;obtain ⟨hu,hn,ti,hti,hsz⟩:=JgC h1;split at hv
   ·rename_i k e' n xs h3 hsg;split at hv
    ·rename_i he;obtain ⟨rfl,rfl⟩:=he;cases hv;have hgt:=Qf (hg _ rfl);obtain ⟨kd,rfl⟩:=X7 h3 hix;obtain ⟨hjl,kb,rfl,hkb,hib⟩:=hx;refine ⟨rfl,.pointer (some ⟨kb,off+k.toNat*ti.size,none⟩), ?_,hjl,kb, ?_,hkb,hib⟩
     ·unfold Ql;rw [hu];dsimp only;rw [hti];dsimp only;rw [Jf hgt]
     ·rw [hsz,Nat.add_comm]
    ·cases hv
   ·cases hv
  ·unfold Joi at hv;split at hv
   ·rename_i n e k hu h3;split at hv
    ·rename_i ti hti;cases hv;have hgt:=Qf (hg _ rfl);obtain ⟨kd,rfl⟩:=X7 h3 hix;obtain ⟨hjl,kb,rfl,hkb,hib⟩:=hx;refine ⟨rfl,.pointer (some ⟨kb,off+k*ti.size,none⟩), ?_,hjl,kb,rfl,hkb,hib⟩;unfold Ql;rw [hu];dsimp only;rw [hti];dsimp only;rw [Jf ⟨Int.natCast_nonneg k,Int.ofNat_lt.2 hgt⟩];rfl
    ·cases hv
   ·cases hv
  ·cases hv
 ·cases hv
theorem Rel.newBoxG (h : Rel P S0 env m a vs) {cs : List Cl} (hsg : cs.any Qh = true) (htg : Jcn cs = none) {c : Array Value} {e : TypeId} {ad : Addr} (hm : m.new c e = some (ad, m1)) (hx : JeD P (vs.cx S0 env m) cs c.toList) :
  Rel P S0 (env.setβ vs.bx.length m.nxt) m1 a (V.newBox vs cs).2∧Stp (vs.cx S0 env m) ((V.newBox vs cs).2.cx S0 (env.setβ vs.bx.length m.nxt) m1) ∧
   J8 P ((V.newBox vs cs).2.cx S0 (env.setβ vs.bx.length m.nxt) m1) (V.newBox vs cs).1 (.pointer (some ad)):=by
 obtain ⟨_,rfl,hf,rfl⟩:=JaP hm;have hT:=h.T;have hfr:=Ja6 hT.free (.cells c e);have hβ : ∀j,j<vs.bx.length→(env.setβ vs.bx.length m.nxt).β j=env.β j:=fun j hj=>Jas _ _ (by omega)
 have hnb:(V.newBox vs cs).2.bx.length=vs.bx.length+1:=by show (vs.bx ++ [cs]).length=_;simp
 have hho : ∀j,j<vs.bx.length→JM (V.newBox vs cs).2.bx j=JM vs.bx j:=fun j hj=>by show JM (vs.bx ++ [cs]) j=_;rw [Xi,Jd (by omega)]
 have hlo : ∀j,j<vs.bx.length→lenOf (V.newBox vs cs).2.bx j=lenOf vs.bx j:=fun j hj=>by show lenOf (vs.bx ++ [cs]) j=_;rw [XM,Jd (by omega)]
 have hle:Jac (vs.cx S0 env m) ((V.newBox vs cs).2.cx S0 (env.setβ vs.bx.length m.nxt) (m.mk1 (.cells c e))):=by
  refine ⟨hfr.mono_row hT.free (fun _ w=>w.elim) (fun q w => ?_),by show vs.bx.length≤(V.newBox vs cs).2.bx.length;omega,hβ,fun j b hb=>⟨b.live,hb,rfl⟩,
   fun j hj q=>(hho j hj).symm.trans q,fun j L hj q=>(hlo j hj).symm.trans q,fun _ q=>q,fun _ q=>q,hfr.nxt,hfr.ty⟩
  rcases w with w|⟨j,h1,h3,h2⟩|w
  ·exact .inl (.inl w)
  ·rw [hnb] at h1;rcases JB j vs.bx.length with hj | hj
   ·exact .inl (.inr (.inl ⟨j,hj,by rw [←hho j hj];exact h3,by rw [←hβ j hj];exact h2⟩))
   ·obtain rfl:j=vs.bx.length:=by omega
    rw [J6] at h2;exact .inr (by show m.nxt≤q;omega)
  ·exact .inl (.inr (.inr w))
 obtain ⟨h1,h2⟩:=h.addBox (cs:=cs) (i:=m.nxt) hfr (fun _=>⟨Je _,Nat.lt_succ_self _⟩) (Qy.ofSg hsg (by
  refine JbP.ofCells htg ⟨_,c,e,(0,0),by show (m.mk1 _).alive ((env.setβ vs.bx.length m.nxt).β vs.bx.length)=_;rw [J6];exact Xa _,rfl,rfl,rfl,by show m.nxt=(env.setβ vs.bx.length m.nxt).β vs.bx.length;rw [J6],hx.le hle⟩))
 refine ⟨h1,h2,by show vs.bx.length<(V.newBox vs cs).2.bx.length;omega,m.nxt,rfl,Nat.lt_succ_self _,fun _ => ?_⟩
 show m.nxt=(env.setβ vs.bx.length m.nxt).β vs.bx.length;rw [J6]
theorem Rel.storeG (h:Rel P S0 env m a vs) {j:Nat} {cs ns:List Cl} (hj:vs.bx[j]? = some cs) (hsg:cs.any Qh=true) {k:Blk} {e:TypeId} {c c2:Array Value} {fr:Nat × Nat} (hal:m.alive (env.β j)=some k) (hob:k.obj = .cells c e fr)
  (htg:Jcn cs=none) (hns:ns.any Qh=true) (htn:Jcn ns=none) (hn:JeD P (vs.cx S0 env m) ns c2.toList) :
  Rel P S0 env (m.set (env.β j) { k with obj := .cells c2 e fr }) a { vs with bx:=QC vs.bx j ns }∧Stp (vs.cx S0 env m) (({ vs with bx:=QC vs.bx j ns }:VS).cx S0 env (m.set (env.β j) { k with obj := .cells c2 e fr })):=by
 have hT:=h.T;obtain ⟨k',c',e',fr',g1,g2,g3,g4,g5,g7⟩:=((hT.bx j cs hj).sg hsg).cells htg;have g1':m.alive (env.β j)=some k':=g1
 rw [hal] at g1';cases g1';rw [hob] at g2;cases g2;obtain ⟨hfr,hal2⟩:=JhT (.cells c2 e fr) (by rw [hob];rfl) hT.free hal g5
 obtain ⟨q1,q2⟩:=Q2 hsg;obtain ⟨p1,p2⟩:=Q2 hns;have hjl:j<vs.bx.length:=Jx hj;have hle:Jac (vs.cx S0 env m) { vs.cx S0 env m with m:=m.set (env.β j) { k with obj := .cells c2 e fr } }:=
  ⟨hfr.mono_row hT.free (fun i w=>by rw [w];exact hT.inS j hjl ((JK hj).trans q1)) (fun i w => .inl w),Je _,fun _ _=>rfl,fun q b hb=>⟨b.live,hb,rfl⟩,fun _ _ q=>q,fun _ _ _ q=>q,fun _ q=>q,fun _ q=>q,hfr.nxt,hfr.ty⟩
 exact h.setBox hj q1 (by rw [q1,p1]) (by rw [q2,p2]) hfr (fun i w => .inl w) (Qy.ofSg hns (JbP.ofCells htn ⟨_,c2,e,fr,hal2,rfl,g3,g4,g5,hn.le hle⟩))
theorem JqP {c:Array Value} {o:Nat} {ws:List Value} (hf:o+ws.length≤c.size):(∀k w,ws[k]? = some w→(wr c o ws)[o+k]? = some w) ∧ ∀k,k<o∨o+ws.length≤k→(wr c o ws)[k]? = c[k]? := by
 refine ⟨fun k w hw => ?_,fun k hk => ?_⟩
 ·rw [Jc3 _ _ _ _ hf,Jd (by omega),Jf (by have:=Jx hw;omega),show o+k - o=k by omega];exact hw
 ·rw [Jc3 _ _ _ _ hf];rcases hk with hk | hk
  ·rw [Jf hk]
  ·rw [Jd (by omega),Jd (by omega)]
theorem Jrs {ns : List Cl} {ws : List Value} {c : Array Value} (hn : Qa P X ns ws) : ∀ {cs r : List Cl} {off o : Nat}, JiW ns cs off = some r → Jcz P X c cs o → o + off + ws.length ≤ c.size := by
 have over : ∀ {ns cs r : List Cl} {o : Nat} {ws : List Value}, Qa P X ns ws → Jf1 cs ns = some r → Jcz P X c cs o → o + ws.length ≤ c.size := by
  intro ns;induction ns with
  | nil=>intro cs r o ws hn h hr;cases ws with
   | nil=>exact Jb2 hr
   | cons=>exact hn.elim
  | cons cn ns ih =>
   intro cs r o ws hn h hr;cases ws with
   | nil=>exact hn.elim
   | cons w ws=>
    cases cs with
    | nil=>cases h
    | cons cl cs=>
     simp only [Jf1] at h;cases hs:Qh cl with
     | true=>rw [hs] at h;cases h
     | false=>
      rw [hs] at h;simp only [Jl,Ja] at h;obtain ⟨r',h3,rfl⟩:=h;have:=ih hn.2 h3 ((Qv hs).1 hr).2
      simp only [Ju];omega
 intro cs;induction cs with
 | nil=>
  intro r off o h hr;cases off with
  | zero=>exact over hn (by simpa only [JiW] using h) hr
  | succ k=>cases h
 | cons cl cs ih =>
  intro r off o h hr;cases off with
  | zero=>exact over hn (by simpa only [JiW] using h) hr
  | succ k =>
   simp only [JiW] at h;cases hb:Nat.ble (wid cl) (k+1) with
   | false=>rw [hb] at h;cases h
   | true=>
    rw [hb] at h;simp only [Jk,Ja] at h;obtain ⟨r',h3,rfl⟩:=h;have hle:=JC hb;cases hs:Qh cl with
    | false=>
     rw [JeO hs] at h3 hle;have:=ih h3 ((Qv hs).1 hr).2
     omega
    | true=>
     cases cl with
     | sg n e xs=>
      have hw:wid (.sg n e xs)=n*e.n:=rfl;rw [hw] at h3 hle;have:=ih h3 hr.2
      omega
     | mt ks=>
      have:=ih h3 (show Jcz P X c cs o from hr)
      have hw:wid (.mt ks)=0:=rfl;rw [hw] at this;omega
     | _=>cases hs
theorem JtZ {e : Ty} {n s o i : Nat} {xs : List e.El} {y : e.El} {c : Array Value} {ws : List Value} (hlen : xs.length = n) (hfit : s + n * e.n ≤ c.size) (hel : ∀ (k : Nat) (x : e.El), xs[k]? = some x → QR P X.S X.m e x (c.extract (s + k * e.n) (s + k * e.n + e.n)).toList)
  (hi:i<n) (ho:o+ws.length≤e.n) (hy:QR P X.S X.m e y (wr (c.extract (s+i*e.n) (s+i*e.n+e.n)) o ws).toList) :
  ∀(k:Nat) (x:e.El),(xs.set i y)[k]? = some x→QR P X.S X.m e x ((wr c (s+i*e.n+o) ws).extract (s+k*e.n) (s+k*e.n+e.n)).toList:=by
 intro k x hk;have hfi:i*e.n+e.n≤n*e.n:=by rw [←Nat.succ_mul];exact Jw _ hi
 rw [List.getElem?_set] at hk;by_cases e1:i=k
 ·rw [Jf e1,Jf (by rw [hlen];exact hi)] at hk
  cases hk;subst e1;rw [JeN ho (by omega)];exact hy
 ·rw [Jd e1] at hk;have hkl:k<n:=by rw [←hlen];exact Jx hk
  rw [JaV (by omega) (by
   rcases JB k i with q1 | q1
   ·left;have:(k+1)*e.n≤i*e.n:=Jw _ q1
    rw [JQ,Nat.one_mul] at this;omega
   ·right;have:(i+1)*e.n≤k*e.n:=Jw _ (by omega)
    rw [JQ,Nat.one_mul] at this
    omega)]
  exact hel k x hk
theorem JiD {bx : List (List Cl)} (hT : Jao P X bx) {c : Array Value} : ∀ {pl : List (Nat × Option Ty)} {cs r : List Cl} {o : Nat}, JdI X.bf pl cs = some r → Qa P X cs (c.toList.drop o) → o ≤ c.size → Jcz P X c r o := by
 have flat : ∀ {n : Nat} {cs : List Cl} {o : Nat} {r : List Cl}, n ≤ cs.length → Qa P X cs (c.toList.drop o) → Jcz P X c r (o + n) → Jcz P X c (cs.take n ++ r) o := by
  intro n;induction n with
  | zero=>intro cs o r _ _ h;exact h
  | succ n ih=>
   intro cs o r hl hc h;cases cs with
   | nil=>simp at hl
   | cons cl cs=>
    have hs:Qh cl=false:=by have:=Jbi hc;rw [List.any_cons,JP] at this;exact this.1
    cases hd:c.toList.drop o with
    | nil=>rw [hd] at hc;exact hc.elim
    | cons w ws=>
     rw [hd] at hc;have h0:(c.toList.drop o)[0]? = some w:=by rw [hd];rfl
     rw [List.getElem?_drop,Jn] at h0;have h1:c.toList.drop (o+1)=ws:=by rw [←List.drop_drop,hd];rfl
     refine (Qv hs).2 ⟨⟨w,h0,hc.1⟩,ih (by simpa using hl) (by rw [h1];exact hc.2) (by rw [show o+1+n=o+(n+1) by omega];exact h)⟩
 intro pl;induction pl with
 | nil=>
  intro cs r o h hc ho;simp only [JdI] at h;cases he:cs.isEmpty with
  | false=>rw [he] at h;cases h
  | true=>
   rw [he] at h;cases h;have:cs = []:=List.isEmpty_iff.1 he
   subst this;have hl:=Qe hc;rw [JI,Jq] at hl;show o=c.size;simp at hl;omega
 | cons p pl ih=>
  intro cs r o h hc ho;have hl:cs.length=c.size - o:=by
   have:=Qe hc
   rw [JI,Jq] at this;exact this
  obtain ⟨n,q⟩:=p;cases q with
  | none=>
   simp only [JdI] at h;cases hb:Nat.ble n cs.length with
   | false=>rw [hb] at h;cases h
   | true=>
    rw [hb] at h;simp only [Jk,Ja] at h;obtain ⟨r',h1,rfl⟩:=h;have hle:=JC hb;exact flat hle hc (ih h1 (by rw [←List.drop_drop];exact JaE hc n) (by omega))
  | some ty=>
   simp only [JdI] at h;split at h
   ·rename_i hcd;simp only [Jp,Ja] at h;obtain ⟨xs,h1,r',h2,rfl⟩:=h;have hct:=Jbh hc (n*ty.n);obtain ⟨k1,k2⟩:=JbF hT h1 hct (by rw [JE,JI,Jq,←hl];exact Nat.min_eq_left hcd.1)
    refine ⟨⟨k1,fun k x hx => ?_⟩,ih h2 (by rw [←List.drop_drop];exact JaE hc _) (by have:=hcd.1;omega)⟩
    have hk:k<n:=by rw [←k1];exact Jx hx
    have hfit:k*ty.n+ty.n≤n*ty.n:=by rw [←Nat.succ_mul];exact Jw _ hk
    have:=k2 k x hx
    rw [QY];rw [List.drop_take,List.drop_drop,List.take_take,Nat.min_eq_left (by omega)] at this;exact this
   ·cases h
theorem JoC {bf : List Bf} : ∀ {cs ns r : List Cl}, JdI bf (JiP cs) ns = some r → ns.length = Jih cs := by
 intro cs;induction cs with
 | nil=>
  intro ns r h;simp only [JiP,JdI] at h;cases he:ns.isEmpty with
  | false=>rw [he] at h;cases h
  | true=>rw [List.isEmpty_iff.1 he];rfl
 | cons cl cs ih =>
  have one : ∀(k:Nat) {ns r:List Cl},JdI bf ((k,none)::JiP cs) ns=some r→wid cl=k→ns.length=Jih (cl::cs):=by
   intro k ns r h hk;simp only [JdI] at h;cases hb:Nat.ble k ns.length with
   | false=>rw [hb] at h;cases h
   | true=>
    rw [hb] at h;simp only [Jk,Ja] at h;obtain ⟨r',h1,_⟩:=h;have h2:=ih h1;rw [JI] at h2;have:=JC hb
    show _=wid cl+Jih cs;omega
  intro ns r h;cases hs:Qh cl with
  | false=>exact one 1 (by cases cl <;> first | exact h | cases hs) (JeO hs)
  | true=>
   cases cl with
   | sg n e xs=>
    simp only [JiP,JdI] at h;split at h
    ·rename_i hc;simp only [Jp,Ja] at h;obtain ⟨ys,_,r',h1,_⟩:=h;have h2:=ih h1;rw [JI] at h2;have:=hc.1
     show _=n*e.n+Jih cs;omega
    ·cases h
   | mt ks=>exact one 0 h rfl
   | _=>cases hs
theorem JgX (h : Rel P S0 env m a vs) (hbar : ∀ i, Wb (vs.cx S0 env m) i → m.bar ≤ i) {t : TypeId} {x y : Sl} {w wy : Value} (hx : J8 P (vs.cx S0 env m) x w) (hy : J8 P (vs.cx S0 env m) y wy) {g : Option Bool} {z : Sl} {vs1 : VS} (hv : JjQ P t x y vs = some (g, z, vs1)) (hg : Jbt g) :
  z=Qn ∧ ∃m1,XO P t w wy m=some m1∧Rel P S0 env m1 a vs1∧Stp (vs.cx S0 env m) (vs1.cx S0 env m1):=by
 have fin : ∀{j off:Nat} {cs ns nc:List Cl} {ti:TypeInfo} {k:Blk} {e:TypeId} {c:Array Value} {fr:Nat × Nat},vs.bx[j]? = some cs→cs.any Qh=true→P.info? t=some ti→ns.length=ti.size→Qa P (vs.cx S0 env m) ns wy.cells.toList→wy.cells.all one=true →
   m.alive (env.β j)=some k→k.obj = .cells c e fr→k.ro=false→k.sup=false→k.root=env.β j→off+ns.length≤c.size→Jcn cs=none→nc.any Qh=true→Jcn nc=none→JeD P (vs.cx S0 env m) nc (wr c off wy.cells.toList).toList →
   ∃m1,XO P t (.pointer (some ⟨env.β j,off,none⟩)) wy m=some m1∧Rel P S0 env m1 a { vs with bx:=QC vs.bx j nc }∧Stp (vs.cx S0 env m) (({ vs with bx:=QC vs.bx j nc }:VS).cx S0 env m1):=by
  intro j off cs ns nc ti k e c fr hj hsg hti hsz hrep hone hal h2 h3 h4 h5 hfit htg hnc htn hrn;have hhas:=Ja9 h hj (Q2 hsg).1;have hnl:ns.length=wy.cells.size:=(Qe hrep).trans Jq;obtain ⟨hR,hS⟩:=h.storeG (c2:=wr c off wy.cells.toList) hj hsg hal h2 htg hnc htn hrn;refine ⟨_, ?_,hR,hS⟩;unfold XO;rw [hti];dsimp only;rw [Jf (by rw [←hnl];exact hsz)]
  unfold M.store;rw [hal];dsimp only;rw [h2];dsimp only;rw [Jf ⟨h3,h4,by rw [Jq];omega,by rw [←Array.all_toList] at hone;exact hone,hbar _ (.inl ⟨j,Jx hj,hhas,rfl⟩),by rw [h5];exact hbar _ (.inl ⟨j,Jx hj,hhas,rfl⟩)⟩]
  unfold M.put;rw [Jf h5]
 unfold JjQ at hv;split at hv
 ·rename_i j off ti s hti;split at hv
  ·rename_i cs ns hjs hns;obtain ⟨hj, hsg, htg⟩ := Jbg hjs;split at hv
   ·rename_i hc;obtain ⟨hc1, hc2, hc3⟩ := hc;obtain ⟨_, kb, rfl, _, hib⟩ := hx;obtain rfl := hib (Ja9 h hj (Q2 hsg).1)
    obtain ⟨hrep,hone⟩:=XD hns hy hc3;have hnl:ns.length=wy.cells.toList.length:=Qe hrep;obtain ⟨k,c,e,fr,h1,h2,h3,h4,h5,h7⟩:=((h.T.bx j cs hj).sg hsg).cells htg;have hI:=XK.1 h7;split at hv
    ·rename_i e' n xs o hseg;split at hv
     ·rename_i hc;obtain ⟨rfl,hcn⟩:=hc;simp only [Ja,Jm] at hv;obtain ⟨ys,hys,rfl,rfl,rfl⟩:=hv;obtain ⟨s',k1,_,k3,_,k5,k6,k7,k8⟩:=JeX hI hseg;rw [JG,Nat.add_zero] at k1;subst k1;obtain ⟨u1,u2⟩:=JbF h.T hys hrep (by rw [←hnl];exact hcn)
      have hfit:off+wy.cells.toList.length≤c.size:=by rw [←hnl,hcn];exact k6
      obtain ⟨w1,w2⟩:=JqP hfit;refine ⟨rfl,fin hj hsg hti hc1 hrep hone h1 h2 h3 h4 h5 (by rw [hcn];exact k6) htg (JiN hseg) (Jgh.trans htg) (XK.2 (k8 _ ys (Qz _ _ _) (fun q hq=>w2 q (by rw [←hnl,hcn];exact hq)) u1 fun q x hq => ?_))⟩
      have hqn:q<n:=by rw [←u1];exact Jx hq
      have hfq:q*e'.n+e'.n≤n*e'.n:=by rw [←Nat.succ_mul];exact Jw _ hqn
      have he:((wr c off wy.cells.toList).extract (off+q*e'.n) (off+q*e'.n+e'.n)).toList=(wy.cells.toList.drop (q*e'.n)).take e'.n:=by
       apply List.ext_getElem?
       intro i;rw [Jn,JA,List.getElem?_take,Qz];by_cases hi:i<e'.n
       ·rw [Jf (by omega),Jf hi,List.getElem?_drop];have hlt:q*e'.n+i<wy.cells.toList.length:=by rw [←hnl,hcn];omega
        rw [show off+q*e'.n+i=off+(q*e'.n+i) by omega,w1 _ _ (Jj hlt),Jj hlt]
       ·rw [Jd (by omega),Jd hi]
      rw [he];exact u2 q x hq
     ·cases hv
    ·split at hv
     case h_2 =>
      cases hb0:Nat.beq off 0 with
      | false=>rw [hb0] at hv;cases hv
      | true =>
       rw [hb0] at hv;have h0:=Jr hb0;subst h0;simp only [Jk,Jp] at hv;obtain ⟨nc,hnc,hv⟩:=hv;cases hsg':(nc.any Qh && (Jcn nc).isNone) with
       | false=>rw [hsg'] at hv;cases hv
       | true=>
        rw [hsg'] at hv;simp only [Jk,Jg,Jm] at hv;obtain ⟨rfl,rfl,rfl⟩:=hv;rw [Jh,Option.isNone_iff_eq_none] at hsg';obtain ⟨hs1,hs2⟩:=hsg';have hwd:wy.cells.toList.length=c.size:=by
         have:=(Ji9 hI).1
         rw [←hnl,JoC hnc];omega
        obtain ⟨w1,w2⟩:=JqP (c:=c) (o:=0) (ws:=wy.cells.toList) (by omega);have hwr:(wr c 0 wy.cells.toList).toList=wy.cells.toList:=by
         apply List.ext_getElem?
         intro i;rcases JB i wy.cells.toList.length with hi | hi
         ·rw [Jn];have:=w1 i _ (Jj hi)
          rw [JG] at this;rw [this,Jj hi]
         ·rw [J1 hi,J1 (by rw [Jq,Qz];omega)]
        have hI2:=JiD (X:=vs.cx S0 env m) h.T (c:=wr c 0 wy.cells.toList) (o:=0) hnc (by rw [List.drop_zero,hwr];exact hrep) (Nat.zero_le _)
        exact ⟨rfl,fin hj hsg hti hc1 hrep hone h1 h2 h3 h4 h5 (by rw [hnl];omega) htg hs1 hs2 (XK.2 hI2)⟩
     rename_i nc hlay;simp only [Jg,Jm] at hv;obtain ⟨rfl,rfl,rfl⟩:=hv;have hfit:=Jrs hrep hlay hI;rw [JG] at hfit;obtain ⟨w1,w2⟩:=JqP hfit;obtain ⟨_,hI2⟩:=Jrr (c2:=wr c off wy.cells.toList) hlay hI hrep (Qz _ _ _) (fun q u hu=>by rw [JG];exact w1 q u hu) (fun q hq=>w2 q (by rw [JG] at hq;exact hq))
     exact ⟨rfl,fin hj hsg hti hc1 hrep hone h1 h2 h3 h4 h5 (by rw [hnl];exact hfit) htg ((Juk (Jbi hrep) hlay).trans hsg) (Jrq (Jbi hrep) hlay htg) (XK.2 hI2)⟩
   ·cases hv
  ·cases hv
 ·rename_i e j i off ti s hti;split at hv
  ·rename_i cs ns hjs hns;obtain ⟨hj, hsg, htg⟩ := Jbg hjs;split at hv
   ·rename_i e' n xs o hseg;split at hv
    ·rename_i xs' hcast;obtain ⟨rfl,rfl⟩:=Ja0 hcast;split at hv
     ·rename_i hc;obtain ⟨hc1,hc2,hc3⟩:=hc;simp only [Ja,Jm] at hv;obtain ⟨y',hrd,rfl,rfl,rfl⟩:=hv;have hlt:i.toNat<n:=Qf (hg _ rfl);obtain ⟨_,kb,rfl,_,hib⟩:=hx;obtain rfl:=hib (Ja9 h hj (Q2 hsg).1)
      obtain ⟨hrep,hone⟩:=XD hns hy hc3;have hnl:ns.length=wy.cells.toList.length:=Qe hrep;obtain ⟨k,c,eo,fr,h1,h2,h3,h4,h5,h7⟩:=((h.T.bx j cs hj).sg hsg).cells htg;obtain ⟨s',k1,_,k3,_,k5,k6,k7,k8⟩:=JeX (XK.1 h7) hseg;rw [JG] at k1;have hfi:i.toNat*e'.n+e'.n≤n*e'.n:=by rw [←Nat.succ_mul];exact Jw _ hlt
      have hget:xs[i.toNat]? = some (xs.getD i.toNat e'.dflt):=by
       rw [Jo,Jj (by rw [k5];exact hlt)];rfl
      have hexp:=Ja7 (k7 _ _ hget);have hel:(exp e' (xs.getD i.toNat e'.dflt)).length=e'.n:=(Qe hexp).trans (JaW (k7 _ _ hget));have hnew:=JaM h.T hrd (JhC (off:=o) hexp hrep (by rw [hel];exact hc2))
      have e1:i.toNat*e'.n+off=s'+i.toNat*e'.n+o:=by omega
      rw [e1];have hfit:s'+i.toNat*e'.n+o+wy.cells.toList.length≤c.size:=by omega
      obtain ⟨w1,w2⟩:=JqP hfit;exact ⟨rfl,fin hj hsg hti hc1 hrep hone h1 h2 h3 h4 h5 (by omega) htg (JiN hseg) (Jgh.trans htg) (XK.2 (k8 _ _ (Qz _ _ _) (fun q hq=>w2 q (by omega)) (by rw [JZ];exact k5)
       (JtZ k5 k6 k7 hlt (by omega) hnew)))⟩
     ·cases hv
    ·cases hv
   ·cases hv
  ·cases hv
 ·cases hv
theorem JeV (h:Rel P S0 env m a vs) {t:TypeId} {cs:List Cl} {c:Array Value} (hc:Qa P (vs.cx S0 env m) cs c.toList) {x:Sl} {vs1:VS} (hv:JqW P t cs vs=some (x,vs1)) :
  ∃v m1 env1,(m.new c t).map (fun (p:Addr × M)=>Res.val (.pointer (some p.1)) p.2)=some (.val v m1)∧Rel P S0 env1 m1 a vs1∧Stp (vs.cx S0 env m) (vs1.cx S0 env1 m1)∧J8 P (vs1.cx S0 env1 m1) x v:=by
 unfold JqW at hv;split at hv
 ·rename_i ns hns;cases hsg':(ns.any Qh && (Jcn ns).isNone) with
  | false=>rw [hsg'] at hv;cases hv
  | true=>
   rw [hsg'] at hv;simp only [Jk,Jg] at hv;rw [Jh,Option.isNone_iff_eq_none] at hsg';obtain ⟨hsg,htg⟩:=hsg';have hf:=h.T.free m.nxt (Je _);have hf':m.get m.nxt=none:=hf
   have hnew:m.new c t=some (⟨m.nxt,0,none⟩,m.mk1 (.cells c t)):=by unfold M.new;rw [hf']
   have hI:=JiD (X:=vs.cx S0 env m) h.T (c:=c) (o:=0) hns (by rw [List.drop_zero];exact hc) (Nat.zero_le _)
   obtain ⟨h1,h2,h3⟩:=h.newBoxG hsg htg hnew (XK.2 hI);have e1:x=(newBox vs ns).1:=by rw [hv]
   have e2:vs1=(newBox vs ns).2:=by rw [hv]
   subst e1;subst e2;exact ⟨_,_,_,by rw [hnew];rfl,h1,h2,h3⟩
 ·cases hv
theorem Jhd (h : Rel P S0 env m a vs) {t : TypeId} {g : Option Bool} {x : Sl} {vs1 : VS} (hv : Jj8 P t vs = some (g, x, vs1)) :
  ∃z v m1 env1,QI P t=some z∧(m.new z.cells t).map (fun (p:Addr × M)=>Res.val (.pointer (some p.1)) p.2)=some (.val v m1)∧Rel P S0 env1 m1 a vs1∧Stp (vs.cx S0 env m) (vs1.cx S0 env1 m1)∧J8 P (vs1.cx S0 env1 m1) x v:=by
 unfold Jj8 at hv;split at hv
 ·rename_i z hz;split at hv
  ·rename_i hone;simp only [Ja,Jm] at hv;obtain ⟨⟨x',vs'⟩,h1,rfl,rfl,rfl⟩:=hv;have hall : ∀v∈z.cells.toList,okc v=true:=by
    rw [Array.all_eq_true'] at hone;exact fun v hv=>hone v (by simpa using hv)
   obtain ⟨v,m1,env1,h2,h3,h4,h5⟩:=JeV h (Jhv hall) h1;exact ⟨z,v,m1,env1,hz,h2,h3,h4,h5⟩
  ·cases hv
 ·cases hv
theorem Jiy (h:Rel P S0 env m a vs) {t:TypeId} {y:Sl} {w:Value} (hy:J8 P (vs.cx S0 env m) y w) {g:Option Bool} {x:Sl} {vs1:VS} (hv:Joo P t y vs=some (g,x,vs1)) :
  ∃v m1 env1,(m.new w.cells t).map (fun (p:Addr × M)=>Res.val (.pointer (some p.1)) p.2)=some (.val v m1)∧Rel P S0 env1 m1 a vs1∧Stp (vs.cx S0 env m) (vs1.cx S0 env1 m1)∧J8 P (vs1.cx S0 env1 m1) x v:=by
 unfold Joo at hv;split at hv
 ·rename_i s;split at hv
  ·rename_i cs hcs;split at hv
   ·rename_i hk;simp only [Ja,Jm] at hv;obtain ⟨⟨x',vs'⟩,h1,rfl,rfl,rfl⟩:=hv;exact JeV h (XD hcs hy hk).1 h1
   ·cases hv
  ·cases hv
 ·cases hv
end Go.IM.V