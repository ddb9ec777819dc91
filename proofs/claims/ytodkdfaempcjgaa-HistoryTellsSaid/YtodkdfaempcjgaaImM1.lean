/- An ideal machine, and a machine of values: part 1 of 5. Lemmas alone; no conditions. -/
import Derived.Calls
import Derived.Orders
import Derived.LoopN
import Derived.Defers
import Derived.Recover
import Derived.RowKit3
import Derived.Below
import Derived.Laws.CopyRow
import Derived.Laws.Append
import Derived.Laws.Entries
import Derived.WalkSmall
import Derived.Laws.BytesArg
import Derived.Laws.IdiomStrings
import Derived.Laws.AppendOwn
import Derived.MapKept
import Derived.KernelRfl
namespace Go.IM
open Go
abbrev Ja:=@Option.map_eq_some_iff
abbrev Jb:=@Option.bind_some
abbrev Jc:=@decide_eq_true
abbrev Jd:=@if_neg
abbrev Je:=@Nat.le_refl
abbrev Jf:=@if_pos
abbrev Jg:=@Option.some.injEq
abbrev Jh:=@Bool.and_eq_true
abbrev Ji:=@Int.toNat_natCast
abbrev Jj:=@List.getElem?_eq_getElem
abbrev Jk:=@cond_true
abbrev Jl:=@cond_false
abbrev Jm:=@Prod.mk.injEq
abbrev Jn:=@Array.getElem?_toList
abbrev Jo:=@List.getD_eq_getElem?_getD
abbrev Jp:=@Option.bind_eq_some_iff
abbrev Jq:=@Array.length_toList
abbrev Jr:=@Nat.eq_of_beq_eq_true
abbrev Js:=@decide_eq_false
abbrev Jt:=@Nat.lt_of_lt_of_le
abbrev Ju:=@List.length_cons
abbrev Jv:=@Array.getElem?_eq_some_iff
abbrev Jw:=@Nat.mul_le_mul_right
abbrev Jy:=@Nat.le_trans
abbrev Jz:=@List.length_append
abbrev JA:=@Array.getElem?_extract
abbrev JB:=@Nat.lt_or_ge
abbrev JC:=@Nat.le_of_ble_eq_true
abbrev JD:=@List.length_nil
abbrev JE:=@List.length_take
abbrev JF:=@List.getElem?_append_left
abbrev JG:=@Nat.zero_add
abbrev JH:=@Array.getD_eq_getD_getElem?
abbrev JI:=@List.length_drop
abbrev JJ:=@List.mem_cons
abbrev JL:=@Array.getElem?_setIfInBounds
abbrev JN:=@List.getElem?_append_right
abbrev JP:=@Bool.or_eq_false_iff
abbrev JQ:=@Nat.add_mul
abbrev JR:=@List.length_pos_iff
abbrev JT:=@List.eq_nil_of_length_eq_zero
abbrev JU:=@Option.map_some
abbrev JW:=@List.mem_of_getElem?
abbrev JY:=@Array.eq_empty_of_size_eq_zero
abbrev JZ:=@List.length_set
abbrev J1:=@List.getElem?_eq_none
abbrev J2:=@Array.mem_of_getElem?
abbrev J3:=@Nat.not_lt_zero
abbrev J5:=@List.mem_cons_of_mem
structure Blk where
 obj:Obj
 root:Nat
 sup:Bool:=false
 dead:Bool:=false
 ro:Bool:=false
inductive Tr where
 | leaf
 | node (v:Option Blk) (l r:Tr)
namespace Tr
def get (t:Tr):Nat→Nat→Option Blk
 | 0,_=>none
 | f+1,n=>match t with
  | .leaf=>none
  | .node v l r=>if n=0 then v else if n % 2=1 then l.get f (n / 2) else r.get f (n / 2 - 1)
def set (x:Blk):Nat→Nat→Tr→Tr
 | 0,_,t=>t
 | f+1,n,t=>
  match t with
  | .leaf=>if n=0 then .node (some x) .leaf .leaf else if n % 2=1 then .node none (set x f (n / 2) .leaf) .leaf else .node none .leaf (set x f (n / 2 - 1) .leaf)
  | .node v l r=>if n=0 then .node (some x) l r else if n % 2=1 then .node v (set x f (n / 2) l) r else .node v l (set x f (n / 2 - 1) r)
theorem get_leaf (f n:Nat):get .leaf f n=none:=by cases f <;> simp [get]
theorem get_fuel (t : Tr) (f n : Nat) (h : n < f) : ∀ g, n < g → get t f n = get t g n := by
 induction f generalizing t n with
 | zero=>omega
 | succ f ih=>
  intro g hg;obtain ⟨g,rfl⟩ : ∃k,g=k+1:=⟨g - 1,by omega⟩;cases t with
  | leaf=>simp [get]
  | node v l r=>
   simp only [get];split
   ·rfl
   ·split
    ·exact ih l (n / 2) (by omega) g (by omega)
    ·exact ih r (n / 2 - 1) (by omega) g (by omega)
theorem get_set_same (x : Blk) (t : Tr) : ∀ (f n : Nat), n < f → get (set x f n t) f n = some x := by
 intro f;induction f generalizing t with
 | zero=>intro n h;omega
 | succ f ih=>
  intro n h;cases t with
  | leaf=>
   simp only [set];split
   ·simp [get, *]
   ·split <;> simp only [get, *, if_false,if_true]
    ·exact ih _ _ (by omega)
    ·exact ih _ _ (by omega)
  | node v l r=>
   simp only [set];split
   ·simp [get, *]
   ·split <;> simp only [get, *, if_false,if_true]
    ·exact ih _ _ (by omega)
    ·exact ih _ _ (by omega)
theorem get_set_ne (x : Blk) (t : Tr) : ∀ (f n m : Nat), n < f → m < f → n ≠ m → get (set x f n t) f m = get t f m := by
 intro f;induction f generalizing t with
 | zero=>intro n m h;omega
 | succ f ih =>
  intro n m hn hm hne;cases t with
  | leaf =>
   simp only [set,get];split
   ·subst n;simp only [get];rw [Jd (Ne.symm hne)];simp [get_leaf]
   ·split
    ·simp only [get];split
     ·rfl
     ·split
      ·rw [ih _ _ _ (by omega) (by omega) (by omega),get_leaf]
      ·simp [get_leaf]
    ·simp only [get];split
     ·rfl
     ·split
      ·simp [get_leaf]
      ·rw [ih _ _ _ (by omega) (by omega) (by omega),get_leaf]
  | node v l r =>
   simp only [set,get];split
   ·subst n;simp only [get];rw [Jd (Ne.symm hne),Jd (Ne.symm hne)]
   ·split
    ·simp only [get];split
     ·rfl
     ·split
      ·rw [ih _ _ _ (by omega) (by omega) (by omega)]
      ·rfl
    ·simp only [get];split
     ·rfl
     ·split
      ·rfl
      ·rw [ih _ _ _ (by omega) (by omega) (by omega)]
theorem set_comm (x y : Blk) (t : Tr) : ∀ (f n m : Nat), n ≠ m → ∀ g, set x f n (set y g m t) = set y g m (set x f n t) := by
 intro f;induction f generalizing t with
 | zero=>intro n m _ g;simp [set]
 | succ f ih=>
  intro n m hne g;cases g with
  | zero=>simp [set]
  | succ g=>
   by_cases hn:n=0
   ·have hm:m≠0:=by omega
    by_cases h2:m % 2=1 <;> cases t <;> simp [set,hn,hm,h2]
   ·by_cases hm:m=0
    ·by_cases h1:n % 2=1 <;> cases t <;> simp [set,hn,hm,h1]
    ·by_cases h1:n % 2=1 <;> by_cases h2:m % 2=1 <;> cases t <;> simp [set,hn,hm,h1,h2] <;> exact ih _ _ _ (by omega) _
end Tr
structure M where
 tr:Tr
 nxt:Nat
 bar:Nat:=0
namespace M
def get (m:M) (i:Nat):Option Blk:=m.tr.get (i+1) i
def set (m:M) (i:Nat) (b:Blk):M:=⟨m.tr.set b (i+1) i,m.nxt,m.bar⟩
def bump (m:M):M:=⟨m.tr,m.nxt+1,m.bar⟩
theorem get_set_same (m:M) (i:Nat) (b:Blk):(m.set i b).get i=some b:=Tr.get_set_same _ _ _ _ (by omega)
theorem Jkb (x:Blk) (t:Tr) : ∀(f g n:Nat),n<f→n<g→Tr.set x f n t=Tr.set x g n t:=by
 intro f;induction f generalizing t with
 | zero=>intro g n h;omega
 | succ f ih=>
  intro g n hf hg;obtain ⟨g,rfl⟩ : ∃k,g=k+1:=⟨g - 1,by omega⟩;cases t <;> simp only [Tr.set] <;> (split;· rfl) <;> split <;> first | rw [ih _ g _ (by omega) (by omega)]
theorem get_set_ne (m:M) (i j:Nat) (b:Blk) (h:i≠j):(m.set i b).get j=m.get j:=by
 show Tr.get (Tr.set b (i+1) i m.tr) (j+1) j=Tr.get m.tr (j+1) j;rw [Jkb b m.tr (i+1) (i+j+1) i (by omega) (by omega),Tr.get_fuel _ (j+1) j (by omega) (i+j+1) (by omega),
  Tr.get_set_ne _ _ _ _ _ (by omega) (by omega) h]
 exact Tr.get_fuel _ _ _ (by omega) _ (by omega)
theorem get_set (m:M) (i j:Nat) (b:Blk):(m.set i b).get j=if i=j then some b else m.get j:=by
 by_cases h:i=j
 ·subst h;simp [get_set_same]
 ·simp [h,get_set_ne]
theorem set_comm (m:M) (i j:Nat) (b c:Blk) (h:i≠j):(m.set i b).set j c=(m.set j c).set i b:=by
 simp only [set];rw [Tr.set_comm _ _ _ _ _ _ (Ne.symm h)]
@[simp] theorem nxt_set (m:M) (i:Nat) (b:Blk):(m.set i b).nxt=m.nxt:=rfl
@[simp] theorem bar_set (m:M) (i:Nat) (b:Blk):(m.set i b).bar=m.bar:=rfl
@[simp] theorem bar_bump (m:M):m.bump.bar=m.bar:=rfl
@[simp] theorem nxt_bump (m:M):m.bump.nxt=m.nxt+1:=rfl
@[simp] theorem get_bump (m:M) (i:Nat):m.bump.get i=m.get i:=rfl
def alive (m:M) (i:Nat):Option Blk:=
 match m.get i with
 | some b=>match m.get b.root with
  | some r=>if r.dead then none else some b
  | none=>none
 | none=>none
end M
end Go.IM
namespace Go.IM
open Go Go.RowKit
structure RE where
 g:Nat
 base:Nat
 n:Nat
 N:Nat
 sz:Nat
abbrev Ren:=Nat→Option RE
def Ren.le (ρ ρ':Ren):Prop := ∀i r,ρ i=some r→ρ' i=some r
theorem Ren.le_refl (ρ:Ren):ρ.le ρ:=fun _ _ h=>h
theorem Ren.le_trans {a b c:Ren} (h:a.le b) (k:b.le c):a.le c:=fun i r x=>k i r (h i r x)
def Ren.upd (ρ:Ren) (i:Nat) (r:RE):Ren:=fun j=>if j=i then some r else ρ j
theorem Ren.upd_same (ρ:Ren) (i:Nat) (r:RE):ρ.upd i r i=some r:=by simp [Ren.upd]
theorem Ren.upd_ne (ρ:Ren) {i j:Nat} (r:RE) (h:j≠i):ρ.upd i r j=ρ j:=by simp [Ren.upd,h]
theorem Ren.le_upd (ρ:Ren) (i:Nat) (r:RE) (h:ρ i=none):ρ.le (ρ.upd i r):=by
 intro j s hj;by_cases e:j=i
 ·subst e;rw [h] at hj;cases hj
 ·rw [Ren.upd_ne _ _ e];exact hj
def Jkg:Fn→Bool
 | .yield _=>false
 | _=>true
inductive JX (ρ:Ren):Value→Value→Prop
 | bool (b:Bool):JX ρ (.bool b) (.bool b)
 | int (k:IntKind) (n:Int):JX ρ (.int k n) (.int k n)
 | float (k:FloatKind) (b:Nat):JX ρ (.float k b) (.float k b)
 | complex (k:FloatKind) (a b:Nat):JX ρ (.complex k a b) (.complex k a b)
 | string (s:ByteArray):JX ρ (.string s) (.string s)
 | nilFunc:JX ρ .nilFunc .nilFunc
 | nilIface:JX ρ .nilIface .nilIface
 | ptrNil:JX ρ (.pointer none) (.pointer none)
 | ptr {i:Nat} {r:RE} (o:Nat) (h:ρ i=some r):JX ρ (.pointer (some ⟨i,o,none⟩)) (.pointer (some ⟨r.g,r.base+o,none⟩))
 | sliceNil:JX ρ (.slice none 0 0) (.slice none 0 0)
 | sliceS {i:Nat} {r:RE} {o len cap cap':Nat} (sp:Option Nat) (h:ρ i=some r) (hl:len≤cap) (hb:o+cap*r.sz≤r.n)
   (hc:cap=cap'∨(r.base=0∧o+cap*r.sz=r.n∧cap≤cap'∧o+cap'*r.sz≤r.N)) (hs:sp.isSome=true→cap=cap') :
   JX ρ (.slice (some ⟨i,o,sp⟩) len cap) (.slice (some ⟨r.g,r.base+o,none⟩) len cap')
 | slice0 (a a':Addr):JX ρ (.slice (some a) 0 0) (.slice (some a') 0 0)
 | mapNil:JX ρ (.map none) (.map none)
 | map {i:Nat} {r:RE} (h:ρ i=some r):JX ρ (.map (some i)) (.map (some r.g))
 | chanNil:JX ρ (.chan none) (.chan none)
 | func (fn:Fn) (hf:Jkg fn=true) {a a' c c':Array Value} (ha:a.size=a'.size) (hc:c.size=c'.size)
   (hva : ∀(i:Nat) (x y:Value),a[i]? = some x→a'[i]? = some y→JX ρ x y)
   (hvc : ∀(i:Nat) (x y:Value),c[i]? = some x→c'[i]? = some y→JX ρ x y):JX ρ (.func fn a c) (.func fn a' c')
 | iface (t:TypeId) {v v':Value} (h:JX ρ v v'):JX ρ (.iface t v) (.iface t v')
 | agg {a a':Array Value} (ha:a.size=a'.size) (hva : ∀(i:Nat) (x y:Value),a[i]? = some x→a'[i]? = some y→JX ρ x y):JX ρ (.agg a) (.agg a')
 | tuple {a a':Array Value} (ha:a.size=a'.size) (hva : ∀(i:Nat) (x y:Value),a[i]? = some x→a'[i]? = some y→JX ρ x y):JX ρ (.tuple a) (.tuple a')
theorem JX.slice {ρ:Ren} {i:Nat} {r:RE} {o len cap cap':Nat} (h:ρ i=some r) (hl:len≤cap) (hb:o+cap*r.sz≤r.n)
  (hc:cap=cap'∨(r.base=0∧o+cap*r.sz=r.n∧cap≤cap'∧o+cap'*r.sz≤r.N)):JX ρ (.slice (some ⟨i,o,none⟩) len cap) (.slice (some ⟨r.g,r.base+o,none⟩) len cap'):=
 .sliceS none h hl hb hc (fun q=>by cases q)
def JV (ρ:Ren) (a a':Array Value):Prop:=a.size=a'.size ∧ ∀(i:Nat) (x y:Value),a[i]? = some x→a'[i]? = some y→JX ρ x y
theorem JX.mono {ρ ρ':Ren} (hr:ρ.le ρ') {v v':Value} (h:JX ρ v v'):JX ρ' v v':=by
 induction h with
 | bool=>exact .bool _
 | int=>exact .int _ _
 | float=>exact .float _ _
 | complex=>exact .complex _ _ _
 | string=>exact .string _
 | nilFunc=>exact .nilFunc
 | nilIface=>exact .nilIface
 | ptrNil=>exact .ptrNil
 | ptr o h=>exact .ptr o (hr _ _ h)
 | sliceNil=>exact .sliceNil
 | sliceS sp h hl hb hc hs=>exact .sliceS sp (hr _ _ h) hl hb hc hs
 | slice0=>exact .slice0 _ _
 | mapNil=>exact .mapNil
 | map h=>exact .map (hr _ _ h)
 | chanNil=>exact .chanNil
 | func fn hf ha hc hva hvc iha ihc=>exact .func fn hf ha hc iha ihc
 | iface t h ih=>exact .iface t ih
 | agg ha hva ih=>exact .agg ha ih
 | tuple ha hva ih=>exact .tuple ha ih
theorem JV.mono {ρ ρ':Ren} (hr:ρ.le ρ') {a a':Array Value} (h:JV ρ a a'):JV ρ' a a':=⟨h.1,fun i x y hx hy=>(h.2 i x y hx hy).mono hr⟩
theorem JV.get {ρ:Ren} {a a':Array Value} (h:JV ρ a a') {i:Nat} {x:Value} (hx:a[i]? = some x) : ∃y,a'[i]? = some y∧JX ρ x y:=by
 have hi:i<a'.size:=by rw [←h.1];exact (Jv.1 hx).1
 exact ⟨a'[i],by simp [hi],h.2 i x _ hx (by simp [hi])⟩
theorem JV.getD {ρ:Ren} {a a':Array Value} (h:JV ρ a a') (i:Nat) {d d':Value} (hd:JX ρ d d'):JX ρ (a.getD i d) (a'.getD i d'):=by
 by_cases hi:i<a.size
 ·have hi':i<a'.size:=by rw [←h.1];exact hi
  have e1:a.getD i d=a[i]:=by simp [hi]
  have e2:a'.getD i d'=a'[i]:=by simp [hi']
  rw [e1,e2];exact h.2 i _ _ (by simp [hi]) (by simp [hi'])
 ·have hi' : ¬i<a'.size:=by rw [←h.1];exact hi
  have e1:a.getD i d=d:=by simp [hi]
  have e2:a'.getD i d'=d':=by simp [hi']
  rw [e1,e2];exact hd
theorem JV.set {ρ:Ren} {a a':Array Value} (h:JV ρ a a') (i:Nat) {d d':Value} (hd:JX ρ d d'):JV ρ (a.setIfInBounds i d) (a'.setIfInBounds i d'):=by
 refine ⟨by simp [h.1],fun j x y hx hy => ?_⟩;rw [JL] at hx hy;by_cases e:i=j
 ·subst e;rw [Jf rfl] at hx hy;rw [h.1] at hx;by_cases hi:i<a'.size
  ·rw [Jf hi] at hx hy;cases hx;cases hy;exact hd
  ·rw [Jd hi] at hx;cases hx
 ·rw [Jd e] at hx hy;exact h.2 j x y hx hy
theorem JV.nil (ρ:Ren):JV ρ #[] #[]:=⟨rfl,fun i x y hx=>by simp at hx⟩
theorem JV.append {ρ:Ren} {a a' b b':Array Value} (h:JV ρ a a') (k:JV ρ b b'):JV ρ (a++b) (a'++b'):=by
 refine ⟨by simp [h.1,k.1],fun i x y hx hy => ?_⟩;rw [Array.getElem?_append] at hx hy;rw [h.1] at hx;by_cases hi:i<a'.size
 ·rw [Jf hi] at hx hy;exact h.2 i x y hx hy
 ·rw [Jd hi] at hx hy;exact k.2 _ x y hx hy
theorem JV.one {ρ:Ren} {x y:Value} (h:JX ρ x y):JV ρ #[x] #[y]:=by
 refine ⟨rfl,fun i a b ha hb => ?_⟩;rcases i with _ | i
 ·simp at ha hb;subst ha;subst hb;exact h
 ·simp at ha
theorem JV.replicate (ρ:Ren) (n:Nat) {v v':Value} (hv:JX ρ v v'):JV ρ (Array.replicate n v) (Array.replicate n v'):=by
 refine ⟨by simp,fun i x y hx hy => ?_⟩;rw [Array.getElem?_replicate] at hx hy;split at hx
 ·rw [Jf ‹_›] at hy;cases hx;cases hy;exact hv
 ·cases hx
theorem JV.extract {ρ:Ren} {a a':Array Value} (h:JV ρ a a') (i j:Nat):JV ρ (a.extract i j) (a'.extract i j):=by
 refine ⟨by simp [h.1],fun k x y hx hy => ?_⟩;rw [JA] at hx hy;rw [h.1] at hx;split at hx
 ·rw [Jf ‹_›] at hy;exact h.2 _ x y hx hy
 ·cases hx
theorem JV.map {ρ:Ren} {α:Type} (l:Array α) (f f':α→Value) (h : ∀x,JX ρ (f x) (f' x)):JV ρ (l.map f) (l.map f'):=by
 refine ⟨by simp,fun i x y hx hy => ?_⟩;rw [Array.getElem?_map] at hx hy;cases hl:l[i]? with
 | none=>rw [hl] at hx;cases hx
 | some z=>rw [hl] at hx hy;cases hx;cases hy;exact h z
theorem JX.undef (ρ:Ren):JX ρ undef undef := .tuple rfl (fun i x y hx=>by simp at hx)
theorem JX.cells {ρ:Ren} {v v':Value} (h:JX ρ v v'):JV ρ v.cells v'.cells:=by
 cases h <;> first | exact ⟨‹_›, ‹_›⟩ | (refine JV.one ?_;constructor <;> assumption) | (refine JV.one ?_;exact .sliceS _ ‹_› ‹_› ‹_› ‹_› ‹_›)
def flat:Nat→Value→Bool
 | 0,_=>false
 | d+1,v=>match v with
  | .bool _ | .int .. | .float .. | .complex .. | .string _ | .nilFunc | .nilIface | .pointer none | .slice none 0 0 | .map none | .chan none=>true
  | .func fn a c=>Jkg fn && a.isEmpty && c.isEmpty
  | .iface _ v=>flat d v
  | .agg cs=>cs.all (flat d)
  | .tuple cs=>cs.all (flat d)
  | _=>false
theorem JaZ (ρ:Ren) : ∀(d:Nat) (v:Value),flat d v=true→JX ρ v v:=by
 intro d;induction d with
 | zero=>intro v h;simp [flat] at h
 | succ d ih=>
  intro v h;have key : ∀cs:Array Value,cs.all (flat d)=true → ∀(i:Nat) (x y:Value),cs[i]? = some x→cs[i]? = some y→JX ρ x y:=by
   intro cs hc i x y hx hy;rw [hx] at hy;cases hy;exact ih x (by rw [Array.all_eq_true'] at hc;exact hc x (J2 hx))
  unfold flat at h;split at h
  ·exact .bool _
  ·exact .int _ _
  ·exact .float _ _
  ·exact .complex _ _ _
  ·exact .string _
  ·exact .nilFunc
  ·exact .nilIface
  ·exact .ptrNil
  ·exact .sliceNil
  ·exact .mapNil
  ·exact .chanNil
  ·rename_i fn a c;simp only [Jh,Array.isEmpty_iff] at h;obtain ⟨⟨h1,rfl⟩,rfl⟩:=h;exact .func fn h1 rfl rfl (fun i x y hx=>by simp at hx) (fun i x y hx=>by simp at hx)
  ·exact .iface _ (ih _ h)
  ·exact .agg rfl (key _ h)
  ·exact .tuple rfl (key _ h)
  ·cases h
theorem JkW {ρ:Ren} : ∀(d:Nat) {v v':Value},flat d v=true→JX ρ v v'→v'=v:=by
 intro d;induction d with
 | zero=>intro v v' h;simp [flat] at h
 | succ d ih=>
  intro v v' h hv;cases hv <;> first | rfl | (simp [flat] at h;done) | skip
  ·rename_i a a' c c' ha hc hva hvc;simp only [flat,Jh,Array.isEmpty_iff] at h;obtain ⟨⟨h1,rfl⟩,rfl⟩:=h;obtain rfl:a' = #[]:=JY (by simpa using ha.symm)
   obtain rfl:c' = #[]:=JY (by simpa using hc.symm)
   rfl
  ·rename_i t u u' hu;rw [ih (by simpa [flat] using h) hu]
  ·rename_i a a' ha hva;simp only [flat] at h;rw [Array.all_eq_true'] at h
   congr 1
   refine Array.ext ha.symm fun i h1 h2 => ?_
   exact ih (h _ (Array.getElem_mem h2)) (hva i _ _ (by simp [h2]) (by simp [h1]))
  ·rename_i a a' ha hva;simp only [flat] at h;rw [Array.all_eq_true'] at h
   congr 1
   refine Array.ext ha.symm fun i h1 h2 => ?_
   exact ih (h _ (Array.getElem_mem h2)) (hva i _ _ (by simp [h2]) (by simp [h1]))
def QV (ρ:Ren) (a a':Array MapEntry):Prop:=
 a.size=a'.size ∧ ∀(i:Nat) (x y:MapEntry),a[i]? = some x→a'[i]? = some y→JX ρ x.key y.key∧JX ρ x.val y.val∧x.born=y.born
def Qx (P:Program) (B:Nat) (ρ:Ren) (b:Blk) (r:RE) (w:World):Prop:=
 match b.obj with
 | .cells c e _=>r.n=c.size∧r.sz=P.cellsOf e ∧ ∃c' e' fr',w.heap[r.g]? = some (.cells c' e' fr')∧r.base+c.size≤c'.size ∧
   (∀(k:Nat) (x:Value),c[k]? = some x → ∃y,c'[r.base+k]? = some y∧JX ρ x y) ∧
   (b.ro=true→r.g<B∧r.N=r.n) ∧
   (b.ro=false→B≤r.g∧r.base=0∧r.N=c'.size∧(fr'=(0,0)∨c'.size≤fr'.1))
 | .map es clock=>b.ro=false∧B≤r.g ∧ ∃es',w.heap[r.g]? = some (.map es' clock)∧QV ρ es es'
 | .stringIter s p=>b.ro=false∧B≤r.g∧r.base=0∧w.heap[r.g]? = some (.stringIter s p)
 | .mapIter none a b' c=>b.ro=false∧B≤r.g∧r.base=0∧w.heap[r.g]? = some (.mapIter none a b' c)
 | .mapIter (some i) a b' c=>b.ro=false∧B≤r.g∧r.base=0 ∧ ∃rm,ρ i=some rm∧w.heap[r.g]? = some (.mapIter (some rm.g) a b' c)
 | _=>False
structure Inv (P:Program) (B:Nat) (w0:World) (ρ:Ren) (m:M) (w:World):Prop where
 below:Below B w0 w
 size:B≤w0.heap.size
 dom : ∀i,m.get i=none→ρ i=none
 blk : ∀i b,m.get i=some b → ∃r,ρ i=some r
 holds : ∀i b r,m.alive i=some b→ρ i=some r→Qx P B ρ b r w
 roots : ∀i b,m.get i=some b → ∃rb,m.get b.root=some rb∧rb.root=b.root∧(b.root≠i→rb.sup=true)
 tip : ∀i j bi bj,m.get i=some bi→m.get j=some bj→bi.root=bj.root→bi.sup=false→bj.sup=false→i=j
 sep : ∀i j bi bj ri rj,m.alive i=some bi→m.alive j=some bj→ρ i=some ri→ρ j=some rj→ri.g=rj.g→bi.root=bj.root∨(bi.ro=true∧bj.ro=true)
 top : ∀i j bi bj ri rj,m.alive i=some bi→m.alive j=some bj→ρ i=some ri→ρ j=some rj→ri.g=rj.g→bi.root=bj.root→bj.sup=false→ri.n≤rj.n
 rosup : ∀i b,m.get i=some b→b.ro=true→b.sup=false∧b.root=i
theorem JO {m:M} {i:Nat} {b:Blk} (h:m.alive i=some b):m.get i=some b:=by
 unfold M.alive at h;split at h
 ·rename_i b' hb;split at h
  ·split at h
   ·cases h
   ·cases h;exact hb
  ·cases h
 ·cases h
theorem QB {m:M} {i:Nat} {b:Blk} (h:m.alive i=some b) : ∃rb,m.get b.root=some rb∧rb.dead=false:=by
 have hg:=JO h;unfold M.alive at h;rw [hg] at h;dsimp only at h;split at h
 ·rename_i rb hrb;split at h
  ·cases h
  ·rename_i hd;exact ⟨rb,hrb,by simpa using hd⟩
 ·cases h
theorem QQ {m:M} {i:Nat} {b rb:Blk} (h:m.get i=some b) (hr:m.get b.root=some rb) (hd:rb.dead=false):m.alive i=some b:=by
 unfold M.alive;rw [h];dsimp only;rw [hr];simp [hd]
theorem Qx.mono {P:Program} {B:Nat} {ρ ρ':Ren} (hr:ρ.le ρ') {b:Blk} {r:RE} {w:World} (h:Qx P B ρ b r w):Qx P B ρ' b r w:=by
 unfold Qx at *;split at h
 ·obtain ⟨h1,h2,c',e',fr',h3,h4,h5,h6,h7⟩:=h;exact ⟨h1,h2,c',e',fr',h3,h4,fun k x hx=>let ⟨y,hy,hv⟩:=h5 k x hx;⟨y,hy,hv.mono hr⟩,h6,h7⟩
 ·obtain ⟨h0,h1,es',h2,h3⟩:=h;exact ⟨h0,h1,es',h2,h3.1,fun i x y hx hy=>let ⟨a,b,c⟩:=h3.2 i x y hx hy;⟨a.mono hr,b.mono hr,c⟩⟩
 ·exact h
 ·exact h
 ·obtain ⟨h0,h1,h2,rm,h3,h4⟩:=h;exact ⟨h0,h1,h2,rm,hr _ _ h3,h4⟩
 ·exact h.elim
theorem Qx.of_block {P:Program} {B:Nat} {ρ:Ren} {b:Blk} {r:RE} {w w':World} (h:Qx P B ρ b r w) (he:w'.heap[r.g]? = w.heap[r.g]?):Qx P B ρ b r w':=by
 unfold Qx at *;split at h <;> simp only [he] at * <;> exact h
end Go.IM
set_option linter.unusedVariables false
set_option linter.unusedSimpArgs false
namespace Go.IM
open Go Go.RowKit
variable {P:Program} {B:Nat} {w0:World} {ρ:Ren} {m:M} {w:World}
theorem Inv.drew (h:Inv P B w0 ρ m w):Inv P B w0 ρ m { w with drawn:=w.drawn+1 }:=
 ⟨⟨h.below.os,h.below.tape,h.below.output,h.below.size,h.below.block⟩,h.size,h.dom,h.blk,
  fun i b r ha hr=>(h.holds i b r ha hr).of_block rfl,h.roots,h.tip,h.sep,h.top,h.rosup⟩
theorem Inv.re (h:Inv P B w0 ρ m w) {i:Nat} {b:Blk} (ha:m.alive i=some b) : ∃r,ρ i=some r∧Qx P B ρ b r w:=by
 obtain ⟨r,hr⟩:=h.blk i b (JO ha);exact ⟨r,hr,h.holds i b r ha hr⟩
theorem Inv.cell (h:Inv P B w0 ρ m w) {i:Nat} {b:Blk} {c:Array Value} {e:TypeId} {fr:Nat × Nat} (ha:m.alive i=some b) (ho:b.obj = .cells c e fr) {r:RE} (hr:ρ i=some r)
  {k:Nat} {x:Value} (hx:c[k]? = some x) : ∃y,w.cell? ⟨r.g,r.base+k,none⟩=some y∧JX ρ x y:=by
 have hh:=h.holds i b r ha hr;unfold Qx at hh;rw [ho] at hh;obtain ⟨h1,h2,c',e',fr',h3,h4,h5,_⟩:=hh;obtain ⟨y,hy,hv⟩:=h5 k x hx;exact ⟨y,by simp [World.cell?, h3,hy],hv⟩
theorem Jb1 (h:Inv P B w0 ρ m w) {n:Nat} (hf:m.get n=none) {i:Nat} {b:Blk} (hg:m.get i=some b):b.root≠n:=by
 obtain ⟨rb,hr,_⟩:=h.roots i b hg;intro e;rw [e,hf] at hr;cases hr
def M.mk1 (m:M) (o:Obj):M:=(m.set m.nxt { obj:=o,root:=m.nxt }).bump
theorem JfP (h:Inv P B w0 ρ m w) (hf:m.get m.nxt=none) (o:Obj) (i:Nat):(m.mk1 o).alive i=if i=m.nxt then some { obj:=o,root:=m.nxt } else m.alive i:=by
 by_cases e:i=m.nxt
 ·subst e;rw [Jf rfl];exact QQ (rb := { obj:=o,root:=m.nxt }) (by simp [M.mk1,M.get_set_same]) (by simp [M.mk1,M.get_set_same]) rfl
 ·rw [Jd e];unfold M.alive;have e1:(m.mk1 o).get i=m.get i:=by simp [M.mk1,M.get_set_ne _ _ _ _ (Ne.symm e)]
  rw [e1];cases hg:m.get i with
  | none=>rfl
  | some b=>
   dsimp only;have e2:(m.mk1 o).get b.root=m.get b.root:=by simp [M.mk1,M.get_set_ne _ _ _ _ (Ne.symm (Jb1 h hf hg))]
   rw [e2]
theorem Qp (m:M) (o:Obj) (i:Nat):(m.mk1 o).get i=if i=m.nxt then some { obj:=o,root:=m.nxt } else m.get i:=by
 by_cases e:i=m.nxt
 ·subst e;simp [M.mk1,M.get_set_same]
 ·rw [Jd e];simp [M.mk1,M.get_set_ne _ _ _ _ (Ne.symm e)]
theorem Jdm {b:Blk} {r:RE} (hh:Qx P B ρ b r w):r.g<w.heap.size:=by
 unfold Qx at hh;split at hh
 ·obtain ⟨_,_,c',e',fr',h3,_⟩:=hh;exact (Jv.1 h3).1
 ·obtain ⟨_,_,es',h2,_⟩:=hh;exact (Jv.1 h2).1
 ·obtain ⟨_,_,_,h2⟩:=hh;exact (Jv.1 h2).1
 ·obtain ⟨_,_,_,h2⟩:=hh;exact (Jv.1 h2).1
 ·obtain ⟨_,_,_,rm,_,h2⟩:=hh;exact (Jv.1 h2).1
 ·exact hh.elim
theorem Inv.alloc (h:Inv P B w0 ρ m w) (hf:m.get m.nxt=none) (o o':Obj) (r:RE) (hg:r.g=w.heap.size)
  (hh:Qx P B (ρ.upd m.nxt r) { obj:=o,root:=m.nxt } r (w.alloc o')):Inv P B w0 (ρ.upd m.nxt r) (m.mk1 o) (w.alloc o'):=by
 have hle:=Ren.le_upd ρ m.nxt r (h.dom _ hf);have old : ∀i b s,m.alive i=some b→ρ i=some s→Qx P B (ρ.upd m.nxt r) b s (w.alloc o'):=by
  intro i b s ha hs;have h1:=h.holds i b s ha hs;refine (h1.of_block ?_).mono hle;exact Below.heap_alloc w o' s.g (Jdm h1)
 have lt : ∀i b s,m.alive i=some b→ρ i=some s→s.g<w.heap.size:=fun i b s ha hs=>Jdm (h.holds i b s ha hs)
 refine ⟨h.below.alloc (Jy h.size h.below.size) o',h.size, ?_, ?_, ?_, ?_, ?_, ?_, ?_, ?_⟩
 ·intro i hi;rw [Qp] at hi;split at hi
  ·cases hi
  ·rename_i e;rw [Ren.upd_ne _ _ e];exact h.dom i hi
 ·intro i b hi;rw [Qp] at hi;split at hi
  ·rename_i e;subst e;exact ⟨r,Ren.upd_same _ _ _⟩
  ·rename_i e;rw [Ren.upd_ne _ _ e];exact h.blk i b hi
 ·intro i b s ha hs;rw [JfP h hf] at ha;split at ha
  ·rename_i e;subst e;cases ha;rw [Ren.upd_same] at hs;cases hs;exact hh
  ·rename_i e;rw [Ren.upd_ne _ _ e] at hs;exact old i b s ha hs
 ·intro i b hi;rw [Qp] at hi;split at hi
  ·rename_i e;subst e;cases hi;exact ⟨_,by rw [Qp,Jf rfl],rfl,fun h=>absurd rfl h⟩
  ·obtain ⟨rb,h1,h2,h3⟩:=h.roots i b hi;exact ⟨rb,by rw [Qp,Jd (Jb1 h hf hi)];exact h1,h2,h3⟩
 ·intro i j bi bj hi hj he hsi hsj;rw [Qp] at hi hj;split at hi <;> split at hj
  ·rename_i e1 e2;rw [e1,e2]
  ·cases hi;exact absurd he.symm (Jb1 h hf hj)
  ·cases hj;exact absurd he (Jb1 h hf hi)
  ·exact h.tip i j bi bj hi hj he hsi hsj
 ·intro i j bi bj ri rj hi hj hri hrj he;rw [JfP h hf] at hi hj;split at hi <;> split at hj
  ·cases hi;cases hj;exact .inl rfl
  ·rename_i e1 e2;subst e1;rw [Ren.upd_same] at hri;cases hri;rw [Ren.upd_ne _ _ e2] at hrj;have:=lt j bj rj hj hrj
   omega
  ·rename_i e1 e2;subst e2;rw [Ren.upd_same] at hrj;cases hrj;rw [Ren.upd_ne _ _ e1] at hri;have:=lt i bi ri hi hri
   omega
  ·rename_i e1 e2;rw [Ren.upd_ne _ _ e1] at hri;rw [Ren.upd_ne _ _ e2] at hrj;exact h.sep i j bi bj ri rj hi hj hri hrj he
 ·intro i j bi bj ri rj hi hj hri hrj he hrt hsj;rw [JfP h hf] at hi hj;split at hi <;> split at hj
  ·rename_i e1 e2;subst e1;subst e2;rw [hri] at hrj;cases hrj;exact Je _
  ·cases hi;exact absurd hrt.symm (Jb1 h hf (JO hj))
  ·cases hj;exact absurd hrt (Jb1 h hf (JO hi))
  ·rename_i e1 e2;rw [Ren.upd_ne _ _ e1] at hri;rw [Ren.upd_ne _ _ e2] at hrj;exact h.top i j bi bj ri rj hi hj hri hrj he hrt hsj
 ·intro i b hi hro;rw [Qp] at hi;split at hi
  ·cases hi;cases hro
  ·exact h.rosup i b hi hro
def M.put (m:M) (i:Nat) (b:Blk) (o:Obj):M:=
 if b.root=i then m.set i { b with obj:=o }
 else match m.get b.root with
  | some rb=>(m.set b.root { rb with dead:=true }).set i { b with obj:=o,root:=i,dead:=false }
  | none=>m
theorem Inv.put (h : Inv P B w0 ρ m w) {i : Nat} {b : Blk} (ha : m.alive i = some b) (hro : b.ro = false) (hsup : b.sup = false) {r : RE} (hr : ρ i = some r) (o o' : Obj)
  {w':World} (hos:w'.os=w.os) (htp:w'.tape=w.tape) (hout:w'.output=w.output) (hsz:w'.heap.size=w.heap.size) (hB:B≤r.g)
  (hoth : ∀k,k≠r.g→w'.heap[k]? = w.heap[k]?) (hnew:Qx P B ρ { b with obj:=o } r w'):Inv P B w0 ρ (m.put i b o) w':=by
 have hg:=JO ha;obtain ⟨rb,hrb,hrr,hrs⟩:=h.roots i b hg;obtain ⟨rb',hrb',hdead⟩:=QB ha;rw [hrb] at hrb';cases hrb';have hbel:Below B w0 w':=h.below.trans ⟨hos,htp,hout,by omega,fun k hk=>hoth k (by omega)⟩;have hfam : ∀j bj rj,m.alive j=some bj→ρ j=some rj→rj.g=r.g→bj.root=b.root:=by
  intro j bj rj hj hrj he;rcases h.sep j i bj b rj r hj ha hrj hr he with h1|⟨_,h2⟩
  ·exact h1
  ·rw [hro] at h2;cases h2
 by_cases hroot:b.root=i
 ·
  have honly : ∀j bj,m.get j=some bj→bj.root=i→j=i:=by
   intro j bj hj hje;by_cases e:j=i
   ·exact e
   ·obtain ⟨rbj,h1,_,h3⟩:=h.roots j bj hj;rw [hje,hg] at h1;cases h1;have:=h3 (by rw [hje];exact Ne.symm e)
    rw [hsup] at this;cases this
  have eput:m.put i b o=m.set i { b with obj:=o }:=by simp [M.put,hroot]
  have hget : ∀j,(m.put i b o).get j=if i=j then some { b with obj:=o } else m.get j:=fun j=>by rw [eput,M.get_set]
  rw [hroot,hg] at hrb;cases hrb;have hal : ∀j,(m.put i b o).alive j=if i=j then some { b with obj:=o } else m.alive j:=by
   intro j;by_cases e:i=j
   ·subst e;rw [Jf rfl];exact QQ (rb := { b with obj:=o }) (by rw [hget,Jf rfl]) (by rw [hget,Jf hroot.symm]) hdead
   ·rw [Jd e];unfold M.alive;rw [hget,Jd e];cases hj:m.get j with
    | none=>rfl
    | some bj=>
     dsimp only;rw [hget,Jd (fun he=>e (honly j bj hj he.symm).symm)]
  refine ⟨hbel,h.size, ?_, ?_, ?_, ?_, ?_, ?_, ?_, ?_⟩
  ·intro j hj;rw [hget] at hj;split at hj
   ·cases hj
   ·exact h.dom j hj
  ·intro j bj hj;rw [hget] at hj;split at hj
   ·rename_i e;subst e;exact ⟨r,hr⟩
   ·exact h.blk j bj hj
  ·intro j bj rj hj hrj;rw [hal] at hj;split at hj
   ·rename_i e;subst e;cases hj;rw [hr] at hrj;cases hrj;exact hnew
   ·rename_i e;refine (h.holds j bj rj hj hrj).of_block (hoth _ fun he => ?_);exact e (honly j bj (JO hj) ((hfam j bj rj hj hrj he).trans hroot)).symm
  ·intro j bj hj;rw [hget] at hj;split at hj
   ·rename_i e;subst e;cases hj;exact ⟨{ b with obj:=o },by rw [hget,Jf hroot.symm],rfl,fun hne=>absurd hroot hne⟩
   ·rename_i e;obtain ⟨rbj,h1,h2,h3⟩:=h.roots j bj hj;refine ⟨rbj, ?_,h2,h3⟩;rw [hget,Jd (fun he=>e (honly j bj hj he.symm).symm)];exact h1
  ·intro j k bj bk hj hk he hsj hsk;rw [hget] at hj hk;split at hj <;> split at hk
   ·rename_i e1 e2;rw [←e1,←e2]
   ·rename_i e1 e2;cases hj;exact absurd (honly k bk hk (he.symm.trans hroot)).symm e2
   ·rename_i e1 e2;cases hk;exact absurd (honly j bj hj (he.trans hroot)).symm e1
   ·exact h.tip j k bj bk hj hk he hsj hsk
  ·intro j k bj bk rj rk hj hk hrj hrk he;rw [hal] at hj hk;split at hj <;> split at hk
   ·cases hj;cases hk;exact .inl rfl
   ·rename_i e1 e2;subst e1;cases hj;rw [hr] at hrj;cases hrj;exact .inl (hfam k bk rk hk hrk he.symm).symm
   ·rename_i e1 e2;subst e2;cases hk;rw [hr] at hrk;cases hrk;exact .inl (hfam j bj rj hj hrj he)
   ·exact h.sep j k bj bk rj rk hj hk hrj hrk he
  ·intro j k bj bk rj rk hj hk hrj hrk he hrt hsk;rw [hal] at hj hk;split at hj <;> split at hk
   ·rename_i e1 e2;subst e1;subst e2;rw [hrj] at hrk;cases hrk;exact Je _
   ·rename_i e1 e2;cases hj;exact absurd (honly k bk (JO hk) (hrt.symm.trans hroot)).symm e2
   ·rename_i e1 e2;cases hk;exact absurd (honly j bj (JO hj) (hrt.trans hroot)).symm e1
   ·exact h.top j k bj bk rj rk hj hk hrj hrk he hrt hsk
  ·intro j bj hj hrj;rw [hget] at hj;split at hj
   ·rename_i e;subst e;cases hj;exact ⟨hsup,hroot⟩
   ·exact h.rosup j bj hj hrj
 ·
  have hne:b.root≠i:=hroot;have eput:m.put i b o=(m.set b.root { rb with dead:=true }).set i { b with obj:=o,root:=i,dead:=false }:=by simp [M.put,hroot,hrb]
  have hget : ∀j,(m.put i b o).get j=if i=j then some { b with obj:=o,root:=i,dead:=false } else if b.root=j then some { rb with dead:=true } else m.get j:=by
   intro j;rw [eput,M.get_set];split
   ·rfl
   ·rw [M.get_set]
  have nochild : ∀j bj,m.get j=some bj→bj.root≠i:=by
   intro j bj hj hje;obtain ⟨rbj,h1,h2,h3⟩:=h.roots j bj hj;rw [hje,hg] at h1;cases h1;exact hne (h2.trans hje)
  have hal : ∀j bj,(m.put i b o).alive j=some bj→(j=i∧bj = { b with obj:=o,root:=i,dead:=false })∨(j≠i∧m.alive j=some bj∧bj.root≠b.root):=by
   intro j bj hj;have hj1:=JO hj;obtain ⟨rbj,hj2,hj3⟩:=QB hj;rw [hget] at hj1;split at hj1
   ·rename_i e;subst e;cases hj1;exact .inl ⟨rfl,rfl⟩
   ·rename_i e;split at hj1
    ·rename_i e2;subst e2;cases hj1
     exfalso
     rw [hget,Jd (by simpa [hrr] using (Ne.symm hne)),Jf hrr.symm] at hj2;cases hj2;cases hj3
    ·rename_i e2;rw [hget,Jd (fun he=>nochild j bj hj1 he.symm)] at hj2;split at hj2
     ·cases hj2;cases hj3
     ·rename_i e3;exact .inr ⟨Ne.symm e,QQ hj1 hj2 hj3,Ne.symm e3⟩
  refine ⟨hbel,h.size, ?_, ?_, ?_, ?_, ?_, ?_, ?_, ?_⟩
  ·intro j hj;rw [hget] at hj;split at hj
   ·cases hj
   ·split at hj
    ·cases hj
    ·exact h.dom j hj
  ·intro j bj hj;rw [hget] at hj;split at hj
   ·rename_i e;subst e;exact ⟨r,hr⟩
   ·split at hj
    ·rename_i e2;subst e2;exact h.blk _ rb hrb
    ·exact h.blk j bj hj
  ·intro j bj rj hj hrj;rcases hal j bj hj with ⟨rfl,rfl⟩|⟨h1,h2,h3⟩
   ·rw [hr] at hrj;cases hrj;unfold Qx at hnew ⊢;exact hnew
   ·refine (h.holds j bj rj h2 hrj).of_block (hoth _ fun he=>h3 (hfam j bj rj h2 hrj he))
  ·intro j bj hj;rw [hget] at hj;split at hj
   ·rename_i e;subst e;cases hj;exact ⟨_,by rw [hget,Jf rfl],rfl,fun hx=>absurd rfl hx⟩
   ·rename_i e;split at hj
    ·rename_i e2;subst e2;cases hj;dsimp only;refine ⟨{ rb with dead:=true }, ?_,rfl,fun hx=>absurd hrr hx⟩;rw [hget,hrr,Jd (Ne.symm hne),Jf rfl]
    ·obtain ⟨rbj,h1,h2,h3⟩:=h.roots j bj hj;by_cases e3:b.root=bj.root
     ·rw [←e3,hrb] at h1;cases h1;refine ⟨{ rb with dead:=true }, ?_,by rw [←e3];exact hrr, ?_⟩
      ·rw [hget,Jd (fun he=>nochild j bj hj he.symm),Jf e3]
      ·intro hx;exact h3 (by rw [←e3] at hx ⊢;exact hx)
     ·refine ⟨rbj, ?_,h2,h3⟩;rw [hget,Jd (fun he=>nochild j bj hj he.symm),Jd e3];exact h1
  ·
   have wit : ∀j bj,(m.put i b o).get j=some bj→(j=i∧bj.root=i)∨(j≠i∧bj.root≠i ∧ ∃b0,m.get j=some b0∧b0.root=bj.root∧b0.sup=bj.sup):=by
    intro j bj hj;rw [hget] at hj;split at hj
    ·rename_i e;subst e;cases hj;exact .inl ⟨rfl,rfl⟩
    ·rename_i e;split at hj
     ·rename_i e2;subst e2;cases hj;exact .inr ⟨Ne.symm e,by rw [hrr];exact hne,rb,hrb,rfl,rfl⟩
     ·exact .inr ⟨Ne.symm e,nochild j bj hj,bj,hj,rfl,rfl⟩
   intro j k bj bk hj hk he hsj hsk;rcases wit j bj hj with ⟨rfl,h1⟩|⟨h1,h2,b1,h3,h4,h5⟩ <;> rcases wit k bk hk with ⟨rfl,k1⟩|⟨k1,k2,b2,k3,k4,k5⟩
   ·rfl
   ·exact absurd (he.symm.trans h1) k2
   ·exact absurd (he.trans k1) h2
   ·exact h.tip j k b1 b2 h3 k3 (by rw [h4,k4];exact he) (by rw [h5];exact hsj) (by rw [k5];exact hsk)
  ·intro j k bj bk rj rk hj hk hrj hrk he;rcases hal j bj hj with ⟨rfl,rfl⟩|⟨h1,h2,h3⟩ <;> rcases hal k bk hk with ⟨rfl,rfl⟩|⟨k1,k2,k3⟩
   ·exact .inl rfl
   ·rw [hr] at hrj;cases hrj;exact absurd (hfam k bk rk k2 hrk he.symm) k3
   ·rw [hr] at hrk;cases hrk;exact absurd (hfam j bj rj h2 hrj he) h3
   ·exact h.sep j k bj bk rj rk h2 k2 hrj hrk he
  ·intro j k bj bk rj rk hj hk hrj hrk he hrt hsk;rcases hal j bj hj with ⟨rfl,rfl⟩|⟨h1,h2,h3⟩ <;> rcases hal k bk hk with ⟨rfl,rfl⟩|⟨k1,k2,k3⟩
   ·rw [hrj] at hrk;cases hrk;exact Je _
   ·rw [hr] at hrj;cases hrj;exact absurd (hfam k bk rk k2 hrk he.symm) k3
   ·rw [hr] at hrk;cases hrk;exact absurd (hfam j bj rj h2 hrj he) h3
   ·exact h.top j k bj bk rj rk h2 k2 hrj hrk he hrt hsk
  ·intro j bj hj hrj;rw [hget] at hj;split at hj
   ·rename_i e;subst e;cases hj;rw [hro] at hrj;cases hrj
   ·split at hj
    ·rename_i e2;subst e2;cases hj;exact h.rosup _ rb hrb hrj
    ·exact h.rosup j bj hj hrj
end Go.IM
namespace Go.IM
open Go Go.RowKit
variable {P:Program} {B:Nat} {w0:World} {ρ:Ren} {m:M} {w:World}
def M.gen (m:M) (i:Nat) (b:Blk) (o:Obj):M:=((m.set i { b with sup:=true }).set m.nxt { obj:=o,root:=b.root }).bump
theorem Inv.gen (h:Inv P B w0 ρ m w) (hf:m.get m.nxt=none) {i:Nat} {b:Blk} (ha:m.alive i=some b) (hro:b.ro=false) (hsup:b.sup=false) {ri:RE} (hri:ρ i=some ri) (o:Obj) (r:RE)
  {w':World} (hbel:Below B w0 w')
  (hold : ∀j bj rj,m.alive j=some bj→ρ j=some rj→Qx P B (ρ.upd m.nxt r) bj rj w')
  (hnew:Qx P B (ρ.upd m.nxt r) { obj:=o,root:=b.root } r w')
  (hg:(r.g=ri.g∧ri.n≤r.n)∨(∀j bj rj,m.alive j=some bj→ρ j=some rj→rj.g≠r.g)):Inv P B w0 (ρ.upd m.nxt r) (m.gen i b o) w':=by
 have hgi:=JO ha;have hin:i≠m.nxt:=by intro e;rw [e,hf] at hgi;cases hgi
 obtain ⟨rb,hrb,hrr,hrs⟩:=h.roots i b hgi;obtain ⟨rb',hrb',hdead⟩:=QB ha;rw [hrb] at hrb';cases hrb';have hrn:b.root≠m.nxt:=Jb1 h hf hgi;have hget : ∀j,(m.gen i b o).get j=if j=m.nxt then some { obj:=o,root:=b.root } else if i=j then some { b with sup:=true } else m.get j:=by
  intro j;simp only [M.gen,M.get_bump,M.get_set];by_cases e:j=m.nxt
  ·subst e;simp
  ·rw [Jd e,Jd (Ne.symm e)]
 have hnow : ∀j bj,m.get j=some bj→(m.gen i b o).get j=some { bj with sup:=bj.sup || decide (i=j) }:=by
  intro j bj hj;rw [hget,Jd (by intro e;rw [e,hf] at hj;cases hj)]
  split
  ·rename_i e;subst e;rw [hgi] at hj;cases hj;simp
  ·rename_i e;simp [hj,e]
 have hwas : ∀j bj,(m.gen i b o).get j=some bj→(j=m.nxt∧bj = { obj:=o,root:=b.root })∨(j≠m.nxt ∧ ∃b0,m.get j=some b0∧bj = { b0 with sup:=b0.sup || decide (i=j) }):=by
  intro j bj hj;rw [hget] at hj;split at hj
  ·rename_i e;cases hj;exact .inl ⟨e,rfl⟩
  ·rename_i e;split at hj
   ·rename_i e2;subst e2;cases hj;exact .inr ⟨e,b,hgi,by simp⟩
   ·rename_i e2;exact .inr ⟨e,bj,hj,by simp [e2]⟩
 have halive : ∀j bj,(m.gen i b o).alive j=some bj→(j=m.nxt∧bj = { obj:=o,root:=b.root })∨(j≠m.nxt ∧ ∃b0,m.alive j=some b0∧bj = { b0 with sup:=b0.sup || decide (i=j) }):=by
  intro j bj hj;obtain ⟨rj,hj1,hj2⟩:=QB hj;rcases hwas j bj (JO hj) with h1|⟨h1,b0,h2,h3⟩
  ·exact .inl h1
  ·refine .inr ⟨h1,b0, ?_,h3⟩;subst h3;dsimp only at hj1;rcases hwas _ _ hj1 with ⟨h4,_⟩|⟨_,b1,h5,h6⟩
   ·exact absurd h4 (Jb1 h hf h2)
   ·exact QQ h2 h5 (by subst h6;exact hj2)
 have hle:=Ren.le_upd ρ m.nxt r (h.dom _ hf);have hholdsup : ∀(bj:Blk) (s:Bool) (rj:RE),Qx P B (ρ.upd m.nxt r) bj rj w'→Qx P B (ρ.upd m.nxt r) { bj with sup:=s } rj w':=fun bj s rj hh=>by unfold Qx at hh ⊢;exact hh
 refine ⟨hbel,h.size, ?_, ?_, ?_, ?_, ?_, ?_, ?_, ?_⟩
 ·intro j hj;rw [hget] at hj;split at hj
  ·cases hj
  ·rename_i e;split at hj
   ·cases hj
   ·rw [Ren.upd_ne _ _ e];exact h.dom j hj
 ·intro j bj hj;rcases hwas j bj hj with ⟨rfl,_⟩|⟨h1,b0,h2,_⟩
  ·exact ⟨r,Ren.upd_same _ _ _⟩
  ·rw [Ren.upd_ne _ _ h1];exact h.blk j b0 h2
 ·intro j bj rj hj hrj;rcases halive j bj hj with ⟨rfl,rfl⟩|⟨h1,b0,h2,rfl⟩
  ·rw [Ren.upd_same] at hrj;cases hrj;exact hnew
  ·rw [Ren.upd_ne _ _ h1] at hrj;exact hholdsup _ _ _ (hold j b0 rj h2 hrj)
 ·intro j bj hj;rcases hwas j bj hj with ⟨rfl,rfl⟩|⟨h1,b0,h2,rfl⟩
  ·dsimp only;refine ⟨_,hnow _ rb hrb,hrr,fun _ => ?_⟩;by_cases e:i=b.root
   ·simp [e]
   ·simp [hrs (Ne.symm e)]
  ·obtain ⟨r0,k1,k2,k3⟩:=h.roots j b0 h2;dsimp only;exact ⟨_,hnow _ r0 k1,k2,fun hx=>by simp [k3 hx]⟩
 ·intro j k bj bk hj hk he hsj hsk;rcases hwas j bj hj with ⟨rfl,rfl⟩|⟨h1,b0,h2,rfl⟩ <;> rcases hwas k bk hk with ⟨rfl,rfl⟩|⟨k1,b1,k2,rfl⟩
  ·rfl
  ·dsimp only at he hsk;simp only [JP,decide_eq_false_iff_not] at hsk;exact absurd (h.tip i k b b1 hgi k2 he hsup hsk.1) hsk.2
  ·dsimp only at he hsj;simp only [JP,decide_eq_false_iff_not] at hsj;exact absurd (h.tip i j b b0 hgi h2 he.symm hsup hsj.1) hsj.2
  ·dsimp only at he hsj hsk;simp only [JP,decide_eq_false_iff_not] at hsj hsk;exact h.tip j k b0 b1 h2 k2 he hsj.1 hsk.1
 ·intro j k bj bk rj rk hj hk hrj hrk he;have side : ∀(b1:Blk) (k:Nat) (rk:RE),m.alive k=some b1→ρ k=some rk→rk.g=r.g→b1.root=b.root:=by
   intro b1 k rk k2 hrk he;rcases hg with ⟨hg1,_⟩|hg2
   ·rcases h.sep k i b1 b rk ri k2 ha hrk hri (by rw [he,hg1]) with h3|⟨_,h3⟩
    ·exact h3
    ·rw [hro] at h3;cases h3
   ·exact absurd he (hg2 k b1 rk k2 hrk)
  rcases halive j bj hj with ⟨rfl,rfl⟩|⟨h1,b0,h2,rfl⟩ <;> rcases halive k bk hk with ⟨rfl,rfl⟩|⟨k1,b1,k2,rfl⟩
  ·exact .inl rfl
  ·rw [Ren.upd_same] at hrj;cases hrj;rw [Ren.upd_ne _ _ k1] at hrk;exact .inl (side b1 k rk k2 hrk he.symm).symm
  ·rw [Ren.upd_same] at hrk;cases hrk;rw [Ren.upd_ne _ _ h1] at hrj;exact .inl (side b0 j rj h2 hrj he)
  ·rw [Ren.upd_ne _ _ h1] at hrj;rw [Ren.upd_ne _ _ k1] at hrk;exact h.sep j k b0 b1 rj rk h2 k2 hrj hrk he
 ·intro j k bj bk rj rk hj hk hrj hrk he hrt hsk;rcases halive j bj hj with ⟨rfl,rfl⟩|⟨h1,b0,h2,rfl⟩ <;> rcases halive k bk hk with ⟨rfl,rfl⟩|⟨k1,b1,k2,rfl⟩
  ·rw [hrj] at hrk;cases hrk;exact Je _
  ·dsimp only at hrt hsk;simp only [JP,decide_eq_false_iff_not] at hsk;exact absurd (h.tip i k b b1 hgi (JO k2) hrt hsup hsk.1) hsk.2
  ·rw [Ren.upd_same] at hrk;cases hrk;rw [Ren.upd_ne _ _ h1] at hrj;rcases hg with ⟨hg1,hg2⟩|hg2
   ·exact Jy (h.top j i b0 b rj ri h2 ha hrj hri (by rw [he,hg1]) hrt hsup) hg2
   ·exact absurd he (hg2 j b0 rj h2 hrj)
  ·dsimp only at hrt hsk;simp only [JP,decide_eq_false_iff_not] at hsk;rw [Ren.upd_ne _ _ h1] at hrj;rw [Ren.upd_ne _ _ k1] at hrk;exact h.top j k b0 b1 rj rk h2 k2 hrj hrk he hrt hsk.1
 ·intro j bj hj hrj;rcases hwas j bj hj with ⟨rfl,rfl⟩|⟨h1,b0,h2,rfl⟩
  ·cases hrj
  ·dsimp only at hrj ⊢;obtain ⟨k1,k2⟩:=h.rosup j b0 h2 hrj;refine ⟨?_,k2⟩;have:i≠j:=by
    intro e;subst e;rw [hgi] at h2;cases h2;rw [hro] at hrj;cases hrj
   simp [k1,this]
end Go.IM
namespace Go.IM
open Go Go.RowKit
def J4 {α:Type} (P:Program):Sem α→Option α
 | .pure a=>some a
 | .program k=>J4 P (k P)
 | .mark _ k=>J4 P k
 | _=>none
def one:Value→Bool
 | .agg _ | .tuple _=>false
 | _=>true
def M.row (m:M) (i:Nat):Option (Array Value × TypeId):=
 match m.alive i with
 | some b=>match b.obj with
  | .cells c e _=>some (c,e)
  | _=>none
 | none=>none
def M.cell (m:M) (i o:Nat):Option Value:=
 match m.row i with
 | some (c,_)=>c[o]?
 | none=>none
def M.cells (m:M) (i o n:Nat):Option (Array Value):=
 match m.row i with
 | some (c,_)=>if o+n≤c.size then some (c.extract o (o+n)) else none
 | none=>none
def wr (c:Array Value) (o:Nat):List Value→Array Value
 | []=>c
 | v::r=>wr (c.setIfInBounds o v) (o+1) r
def M.store (m:M) (i o:Nat) (vs:List Value):Option M:=
 match m.alive i with
 | some b=>match b.obj with
  | .cells c e fr=>if b.ro=false∧b.sup=false∧o+vs.length≤c.size∧vs.all one=true∧m.bar≤i∧m.bar≤b.root then some (m.put i b (.cells (wr c o vs) e fr)) else none
  | _=>none
 | none=>none
def M.new (m:M) (c:Array Value) (e:TypeId):Option (Addr × M):=
 match m.get m.nxt with
 | none=>some (⟨m.nxt,0,none⟩,m.mk1 (.cells c e))
 | some _=>none
def Jed (P:Program) (t:TypeId):Option Bool:=
 match P.underlying t with
 | some (.struct _) | some (.array _ _)=>some true
 | some _=>some false
 | none=>none
def Jgj (P:Program) (t:TypeId) (cs:Array Value) (off:Nat):Option Value:=
 match Jed P t,P.info? t with
 | some true,some i=>some (.agg (cs.extract off (off+i.size)))
 | some false,some _=>cs[off]?
 | _,_=>none
def Ja5 (P:Program) (t:TypeId) (a:Value) (m:M):Option Value:=
 match a with
 | .pointer (some ⟨i,o,none⟩)=>
  match Jed P t,P.info? t with
  | some true,some ti=>(m.cells i o ti.size).map .agg
  | some false,some _=>m.cell i o
  | _,_=>none
 | _=>none
def XO (P:Program) (t:TypeId) (a v:Value) (m:M):Option M:=
 match a,P.info? t with
 | .pointer (some ⟨i,o,none⟩),some ti=>if v.cells.size=ti.size then m.store i o v.cells.toList else none
 | _,_=>none
def QI (P:Program) (t:TypeId):Option Value:=
 match P.info? t with
 | some i=>match i.zero with
  | some z=>if flat 3 z then some z else none
  | none=>none
 | none=>none
def Jlf (x:Value) (y:Nat):Option Nat:=
 match x with
 | .int _ i=>if 0≤i∧i≤(y:Int) then some i.toNat else none
 | _=>none
def Jar (x:Option Value) (d y:Nat):Option Nat:=
 match x with
 | some v=>Jlf v y
 | none=>some d
def Jla (mx:Option Value) (h mm:Nat) (sp:Option Nat):Option Nat:=if mx.isSome=true∧h=mm then some 0 else sp
@[simp] theorem capMk_none (h mm:Nat) (sp:Option Nat):Jla none h mm sp=sp:=rfl
def QD (P : Program) (t : TypeId) (x : Value) (lo hi mx : Option Value) (m : M) : Option Value :=
 match P.underlying t,x with
 | some (.slice e), .slice a len cap =>
  match P.info? e,Jar mx cap cap with
  | some ti, some mm =>
   if mx.isSome=true∧hi.isNone=true then none else
   match Jar hi len mm with
   | some h => match Jar lo 0 h with
    | some l=>
     if h≤mm∧l≤h then
      match a with
      | none=>if len=0∧cap=0 then some (.slice none 0 0) else none
      | some ⟨i,o,sp⟩=>
       if cap=0 then some (.slice (some ⟨i,o,Jla mx h mm sp⟩) 0 0) else
       match m.row i with
       | some (_,e')=>if P.cellsOf e'=ti.size then some (.slice (some ⟨i,o+l*ti.size,Jla mx h mm sp⟩) (h - l) (mm - l)) else none
       | none=>none
     else none
    | none=>none
   | none=>none
  | _,_=>none
 | _,_=>none
def Ql (P:Program) (t:TypeId) (x ix:Value):Option Value:=
 match P.underlying t,x,ix with
 | some (.slice e),.slice (some ⟨i,o,_⟩) len _,.int _ k=>
  match P.info? e with
  | some ti=>if 0≤k∧k<len then some (.pointer (some ⟨i,o+k.toNat*ti.size,none⟩)) else none
  | none=>none
 | some (.array len e),.pointer (some ⟨i,o,none⟩),.int _ k=>
  match P.info? e with
  | some ti=>if 0≤k∧k<len then some (.pointer (some ⟨i,o+k.toNat*ti.size,none⟩)) else none
  | none=>none
 | _,_,_=>none
def Q1 (P:Program) (s:TypeId) (x:Value) (f:Nat):Option Value:=
 match P.underlying s,x with
 | some (.struct fields),.pointer (some ⟨i,o,none⟩)=>
  match fields[f]? with
  | some fd=>match P.info? fd.type with
   | some ti=>if ti.size=0 then none else some (.pointer (some ⟨i,o+fd.offset,none⟩))
   | none=>none
  | none=>none
 | _,_=>none
def Jfv (P:Program) (s:TypeId) (x:Value) (f:Nat):Option Value:=
 match P.underlying s,x with
 | some (.struct fields),.agg cs=>
  match fields[f]? with
  | some fd=>Jgj P fd.type cs fd.offset
  | none=>none
 | _,_=>none
def Jft (P:Program) (t:TypeId) (x ix:Value):Option Value:=
 match P.underlying t,x,ix with
 | some (.array len e),.agg cs,.int _ k=>
  match P.info? e with
  | some ti=>if 0≤k∧k<len then Jgj P e cs (k.toNat*ti.size) else none
  | none=>none
 | some .string,.string s,.int _ k=>
  match (if 0≤k then s[k.toNat]? else none) with
  | some b=>some (.int .u8 b.toNat)
  | none=>none
 | _,_,_=>none
def XB (P : Program) (t : TypeId) (len : Nat) (parts : List (Nat × Value)) (m : M) : Option (Value × M) :=
 match P.underlying t with
 | some (.slice e) =>
  match P.info? e,QI P e with
  | some ti,some z=>
   if len*ti.size≤16777216 then
    match Instr.fill (fun i=>some (i*ti.size,ti.size)) ((Array.range (len*ti.size)).map ((if len*ti.size=0 then #[] else z.cells)[· % (if len*ti.size=0 then (#[]:Array Value) else z.cells).size]!)) parts with
    | some cells=>match m.new cells e with
     | some (a,m')=>if len*ti.size≤cells.size then some (.slice (some ⟨a.block,0,if len=0 then some 0 else none⟩) len len,m') else none
     | none=>none
    | none=>none
   else none
  | _,_=>none
 | _=>none
def Xn (P : Program) (t : TypeId) (len cap : Value) (m : M) : Option (Value × M) :=
 match P.underlying t,len,cap with
 | some (.slice e),.int _ l,.int _ c=>
  match P.info? e,QI P e with
  | some ti,some z=>
   if 0≤l∧l≤c∧c≤140737488355328∧(ti.bytes:Int)*c≤281474976710656 then
    match m.new ((Array.range (c.toNat*ti.size)).map ((if c.toNat*ti.size=0 then #[] else z.cells)[· % (if c.toNat*ti.size=0 then (#[]:Array Value) else z.cells).size]!)) e with
    | some (a,m')=>some (.slice (some a) l.toNat c.toNat,m')
    | none=>none
   else none
  | _,_=>none
 | _,_,_=>none
def JbI:List Value→Option (List UInt8)
 | []=>some []
 | .int .u8 n::r=>(JbI r).map (UInt8.ofNat n.toNat :: ·)
 | _=>none
def QO (x:Value) (m:M):Option Value:=
 match x with
 | .slice none _ _=>some (.string .empty)
 | .slice (some ⟨i,o,_⟩) len _=>
  match m.cells i o len with
  | some cs=>match JbI cs.toList with
   | some l=>some (.string ⟨l.toArray⟩)
   | none=>none
  | none=>if len=0 then some (.string .empty) else none
 | _=>none
def Jav (e:TypeId) (s:ByteArray) (m:M):Option (Value × M):=
 match m.new (s.data.map fun (b:UInt8) => .int .u8 b.toNat) e with
 | some (a,m')=>some (.slice (some a) s.size s.size,m')
 | none=>none
def JjM (size:Nat) (x:Value) (m:M):Option (Nat × Array Value):=
 match x with
 | .slice none 0 _=>some (0, #[])
 | .slice (some ⟨i,o,_⟩) n _=>if n*size=0 then some (n, #[]) else (m.cells i o (n*size)).map (n, ·)
 | .string s=>if size=1 then some (s.size,s.data.map fun (b:UInt8) => .int .u8 b.toNat) else none
 | _=>none
def Qr (P : Program) (e : TypeId) (ti : TypeInfo) (base : Option Addr) (len cap : Nat) (x : Value) (m : M) : Option (Value × M) :=
 match JjM ti.size x m with
 | some (n, cs) =>
  if n=0 then (if len≤cap then some (.slice base len cap,m) else none)
  else if (len+n)*ti.bytes > 140737488355328∨len+n > 9223372036854775807∨cs.all one=false then none
  else match base with
   | none=>if len=0∧cap=0 then (match m.new cs e with | some (a,m')=>some (.slice (some a) n n,m') | none=>none) else none
   | some ⟨i, o, none⟩ =>
    match m.alive i with
    | some b => match b.obj with
     | .cells c e' fr=>
      if P.cellsOf e'≠ti.size then none
      else if len+n≤cap then (m.store i (o+len*ti.size) cs.toList).map (.slice (some ⟨i,o,none⟩) (len+n) cap, ·)
      else if o+cap*ti.size<c.size∨b.ro=true then
       (if o+len*ti.size≤c.size then (match m.new (c.extract o (o+len*ti.size)++cs) e with | some (a,m')=>some (.slice (some a) (len+n) (len+n),m') | none=>none) else none)
      else if o=0∧len=cap∧b.sup=false∧c.size=len*ti.size∧b.root≤m.nxt then
       (match m.get m.nxt with
        | none=>some (.slice (some ⟨m.nxt,0,none⟩) (len+n) (len+n),m.gen i b (.cells (c++cs) e' fr))
        | some _=>none)
      else none
     | _=>none
    | none=>none
   | some ⟨i,o,some _⟩=>
    if len+n≤cap then none
    else if len=0 then (match m.new cs e with | some (a,m')=>some (.slice (some a) n n,m') | none=>none)
    else match m.row i,m.cells i o (len*ti.size) with
     | some (_,e'),some c0=>if P.cellsOf e'=ti.size then (match m.new (c0++cs) e with | some (a,m')=>some (.slice (some a) (len+n) (len+n),m') | none=>none) else none
     | _,_=>none
 | none=>none
def Xh (P:Program) (t:TypeId) (xt:Option TypeId) (s x:Value) (m:M):Option (Value × M):=
 match P.underlying t,s with
 | some (.slice e),.slice base len cap=>
  match P.info? e,QI P e with
  | some ti,some z=>
   if ti.size=0∨z.cells.size≠ti.size then none else
   match xt.bind P.underlying with
   | some (.slice _) | some .string=>Qr P e ti base len cap x m
   | _=>none
  | _,_=>none
 | _,_=>none
def Jci:Value→Option Nat
 | .slice _ n _=>some n
 | .string s=>some s.size
 | _=>none
def XR (size k:Nat) (m:M):Value→Option (Array Value)
 | .slice none _ _=>some #[]
 | .slice (some ⟨i,o,_⟩) _ _=>if k*size=0 then some #[] else m.cells i o (k*size)
 | .string s=>if size=1 then some ((s.extract 0 k).data.map fun (b:UInt8) => .int .u8 b.toNat) else none
 | _=>none
def Jfx (P : Program) (t : TypeId) (dst src : Value) (m : M) : Option (Value × M) :=
 match P.underlying t,dst with
 | some (.slice e), .slice base dl _ =>
  match P.info? e,Jci src with
  | some ti,some n=>
   match XR ti.size (min n dl) m src with
   | some cs=>
    if min n dl=0 then some (.int .i64 0,m)
    else match base with
     | some ⟨i,o,_⟩=>(m.store i o cs.toList).map (.int .i64 (min n dl:Nat), ·)
     | _=>none
   | none=>none
  | _,_=>none
 | _,_=>none
def XP (P:Program) (t:TypeId) (x y:Value):Option Bool:=
 match P.underlying t,x,y with
 | some (.pointer _),.pointer none,.pointer b=>some b.isNone
 | some (.pointer _),.pointer (some _),.pointer none=>some false
 | some (.slice _),.slice none _ _,.slice b _ _=>some b.isNone
 | some (.slice _),.slice (some _) _ _,.slice none _ _=>some false
 | some (.map _ _),.map none,.map b=>some b.isNone
 | some (.map _ _),.map (some _),.map none=>some false
 | some (.func _ _ _),.nilFunc,.func .. => some false
 | some (.func _ _ _),.func .., .nilFunc=>some false
 | some (.interface _),.nilIface,.iface .. => some false
 | some (.interface _),.iface .., .nilIface=>some false
 | _,_,_=>none
def M.mapOf (m:M) (i:Nat):Option (Array MapEntry × Nat):=
 match m.alive i with
 | some b=>match b.obj with
  | .map es clock=>some (es,clock)
  | _=>none
 | none=>none
def M.putObj (m:M) (i:Nat) (o:Obj):Option M:=
 match m.alive i with
 | some b=>if b.ro=false∧b.sup=false∧m.bar≤i∧m.bar≤b.root then some (m.put i b o) else none
 | none=>none
def M.newO (m:M) (o:Obj):Option (Nat × M):=
 match m.get m.nxt with
 | none=>some (m.nxt,m.mk1 o)
 | some _=>none
def QW:TypeDesc→Value→Bool
 | .int k,.int k' _=>decide (k'=k)
 | .string,.string _ | .bool,.bool _=>true
 | _,_=>false
def JkH (P:Program) (t:TypeId):Option (TypeDesc × TypeId):=
 match P.underlying t with
 | some (.map k e)=>(P.underlying k).map fun d=>(d,e)
 | _=>none
def JdV (d:TypeDesc) (k:Value) (es:Array MapEntry):Option (Option (Nat × Value)):=if QW d k then Instr.findNow d k es.toList 0 else none
def Jaq (P:Program) (e:TypeId) (ok:Bool):Option (Nat × Value)→Option Value
 | some (_,v)=>some (if ok then .tuple #[v,.bool true] else v)
 | none=>(QI P e).map fun z=>if ok then .tuple #[z,.bool false] else z
def Q8 (P:Program) (t:TypeId) (x k:Value) (ok:Bool) (m:M):Option Value:=
 match JkH P t,x with
 | some (d,e),.map none=>if QW d k then Jaq P e ok none else none
 | some (d,e),.map (some i)=>match m.mapOf i with
  | some (es,_)=>match JdV d k es with
   | some r=>Jaq P e ok r
   | none=>none
  | none=>none
 | _,_=>none
def Xf (P:Program) (t:TypeId) (x k v:Value) (m:M):Option M:=
 match JkH P t,x with
 | some (d,_),.map (some i)=>match m.mapOf i with
  | some (es,clock)=>match JdV d k es with
   | some (some (j,_))=>m.putObj i (.map (es.modify j fun e => { e with key:=k,val:=v }) clock)
   | some none=>m.putObj i (.map (es.push { key:=k,val:=v,born:=clock }) (clock+1))
   | none=>none
  | none=>none
 | _,_=>none
def X8 (P:Program) (t:TypeId) (x k:Value) (m:M):Option M:=
 match JkH P t,x with
 | some (d,_),.map none=>if QW d k then some m else none
 | some (d,_),.map (some i)=>match m.mapOf i with
  | some (es,clock)=>match JdV d k es with
   | some (some (j,_))=>m.putObj i (.map (es.eraseIdxIfInBounds j) clock)
   | some none=>m.putObj i (.map es clock)
   | none=>none
  | none=>none
 | _,_=>none
def Jby (P:Program) (t:TypeId) (x:Value) (m:M):Option Obj:=
 match P.underlying t,x with
 | some .string,.string s=>some (.stringIter s 0)
 | some (.map _ _),.map none=>some (.mapIter none 0 #[] 0)
 | some (.map _ _),.map (some i)=>match m.mapOf i with
  | some (_,clock)=>some (.mapIter (some i) clock #[] clock)
  | none=>none
 | _,_=>none
def Jee (P:Program) (t:TypeId) (x:Value) (m:M):Option (Value × M):=
 match Jby P t x m with
 | some o=>match m.newO o with
  | some (n,m1)=>some (.pointer (some ⟨n,0,none⟩),m1)
  | none=>none
 | none=>none
def Ja1 (es:Array MapEntry) (since:Nat) (seen:Array Nat):Array (Option MapEntry):=
 (if ((es.filter fun e => !seen.contains e.born).filter (·.born<since)).isEmpty then #[none] else #[]) ++
  (((es.filter fun e => !seen.contains e.born).filter (·.born<since))++((es.filter fun e => !seen.contains e.born).filter (·.born≥since))).map some
def Xx (m:M) (i:Nat) (isStr:Bool):Obj→Option (Value × M)
 | .stringIter s pos=>if isStr then
   if pos<s.size then (m.putObj i (.stringIter s (pos+(Utf8.decode s pos).2))).map fun m1=>(.tuple #[.bool true,.int .i64 pos,.int .i32 (Utf8.decode s pos).1],m1)
   else some (.tuple #[.bool false],m)
  else none
 | .mapIter none _ _ _=>if isStr then none else some (.tuple #[.bool false],m)
 | .mapIter (some j) since seen last=>if isStr then none else
  match m.mapOf j with
  | some (es,clock)=>
   if (!seen.isEmpty && !es.isEmpty && es.all (·.born≥last)) then none else
   match (Ja1 es since seen).toList with
   | [some e]=>(m.putObj i (.mapIter (some j) since (seen.push e.born) clock)).map fun m1=>(.tuple #[.bool true,e.key,e.val],m1)
   | [none]=>some (.tuple #[.bool false],m)
   | _=>none
  | none=>none
 | _=>none
def JhN (it:Value) (isStr:Bool) (m:M):Option (Value × M):=
 match it with
 | .pointer (some ⟨i,0,none⟩)=>match m.alive i with
  | some b=>Xx m i isStr b.obj
  | none=>none
 | _=>none
def Jef (it : Value) (m : M) : Option Value :=
 match it with
 | .pointer (some ⟨i,0,none⟩)=>match m.alive i with
  | some b=>match b.obj with
   | .mapIter (some j) _ seen stepped=>match seen.back?, m.mapOf j with
    | some stamp,some (es,clock)=>if clock=stepped then (es.toList.find? (·.born == stamp)).map fun e => .tuple #[e.key,e.val] else none
    | _,_=>none
   | _=>none
  | none=>none
 | _=>none
def QF (P:Program) (t:TypeId) (r:Option Value) (m:M):Option (Value × M):=
 match r,P.underlying t with
 | none,_ | some (.int _ _),some (.map _ _)=>match m.newO (.map #[] 0) with
  | some (n,m1)=>some (.map (some n),m1)
  | none=>none
 | _,_=>none
inductive Res where
 | val (v:Value) (m:M)
 | skip (m:M)
 | dfr (d:Deferred) (m:M)
 | call (f:FuncId) (args:Array Value) (m:M)
 | pnc (v:Value) (m:M)
def XW (ev:Operand→Value) (o:Oper):Bool:=o.op.operands.all fun x=>flat 4 (ev x)
def QT (P:Program) (ev:Operand→Value) (o:Oper) (m:M):Option Res:=
 if XW ev o then
  match J4 P (execOp ev o) with
  | some (.value v)=>if flat 5 v then some (.val v m) else none
  | _=>none
 else none
def Jnq (P : Program) (t : TypeId) (name : String) : Option (FuncId × Bool × TypeId) :=
 match P.info? t with
 | some ti=>match ti.methods.find? (·.name == name) with
  | some me=>match me.path.isEmpty,me.func,P.underlying t with
   | true,some (f,ptr),some (.pointer e)=>match P.funcs[f]? with
    | some fn => if fn.body.isSome && !(fn.name == "runtime.NumGoroutine") then some (f, ptr, e) else none
    | none=>none
   | _,_,_=>none
  | none=>none
 | none=>none
def JbC (P:Program) (name:String) (recv:Value) (args:Array Value) (m:M):Option Res:=
 match recv with
 | .iface t (.pointer (some a))=>match Jnq P t name with
  | some (f,true,_)=>some (.call f (#[.pointer (some a)]++args) m)
  | some (f,false,e)=>(Ja5 P e (.pointer (some a)) m).map fun v => .call f (#[v]++args) m
  | none=>none
 | _=>none
def Jbm (args:Array Value) (m:M):Option Res:=
 match args.toList with
 | [.iface t (.map (some i))]=>match m.mapOf i with
  | some (es,clock)=>match m.newO (.map es clock) with
   | some (n,m1)=>some (.val (.iface t (.map (some n))) m1)
   | none=>none
  | none=>none
 | _=>none
def JhJ (fn : Func) : Bool := fn.body.isNone && fn.name == "maps.clone" && fn.origin == ""
def JaT (P:Program) (ev:Operand→Value) (o:Oper) (c:Call) (m:M):Option Res:=
 match c.callee with
 | .value f=>match ev f with
  | .func (.func k) first captured=>
   match P.funcs[k]? with
   | some fn => if fn.body.isSome && !(fn.name == "runtime.NumGoroutine") then some (.call k (first ++ c.args.map ev ++ captured) m) else if JhJ fn then Jbm (first ++ c.args.map ev ++ captured) m else QT P ev o m
   | none=>none
  | _=>none
 | .builtin .len=>match (c.args[0]?).map ev,(c.argTypes[0]?).bind P.underlying with
  | some (.slice _ n _),some (.slice _)=>some (.val (.int .i64 (n:Nat)) m)
  | _,_=>QT P ev o m
 | .builtin .append=>match (c.args[0]?).map ev,(c.args[1]?).map ev,c.argTypes[0]? with
  | some s,some x,some t=>if c.args.size=2 then (Xh P t c.argTypes[1]? s x m).map fun (v,m') => .val v m' else none
  | _,_,_=>none
 | .builtin .copy=>match (c.args[0]?).map ev,(c.args[1]?).map ev,c.argTypes[0]? with
  | some s,some x,some t=>if c.args.size=2 then (Jfx P t s x m).map fun (v,m') => .val v m' else none
  | _,_,_=>none
 | .builtin .delete=>match (c.args[0]?).map ev,(c.args[1]?).map ev,c.argTypes[0]? with
  | some x,some k,some t=>if c.args.size=2 then (X8 P t x k m).map fun m' => .val (.tuple #[]) m' else none
  | _,_,_=>none
 | .builtin .recover=>none
 | .builtin .panic=>none
 | .builtin _=>QT P ev o m
 | .invoke r name=>JbC P name (ev r) (c.args.map ev) m
def Jfw (ev:Operand→Value) (c:Call) (m:M):Option Res:=
 match c.callee with
 | .value f=>match ev f with
  | .func (.func k) first captured=>some (.dfr { target := .fn (.func k) captured,args:=first++c.args.map ev } m)
  | _=>none
 | _=>none
def Q9 (P:Program) (ev:Operand→Value) (o:Oper) (src dst:TypeId) (x:Value) (m:M):Option Res:=
 match P.underlying src,P.underlying dst,x with
 | some .string,some (.slice e),.string s=>
  match P.underlying e with
  | some (.int .u8)=>if P.cellsOf e=1 then (Jav e s m).map fun (v,m') => .val v m' else none
  | _=>none
 | some (.slice e),some .string,x=>
  match P.underlying e with
  | some (.int .u8)=>(QO x m).map fun v => .val v m
  | _=>none
 | some (.slice _),some (.slice e),.slice (some a) n c=>
  match src == dst,P.underlying e,m.alive a.block with
  | true,some (.int .u8),some b=>match b.obj with
   | .cells _ _ _=>if b.ro=true∨c=0∨a.spot.isSome=true then none else some (.val (.slice (some a) n c) m)
   | _=>none
  | _,_,_=>none
 | _,_,_=>QT P ev o m
def iop (P:Program) (ev:Operand→Value) (o:Oper) (m:M):Option Res:=
 match o.op with
 | .move x | .assign x=>some (.val (ev x) m)
 | .pick c a b=>match ev c with
  | .bool t=>some (.val (if t then ev a else ev b) m)
  | _=>none
 | .alloc t=>match QI P t with
  | some z=>(m.new z.cells t).map fun (a,m') => .val (.pointer (some a)) m'
  | none=>none
 | .box t x=>(m.new (ev x).cells t).map fun (a,m') => .val (.pointer (some a)) m'
 | .build t parts=>(J4 P (Instr.build t (parts.map fun (i,x)=>(i,ev x)))).bind fun v=>match QI P t with
  | some _=>some (.val v m)
  | none=>none
 | .buildSlice t len parts=>(XB P t len (parts.map fun (i,x)=>(i,ev x)).toList m).map fun (v,m') => .val v m'
 | .load t a=>(Ja5 P t (ev a) m).map fun v => .val v m
 | .store t a x=>(XO P t (ev a) (ev x) m).map .skip
 | .nilCheck x=>match ev x with
  | .pointer none | .nilIface | .nilFunc=>none
  | .func (.method _) _ _=>none
  | v=>some (.val v m)
 | .binOp .eql t x y _=>match XP P t (ev x) (ev y) with
  | some b=>some (.val (.bool b) m)
  | none=>QT P ev o m
 | .binOp .neq t x y _=>match XP P t (ev x) (ev y) with
  | some b=>some (.val (.bool (!b)) m)
  | none=>QT P ev o m
 | .convert src dst x=>Q9 P ev o src dst (ev x) m
 | .makeInterface t x=>match P.underlying t with
  | some (.interface _) | none=>none
  | some _=>some (.val (.iface t (ev x)) m)
 | .makeFunc fn first captured=>if Jkg fn then some (.val (.func fn (first.map ev) (captured.map ev)) m) else none
 | .makeSlice t l c=>(Xn P t (ev l) (ev c) m).map fun (v,m') => .val v m'
 | .slice t x lo hi mx=>match QD P t (ev x) (lo.map ev) (hi.map ev) (mx.map ev) m with
  | some v=>some (.val v m)
  | none=>QT P ev o m
 | .fieldAddr s x f=>(Q1 P s (ev x) f).map fun v => .val v m
 | .field s x f=>(Jfv P s (ev x) f).map fun v => .val v m
 | .indexAddr t x ix=>(Ql P t (ev x) (ev ix)).map fun v => .val v m
 | .index t x ix=>(Jft P t (ev x) (ev ix)).map fun v => .val v m
 | .typeAssert x _ t ok=>match P.underlying t,ev x with
  | some (.interface _),_=>none
  | some _,.iface u v=>if u=t then some (.val (if ok then .tuple #[v,.bool true] else v) m) else if ok then (QI P t).map fun z => .val (.tuple #[z,.bool false]) m else none
  | some _,.nilIface=>if ok then (QI P t).map fun z => .val (.tuple #[z,.bool false]) m else none
  | _,_=>none
 | .extract x ix=>match ev x with
  | .tuple vs=>(vs[ix]?).map fun v => .val v m
  | _=>none
 | .call c=>JaT P ev o c m
 | .defer c=>Jfw ev c m
 | .panic x=>match ev x with
  | .iface t v=>some (.pnc (.iface t v) m)
  | _=>none
 | .binOp .. | .unOp .. => QT P ev o m
 | .makeMap t r=>(QF P t (r.map ev) m).map fun (v,m') => .val v m'
 | .lookup t x k ok=>(Q8 P t (ev x) (ev k) ok m).map fun v => .val v m
 | .mapUpdate t x k v | .insert t x k v=>(Xf P t (ev x) (ev k) (ev v) m).map .skip
 | .range t x=>(Jee P t (ev x) m).map fun (v,m') => .val v m'
 | .next it s=>(JhN (ev it) s m).map fun (v,m') => .val v m'
 | .entry it=>(Jef (ev it) m).map fun v => .val v m
 | _=>none
end Go.IM
namespace Go.IM
open Go Go.RowKit
variable {P:Program} {B:Nat} {w0:World} {ρ:Ren} {m m':M} {w:World}
theorem Je8 {α:Type} : ∀(s:Sem α) (a:α),J4 P s=some a → ∀w,s.run P w = .ok a w:=by
 intro s;induction s with
 | pure a=>intro b h w;simp [J4] at h;subst h;rfl
 | program k ih=>intro b h w;simp only [J4] at h;simp only [Sem.run];exact ih P b h w
 | mark m k ih=>intro b h w;simp only [J4] at h;simp only [Sem.run];exact ih b h w
 | _=>intro b h;simp [J4] at h
theorem Qk {α β:Type} (s:Sem α) (f:α→Sem β):J4 P (s >>= f)=(J4 P s).bind fun a=>J4 P (f a):=by
 show J4 P (s.bind f)=_;induction s with
 | pure a=>rfl
 | program k ih=>simp only [Sem.bind,J4];exact ih P
 | mark m k ih=>simp only [Sem.bind,J4];exact ih
 | _=>rfl
theorem XT (g o j:Nat):(⟨g,o,none⟩:Addr).add j=⟨g,o+j,none⟩:=Addr.add_lit g o j
theorem JlB {i:Nat} {c:Array Value} {e:TypeId} (h:m.row i=some (c,e)) : ∃b fr,m.alive i=some b∧b.obj = .cells c e fr:=by
 unfold M.row at h;split at h
 ·rename_i b hb;split at h
  ·rename_i c' e' fr ho;cases h;exact ⟨b,fr,hb,ho⟩
  ·cases h
 ·cases h
theorem Inv.row (h:Inv P B w0 ρ m w) {i:Nat} {c:Array Value} {e:TypeId} (hr:m.row i=some (c,e)) :
  ∃r,ρ i=some r∧r.n=c.size∧r.sz=P.cellsOf e ∧ ∀(k:Nat) (x:Value),c[k]? = some x → ∃y,w.cell? ⟨r.g,r.base+k,none⟩=some y∧JX ρ x y:=by
 obtain ⟨b,fr,ha,ho⟩:=JlB hr;obtain ⟨r,h1,h2⟩:=h.re ha;refine ⟨r,h1, ?_, ?_,fun k x hx=>h.cell ha ho h1 hx⟩
 ·unfold Qx at h2;rw [ho] at h2;exact h2.1
 ·unfold Qx at h2;rw [ho] at h2;exact h2.2.1
theorem Inv.cell_sound (h:Inv P B w0 ρ m w) {i o:Nat} {x:Value} (hc:m.cell i o=some x) : ∃r y,ρ i=some r∧w.cell? ⟨r.g,r.base+o,none⟩=some y∧JX ρ x y:=by
 unfold M.cell at hc;split at hc
 ·rename_i c e hr;obtain ⟨r,h1,_,_,h2⟩:=h.row hr;obtain ⟨y,h3,h4⟩:=h2 o x hc;exact ⟨r,y,h1,h3,h4⟩
 ·cases hc
theorem Inv.cells_sound (h : Inv P B w0 ρ m w) {i o n : Nat} {cs : Array Value} (hc : m.cells i o n = some cs) :
  ∃r cs',ρ i=some r∧o+n≤r.n∧JV ρ cs cs'∧cs.size=n∧(∀j v,cs'.toList[j]? = some v→w.cell? ((⟨r.g,r.base+o,none⟩:Addr).add j)=some v) ∧
   (loadCells ⟨r.g,r.base+o,none⟩ n).run P w = .ok cs' w:=by
 unfold M.cells at hc;split at hc
 ·rename_i c e hr;split at hc
  ·rename_i hle;cases hc;obtain ⟨r,h1,hn,_,h2⟩:=h.row hr;have hsz:(c.extract o (o+n)).size=n:=by simp;omega
   let f:Nat→Value:=fun j=>(w.cell? ⟨r.g,r.base+o+j,none⟩).getD undef
   have hf : ∀j,j<n→w.cell? ((⟨r.g,r.base+o,none⟩:Addr).add j)=some (f j) ∧ ∀x,(c.extract o (o+n))[j]? = some x→JX ρ x (f j):=by
    intro j hj;have hx:c[o+j]? = some c[o+j]:=by simp
    obtain ⟨y,h3,h4⟩:=h2 (o+j) _ hx;rw [XT];have h3':w.cell? ⟨r.g,r.base+o+j,none⟩=some y:=by rw [Nat.add_assoc];exact h3
    have hfj:f j=y:=by show (w.cell? ⟨r.g,r.base+o+j,none⟩).getD undef=y;rw [h3'];rfl
    refine ⟨by rw [h3',hfj],fun x hx2 => ?_⟩;rw [JA,Jf (by omega),hx] at hx2;cases hx2;rw [hfj];exact h4
   have hl : ∀j v,((Array.range n).map f).toList[j]? = some v→w.cell? ((⟨r.g,r.base+o,none⟩:Addr).add j)=some v:=by
    intro j v hv;have hj:j<n:=by
     have:=(List.getElem?_eq_some_iff.1 hv).1
     simpa using this
    rw [(hf j hj).1];rw [←hv];simp [hj]
   refine ⟨r,(Array.range n).map f,h1,by omega,⟨by simp;omega, ?_⟩,hsz,hl, ?_⟩
   ·intro j x y hx hy;have hj:j<n:=by
     have:=(Jv.1 hx).1
     omega
    have:y=f j:=by simp [hj] at hy;exact hy.symm
    rw [this];exact (hf j hj).2 x hx
   ·have:=run_loadCells_list (P:=P) w ⟨r.g,r.base+o,none⟩ ((Array.range n).map f).toList hl
    rw [Array.toArray_toList,show ((Array.range n).map f).toList.length=n by simp] at this;exact this
  ·cases hc
 ·cases hc
theorem Inv.new_sound (h:Inv P B w0 ρ m w) {c c':Array Value} {e e':TypeId} {a:Addr} (hn:m.new c e=some (a,m')) (hsz:c.size≤c'.size)
  (hv : ∀(k:Nat) (x y:Value),c[k]? = some x→c'[k]? = some y→JX ρ x y) (fr:Nat × Nat) (hfr:fr=(0,0)∨c'.size≤fr.1) :
  a=⟨m.nxt,0,none⟩∧m'=m.mk1 (.cells c e)∧m.get m.nxt=none∧ρ.le (ρ.upd m.nxt ⟨w.heap.size,0,c.size,c'.size,P.cellsOf e⟩) ∧
   Inv P B w0 (ρ.upd m.nxt ⟨w.heap.size,0,c.size,c'.size,P.cellsOf e⟩) m' (w.alloc (.cells c' e' fr)):=by
 unfold M.new at hn;split at hn
 ·rename_i hf;cases hn;have hle:=Ren.le_upd ρ m.nxt ⟨w.heap.size,0,c.size,c'.size,P.cellsOf e⟩ (h.dom _ hf);refine ⟨rfl,rfl,hf,hle,h.alloc hf _ _ _ rfl ?_⟩;unfold Qx;dsimp only;refine ⟨rfl,rfl,c',e',fr,heap_alloc_new w _,by simpa using hsz,fun k x hx => ?_,(fun h=>by cases h),fun _=>⟨Jy h.size h.below.size,rfl,rfl,hfr⟩⟩;have hk:k<c'.size:=by have:=(Jv.1 hx).1;omega
  refine ⟨c'[k],by simp [hk],(hv k x _ hx (by simp [hk])).mono hle⟩
 ·cases hn
theorem JkC (v:Value):one v=v.oneCell':=by cases v <;> rfl
theorem Qz (c:Array Value) (o:Nat) : ∀(l:List Value),(wr c o l).size=c.size:=by
 intro l;induction l generalizing c o with
 | nil=>rfl
 | cons v l ih=>simp [wr,ih]
theorem wr_rel {base : Nat} : ∀ {l l' : List Value} (o : Nat) {c c' : Array Value}, l.length = l'.length → (∀ (k : Nat) (x y : Value), l[k]? = some x → l'[k]? = some y → JX ρ x y) → base + c.size ≤ c'.size →
  (∀(k:Nat) (x:Value),c[k]? = some x → ∃y,c'[base+k]? = some y∧JX ρ x y) →
  ∀(k:Nat) (x:Value),(wr c o l)[k]? = some x → ∃y,(wr c' (base+o) l')[base+k]? = some y∧JX ρ x y:=by
 intro l;induction l with
 | nil=>intro l' o c c' hl hv hsz hc;cases l' with
  | nil=>exact hc
  | cons=>simp at hl
 | cons v l ih=>
  intro l' o c c' hl hv hsz hc;cases l' with
  | nil=>simp at hl
  | cons v' l'=>
   simp only [wr];rw [Nat.add_assoc];refine ih (o+1) (by simpa using hl) (fun k x y hx hy=>hv (k+1) x y (by simpa using hx) (by simpa using hy)) (by simpa using hsz) ?_;intro k x hx;rw [JL] at hx;by_cases e:o=k
   ·subst e;rw [Jf rfl] at hx;split at hx
    ·cases hx;refine ⟨v', ?_,hv 0 v v' rfl rfl⟩;rw [JL,Jf rfl,Jf (by omega)]
    ·cases hx
   ·rw [Jd e] at hx;obtain ⟨y,h1,h2⟩:=hc k x hx;exact ⟨y,by rw [JL,Jd (by omega)];exact h1,h2⟩
theorem Ja2 (g:Nat) (t:TypeId) (fr:Nat × Nat) (o:Nat) : ∀(vs:List Value) (i:Nat) (cur:Array Value) (w:World),w.heap[g]? = some (.cells cur t fr)→(fr=(0,0)∨cur.size≤fr.1) →
  o+i+vs.length≤cur.size→(∀v∈vs,one v=true)→(storeCells ⟨g,o,none⟩ vs i).run P w = .ok () (w.setRow g (wr cur (o+i) vs))
 | [],i,cur,w,hg,_,_,_=>by
  simp only [storeCells,wr];rw [setRow_self w g cur t fr hg];rfl
 | v::rest,i,cur,w,hg,hf,hl,h1=>by
  have hi:o+i<cur.size:=by simp at hl;omega
  have hcell:w.cell? ⟨g,o+i,none⟩=some cur[o+i]:=by simp [World.cell?, hg,hi]
  have hfro:w.frozen? ⟨g,o+i,none⟩=false:=by
   rcases hf with rfl | hf
   ·simp [World.frozen?, hg]
   ·obtain ⟨lo,hi'⟩:=fr;dsimp only at hf;simp only [World.frozen?, hg];simp;omega
  have hst:(store ((⟨g,o,none⟩:Addr).add i) v).run P w = .ok () (w.setRow g (cur.setIfInBounds (o+i) v)):=by
   rw [XT,run_store P w _ v _ (by rw [←JkC];exact h1 v (by simp)),hcell]
   simp [hfro,setCell_eq_setRow w g (o+i) cur t fr v hg]
  have ih:=Ja2 g t fr o rest (i+1) (cur.setIfInBounds (o+i) v) (w.setRow g (cur.setIfInBounds (o+i) v)) (setRow_heap w g cur _ t _ hg) (by simpa using hf) (by simp at hl ⊢;omega) (fun x hx=>h1 x (by simp [hx]))
  simp only [storeCells,Sem.run_bind,hst,Result.andThen_ok,ih,setRow_setRow];rfl
theorem Inv.store_sound (h : Inv P B w0 ρ m w) {i o : Nat} {vs vs' : List Value} (hs : m.store i o vs = some m') (hl : vs.length = vs'.length)
  (hv : ∀(k:Nat) (x y:Value),vs[k]? = some x→vs'[k]? = some y→JX ρ x y) :
  ∃r w',ρ i=some r∧r.base=0∧(storeCells ⟨r.g,o,none⟩ vs').run P w = .ok () w'∧Inv P B w0 ρ m' w'∧w'.heap.size=w.heap.size:=by
 unfold M.store at hs;split at hs
 ·rename_i b ha;split at hs
  ·rename_i c e fr ho;split at hs
   ·rename_i hc;obtain ⟨hro,hsup,hle,hone,_,_⟩:=hc;cases hs;obtain ⟨r,hr,hh⟩:=h.re ha;have hh0:=hh;unfold Qx at hh;rw [ho] at hh;obtain ⟨h1,h2,c',e',fr',h3,h4,h5,h6,h7⟩:=hh;obtain ⟨k1,k2,k3,k4⟩:=h7 hro;have hone' : ∀v∈vs',one v=true:=by
     intro v hv';obtain ⟨k,hk,rfl⟩:=List.mem_iff_getElem.1 hv';have hk':k<vs.length:=by omega
     have hrel:=hv k vs[k] vs'[k] (Jj hk') (Jj hk);have h1:one vs[k]=true:=by rw [List.all_eq_true] at hone;exact hone _ (List.getElem_mem _)
     revert h1 hrel
     generalize vs[k]=a;generalize vs'[k]=b;intro hrel h1;cases hrel <;> first | rfl | (simp [one] at h1)
    rw [k2,JG] at h4;have hrun:=Ja2 (P:=P) r.g e' fr' o vs' 0 c' w h3 k4 (by omega) hone';refine ⟨r,_,hr,k2,hrun, ?_,by simp⟩;refine h.put ha hro hsup hr _ .(.cells c' e' fr') rfl rfl rfl (by simp) k1 (fun k hk=>setRow_other w r.g k _ hk) ?_;unfold Qx;dsimp only;refine ⟨by rw [Qz];exact h1,h2,_,e',fr',setRow_heap w r.g c' _ e' fr' h3,by rw [Qz,Qz,k2,JG];exact h4, ?_,(fun hx=>by rw [hro] at hx;cases hx),fun _=>⟨k1,k2,by rw [Qz];exact k3,by rw [Qz];exact k4⟩⟩
    rw [k2] at h5 ⊢;have:=wr_rel (ρ:=ρ) (c:=c) (c':=c') (base:=0) o hl hv (by omega) h5
    simpa using this
   ·cases hs
  ·cases hs
 ·cases hs
end Go.IM
namespace Go.IM
open Go Go.RowKit
variable {P:Program} {B:Nat} {w0:World} {ρ:Ren} {m m':M} {w:World}
theorem XE {t:TypeId} {i:TypeInfo} (h:P.info? t=some i) (w:World):(typeInfo t).run P w = .ok i w:=by simp [typeInfo,h]
theorem Qb {t:TypeId} {i:TypeInfo} (h:P.info? t=some i) (w:World):(sizeOf t).run P w = .ok i.size w:=by simp [sizeOf,XE h]
theorem Jdk {t:TypeId} {b:Bool} (h:Jed P t=some b) (w:World):(isAgg t).run P w = .ok b w:=by
 unfold Jed at h
 split at h
 ·cases h;simp [isAgg,run_underlying ‹P.underlying t=_›]
 ·cases h;simp [isAgg,run_underlying ‹P.underlying t=_›]
 ·cases h
  rename_i d h1 h2 hd
  simp only [isAgg,Sem.run_bind,run_underlying hd,Result.andThen_ok]
  cases d <;> first | rfl | (exfalso;simp_all)
 ·cases h
theorem Jd8 {t:TypeId} {cs cs':Array Value} {off:Nat} {v:Value} (hc:JV ρ cs cs') (h:Jgj P t cs off=some v) : ∃v',(part t cs' off).run P w = .ok v' w∧JX ρ v v':=by
 unfold Jgj at h
 split at h
 ·rename_i i ha hi
  cases h
  have hx:=hc.extract off (off+i.size)
  exact ⟨_,by simp [part,Jdk ha,Qb hi],.agg hx.1 hx.2⟩
 ·rename_i i ha hi
  obtain ⟨y,hy,hv⟩:=hc.get h
  exact ⟨y,by simp [part,Jdk ha,hy],hv⟩
 ·cases h
theorem JdS (h:Inv P B w0 ρ m w) {t:TypeId} {a a' v:Value} (ha:JX ρ a a') (hl:Ja5 P t a m=some v) : ∃v',(Instr.loadAt t a').run P w = .ok v' w∧JX ρ v v':=by
 unfold Ja5 at hl
 split at hl
 ·rename_i i o
  cases ha
  rename_i r hr
  split at hl
  ·rename_i ti hag hti
   simp only [Ja] at hl
   obtain ⟨cs,hcs,rfl⟩:=hl
   obtain ⟨r',cs',hr',_,hv,_,_,hrun⟩:=h.cells_sound hcs
   rw [hr] at hr';cases hr'
   exact ⟨.agg cs',by simp [Instr.loadAt,Instr.sureAddr,loadVar,Jdk hag,Qb hti,hrun],.agg hv.1 hv.2⟩
  ·rename_i ti hag hti
   obtain ⟨r',y,hr',hy,hv⟩:=h.cell_sound hl
   rw [hr] at hr';cases hr'
   exact ⟨y,by simp [Instr.loadAt,Instr.sureAddr,loadVar,Jdk hag,hy],hv⟩
  ·cases hl
 ·cases hl
theorem store_sound (h:Inv P B w0 ρ m w) {t:TypeId} {a a' v v':Value} (ha:JX ρ a a') (hv:JX ρ v v') (hl:XO P t a v m=some m') :
  ∃w',(Instr.storeAt t a' v').run P w = .ok () w'∧Inv P B w0 ρ m' w':=by
 unfold XO at hl
 split at hl
 ·rename_i i o ti hti
  cases ha
  rename_i r hr
  split at hl
  ·rename_i hsz
   have hc:=hv.cells
   obtain ⟨r',w',hr',hb,hrun,hinv,_⟩:=h.store_sound (vs':=v'.cells.toList) hl (by simpa using hc.1) (fun k x y hx hy=>hc.2 k x y (by simpa using hx) (by simpa using hy))
   rw [hr] at hr';cases hr'
   have hne:v'.cells.size=ti.size:=by rw [←hc.1];exact hsz
   refine ⟨w', ?_,hinv⟩
   rw [hb,JG]
   simp [Instr.storeAt,Instr.sureAddr,storeVar,Qb hti,hne,hrun]
  ·cases hl
 ·cases hl
theorem X5 (e:TypeId) (c:Array Value) (w:World):(newRow e c).run P w = .ok ⟨w.heap.size,0,none⟩ (w.alloc (.cells c e)):=by simp [newRow]
theorem XY {t:TypeId} {z:Value} (h:QI P t=some z) (w:World):(zeroValue t).run P w = .ok z w∧flat 3 z=true ∧ ∃i,P.info? t=some i∧i.zero=some z:=by
 unfold QI at h
 split at h
 ·rename_i i hi
  split at h
  ·rename_i z' hz
   split at h
   ·cases h;exact ⟨by simp [zeroValue,XE hi,hz], ‹_›, i,hi,hz⟩
   ·cases h
  ·cases h
 ·cases h
theorem JV.refl_cells {z:Value} (h:flat 3 z=true):JV ρ z.cells z.cells:=(JaZ ρ 3 z h).cells
theorem Jhx (h:Inv P B w0 ρ m w) {c c':Array Value} {e:TypeId} {a:Addr} (hn:m.new c e=some (a,m')) (hv:JV ρ c c') :
  ∃ ρ',ρ.le ρ'∧Inv P B w0 ρ' m' (w.alloc (.cells c' e))∧a=⟨m.nxt,0,none⟩∧ρ' m.nxt=some ⟨w.heap.size,0,c.size,c'.size,P.cellsOf e⟩:=by
 obtain ⟨h1,_,_,h3,h4⟩:=h.new_sound (e':=e) hn (Nat.le_of_eq hv.1) hv.2 (0,0) (.inl rfl)
 exact ⟨_,h3,h4,h1,Ren.upd_same _ _ _⟩
theorem ptr0 {ρ':Ren} {n g N sz k:Nat} (h:ρ' k=some ⟨g,0,n,N,sz⟩):JX ρ' (.pointer (some ⟨k,0,none⟩)) (.pointer (some ⟨g,0,none⟩)):=by
 have:=JX.ptr 0 h
 simpa using this
theorem Jlh (h:Inv P B w0 ρ m w) {t:TypeId} {z:Value} {a:Addr} (hz:QI P t=some z) (hn:m.new z.cells t=some (a,m')) :
  ∃v' w' ρ',(Instr.alloc t true (.tuple #[])).run P w = .ok v' w'∧ρ.le ρ'∧Inv P B w0 ρ' m' w'∧JX ρ' (.pointer (some a)) v':=by
 obtain ⟨hr,hf,_⟩:=XY hz w
 obtain ⟨ρ',h1,h2,rfl,h3⟩:=Jhx h hn (JV.refl_cells hf)
 exact ⟨_,_,ρ',by simp [Instr.alloc,hr,newVar,X5],h1,h2,ptr0 h3⟩
theorem JpX (h:Inv P B w0 ρ m w) {t:TypeId} {v v':Value} {a:Addr} (hv:JX ρ v v') (hn:m.new v.cells t=some (a,m')) :
  ∃u w' ρ',(Instr.box t v').run P w = .ok u w'∧ρ.le ρ'∧Inv P B w0 ρ' m' w'∧JX ρ' (.pointer (some a)) u:=by
 obtain ⟨ρ',h1,h2,rfl,h3⟩:=Jhx h hn hv.cells
 exact ⟨_,_,ρ',by simp [Instr.box,newVar,X5],h1,h2,ptr0 h3⟩
def JfQ (ρ:Ren):List (Nat × Value)→List (Nat × Value)→Prop
 | [], []=>True
 | x::l,y::l'=>(x.1=y.1∧JX ρ x.2 y.2)∧JfQ ρ l l'
 | _,_=>False
theorem JhU {vs vs' : Array Value} (hv : JV ρ vs vs') {cs cs' : Array Value} (hc : JV ρ cs cs') (off : Nat) :
  JV ρ (vs.zipIdx.foldl (fun cs (c,j)=>cs.setIfInBounds (off+j) c) cs) (vs'.zipIdx.foldl (fun cs (c,j)=>cs.setIfInBounds (off+j) c) cs'):=by
 rw [←Array.foldl_toList,←Array.foldl_toList]
 simp only [Array.toList_zipIdx]
 have key : ∀(l l':List Value) (k:Nat),l.length=l'.length→(∀(i:Nat) (x y:Value),l[i]? = some x→l'[i]? = some y→JX ρ x y) → ∀{cs cs':Array Value},JV ρ cs cs' →
   JV ρ ((l.zipIdx k).foldl (fun cs (c,j)=>cs.setIfInBounds (off+j) c) cs) ((l'.zipIdx k).foldl (fun cs (c,j)=>cs.setIfInBounds (off+j) c) cs'):=by
  intro l
  induction l with
  | nil=>intro l' k hl hr cs cs' hc;cases l' with
   | nil=>exact hc
   | cons=>simp at hl
  | cons x l ih=>
   intro l' k hl hr cs cs' hc
   cases l' with
   | nil=>simp at hl
   | cons y l'=>
    simp only [List.zipIdx_cons,List.foldl_cons]
    exact ih l' (k+1) (by simpa using hl) (fun i a b ha hb=>hr (i+1) a b (by simpa using ha) (by simpa using hb)) (hc.set _ (hr 0 x y rfl rfl))
 exact key _ _ 0 (by simpa using hv.1) (fun i x y hx hy=>hv.2 i x y (by simpa using hx) (by simpa using hy)) hc
theorem JhX (place : Nat → Option (Nat × Nat)) : ∀ (l l' : List (Nat × Value)) {cs cs' : Array Value} {out : Array Value}, JfQ ρ l l' → JV ρ cs cs' → Instr.fill place cs l = some out →
  ∃out',Instr.fill place cs' l'=some out'∧JV ρ out out':=by
 intro l
 induction l with
 | nil=>
  intro l' cs cs' out hl hc hf
  cases l' with
  | cons=>exact hl.elim
  | nil=>
  simp only [Instr.fill,Jg] at hf
  subst hf
  exact ⟨cs',rfl,hc⟩
 | cons x l ih=>
  intro l' cs cs' out hl hc hf
  cases l' with
  | nil=>exact hl.elim
  | cons y l'=>
  obtain ⟨hxy,hl⟩:=hl
  obtain ⟨i,v⟩:=x
  obtain ⟨i',v'⟩:=y
  obtain ⟨h1,h2⟩:=hxy
  dsimp only at h1 h2
  subst h1
  have hcv:=h2.cells
  simp only [Instr.fill] at hf ⊢
  cases hp:place i with
  | none=>rw [hp] at hf;cases hf
  | some p=>
   obtain ⟨off,size⟩:=p
   rw [hp] at hf
   dsimp only at hf ⊢
   rw [←hcv.1,←hc.1]
   split at hf
   ·cases hf
   ·rename_i hn
    rw [Jd hn]
    exact ih l' hl (JhU hcv hc off) hf
theorem Jle {t : TypeId} {l l' : Array (Nat × Value)} {v z : Value} (hl : JfQ ρ l.toList l'.toList) (hz : QI P t = some z) (hb : J4 P (Instr.build t l) = some v) :
  ∃v',(Instr.build t l').run P w = .ok v' w∧JX ρ v v':=by
 suffices hs : ∃v',J4 P (Instr.build t l')=some v'∧JX ρ v v' by
  obtain ⟨v',h1,h2⟩:=hs
  exact ⟨v',Je8 _ _ h1 w,h2⟩
 obtain ⟨_,hf,i,hi,hzi⟩:=XY hz w
 have hzp:J4 P (zeroValue t)=some z:=by simp [zeroValue,typeInfo,Qk,program,J4,hi,hzi,pure]
 unfold Instr.build at hb ⊢
 simp only [Qk,hzp,Jb] at hb ⊢
 have hc0:JV ρ z.cells z.cells:=JV.refl_cells hf
 cases hu:J4 P (underlying t) with
 | none=>rw [hu] at hb;cases hb
 | some d =>
  rw [hu] at hb
  simp only [Jb] at hb ⊢
  cases d with
  | struct fields=>
   dsimp only at hb ⊢
   simp only [Qk] at hb ⊢
   cases hm:J4 P (fields.mapM fun f=>do pure (f.offset,←sizeOf f.type)) with
   | none=>rw [hm] at hb;cases hb
   | some places=>
    rw [hm] at hb
    simp only [Jb] at hb ⊢
    cases hfl:Instr.fill (fun x=>places[x]?) z.cells l.toList with
    | none=>rw [hfl] at hb;simp [stuck,J4] at hb
    | some cells=>
     rw [hfl] at hb
     obtain ⟨out,h1,h2⟩:=JhX _ _ _ hl hc0 hfl
     rw [h1]
     simp [J4,pure] at hb ⊢
     subst hb
     exact .agg h2.1 h2.2
  | array n e=>
   dsimp only at hb ⊢
   simp only [Qk] at hb ⊢
   cases hm:J4 P (sizeOf e) with
   | none=>rw [hm] at hb;cases hb
   | some size=>
    rw [hm] at hb
    simp only [Jb] at hb ⊢
    cases hfl:Instr.fill (fun i=>some (i*size,size)) z.cells l.toList with
    | none=>rw [hfl] at hb;simp [stuck,J4] at hb
    | some cells=>
     rw [hfl] at hb
     obtain ⟨out,h1,h2⟩:=JhX _ _ _ hl hc0 hfl
     rw [h1]
     simp [J4,pure] at hb ⊢
     subst hb
     exact .agg h2.1 h2.2
  | _=>simp [stuck,J4] at hb
end Go.IM
namespace Go.IM
open Go Go.RowKit
variable {P:Program} {B:Nat} {w0:World} {ρ:Ren} {m m':M} {w:World}
theorem Jbf {ρ':Ren} {k g n N sz len cap cap':Nat} (h:ρ' k=some ⟨g,0,n,N,sz⟩) (hl:len≤cap) (hb:cap*sz=n) (h1:cap≤cap') (h2:cap'*sz≤N) :
  JX ρ' (.slice (some ⟨k,0,none⟩) len cap) (.slice (some ⟨g,0,none⟩) len cap'):=by
 have:=JX.slice (ρ:=ρ') (o:=0) (len:=len) (cap:=cap) (cap':=cap') h hl (by dsimp only;omega) (.inr ⟨rfl,by dsimp only;omega,h1,by dsimp only;omega⟩)
 simpa using this
theorem Jpz (place : Nat → Option (Nat × Nat)) : ∀ (l : List (Nat × Value)) {cs out : Array Value}, Instr.fill place cs l = some out → out.size = cs.size := by
 intro l;induction l with
 | nil=>intro cs out h;simp [Instr.fill] at h;rw [h]
 | cons x l ih =>
  intro cs out h;obtain ⟨i,v⟩:=x;simp only [Instr.fill] at h;split at h
  ·cases h
  ·split at h
   ·cases h
   ·rw [ih h];rw [←Array.foldl_toList,Array.toList_zipIdx];have : ∀(l:List (Value × Nat)) (off:Nat) (cs:Array Value),(l.foldl (fun cs (c,j)=>cs.setIfInBounds (off+j) c) cs).size=cs.size:=by
     intro l;induction l with
     | nil=>intro off cs;rfl
     | cons x l ih=>intro off cs;simp only [List.foldl_cons];rw [ih];simp
    exact this _ _ _
theorem Jij {z:Array Value} (h:JV ρ z z) (n:Nat):JV ρ ((Array.range n).map (z[· % z.size]!)) ((Array.range n).map (z[· % z.size]!)):=by
 refine JV.map _ _ _ fun i => ?_
 have e:z[i % z.size]! = z.getD (i % z.size) default:=by simp [Array.getElem!_eq_getD]
 rw [e];exact h.getD _ (.bool _)
theorem Jew (h : Inv P B w0 ρ m w) {t : TypeId} {len : Nat} {l l' : Array (Nat × Value)} {v : Value} (hl : JfQ ρ l.toList l'.toList) (hb : XB P t len l.toList m = some (v, m')) :
  ∃v' w' ρ',(Instr.buildSlice t len l').run P w = .ok v' w'∧ρ.le ρ'∧Inv P B w0 ρ' m' w'∧JX ρ' v v':=by
 unfold XB at hb;split at hb
 ·rename_i e hu;split at hb
  ·rename_i ti z hti hz;split at hb
   ·rename_i hle;split at hb
    ·rename_i cells hf;split at hb
     ·rename_i a m1 hn;split at hb
      ·rename_i hsz;cases hb;obtain ⟨hzr,hfl,i,hi,hzi⟩:=XY hz w;rw [hti] at hi;cases hi;have hzz:JV ρ (if len*ti.size=0 then (#[]:Array Value) else z.cells) (if len*ti.size=0 then (#[]:Array Value) else z.cells):=by
        split
        ·exact JV.nil _
        ·exact JV.refl_cells hfl
       obtain ⟨out,h1,h2⟩:=JhX _ _ _ hl (Jij hzz _) hf;have hsize:cells.size=len*ti.size:=by rw [Jpz _ _ hf];simp
       obtain ⟨ρ',k1,k2,rfl,k3⟩:=Jhx h hn h2;refine ⟨.slice (some ⟨w.heap.size,0,none⟩) len len,_,ρ', ?_,k1,k2, ?_⟩
       ·have hno : ¬(len*ti.size > 2 ^ 24):=by omega
        by_cases h0:len*ti.size=0
        ·simp only [h0,if_true,Array.range_zero',Array.map_empty] at h1;simp [Instr.buildSlice,run_underlying hu,Qb hti,h0,h1,X5,Array.range_zero']
        ·simp only [h0,if_false] at h1;simp [Instr.buildSlice,run_underlying hu,Qb hti,h0,hno,hzr,h1,X5]
       ·by_cases h00:len=0
        ·subst h00;exact .slice0 _ _
        rw [Jd h00];refine Jbf k3 (Je _) ?_ (Je _) ?_
        ·rw [hsize,show P.cellsOf e=ti.size by simp [Program.cellsOf,hti]]
        ·rw [←h2.1,hsize,show P.cellsOf e=ti.size by simp [Program.cellsOf,hti]];exact Je _
      ·cases hb
     ·cases hb
    ·cases hb
   ·cases hb
  ·cases hb
 ·cases hb
theorem wrap_i64 {n:Int} (h0 : -9223372036854775808≤n) (h1:n≤9223372036854775807):IntKind.i64.wrap n=n:=by
 rw [IntKind.wrap_i64];omega
theorem Jfh (h : Inv P B w0 ρ m w) {t : TypeId} {l l' c c' v : Value} (hl : JX ρ l l') (hc : JX ρ c c') (hb : Xn P t l c m = some (v, m')) :
  ∃v' w' ρ',(Instr.makeSlice t l' c').run P w = .ok v' w'∧ρ.le ρ'∧Inv P B w0 ρ' m' w'∧JX ρ' v v':=by
 unfold Xn at hb;split at hb
 ·rename_i e k1 l k2 c hu;cases hl;cases hc;split at hb
  ·rename_i ti z hti hz;split at hb
   ·rename_i hcond;obtain ⟨h0,h1,h2,h3⟩:=hcond;split at hb
    ·rename_i a m1 hn;cases hb;obtain ⟨hzr,hfl,i,hi,hzi⟩:=XY hz w;rw [hti] at hi;cases hi;have hzz:JV ρ (if c.toNat*ti.size=0 then (#[]:Array Value) else z.cells) (if c.toNat*ti.size=0 then (#[]:Array Value) else z.cells):=by
      split
      ·exact JV.nil _
      ·exact JV.refl_cells hfl
     obtain ⟨ρ',j1,j2,rfl,j3⟩:=Jhx h hn (Jij hzz _);refine ⟨.slice (some ⟨w.heap.size,0,none⟩) l.toNat c.toNat,_,ρ', ?_,j1,j2, ?_⟩
     ·have w1:IntKind.i64.wrap l=l:=wrap_i64 (by omega) (by omega);have w2:IntKind.i64.wrap c=c:=wrap_i64 (by omega) (by omega);have n1 : ¬(c<0):=by omega
      have n2 : ¬(l<0):=by omega
      have n3 : ¬(c<l):=by omega
      have n4 : ¬(281474976710656<(ti.bytes:Int)*c):=by omega
      by_cases h00:c.toNat*ti.size=0
      ·simp [Instr.makeSlice,run_underlying hu,asInt,asIntOf,XE hti,Qb hti,w1,w2,n1,n2,n3,n4,h00,X5]
      ·simp [Instr.makeSlice,run_underlying hu,asInt,asIntOf,XE hti,Qb hti,w1,w2,n1,n2,n3,n4,h00,hzr,X5]
     ·have e1:P.cellsOf e=ti.size:=by simp [Program.cellsOf,hti]
      refine Jbf j3 (by omega) ?_ (Je _) ?_
      ·simp [e1]
      ·simp [e1]
    ·cases hb
   ·cases hb
  ·cases hb
 ·cases hb
end Go.IM
namespace Go.IM
open Go Go.RowKit
variable {P:Program} {B:Nat} {w0:World} {ρ:Ren} {m m':M} {w:World}
theorem JX.slice_inv {i o len cap:Nat} {sp:Option Nat} {x':Value} (h:JX ρ (.slice (some ⟨i,o,sp⟩) len cap) x') :
  (∃r cap',x' = .slice (some ⟨r.g,r.base+o,none⟩) len cap'∧ρ i=some r∧len≤cap∧o+cap*r.sz≤r.n∧(cap=cap'∨(r.base=0∧o+cap*r.sz=r.n∧cap≤cap'∧o+cap'*r.sz≤r.N))∧(sp.isSome=true→cap=cap')) ∨
  (len=0∧cap=0 ∧ ∃a',x' = .slice (some a') 0 0):=by
 generalize hx:Value.slice (some ⟨i,o,sp⟩) len cap=x at h;cases h <;> simp at hx
 ·rename_i h hl hb hc hs;obtain ⟨⟨rfl,rfl,rfl⟩,rfl,rfl⟩:=hx;exact .inl ⟨_,_,rfl,h,hl,hb,hc,hs⟩
 ·obtain ⟨_,rfl,rfl⟩:=hx;exact .inr ⟨rfl,rfl,_,rfl⟩
theorem Jjf {e:TypeId} {ti:TypeInfo} (h:P.info? e=some ti):P.cellsOf e=ti.size:=by simp [Program.cellsOf,h]
theorem XI {x x' : Option Value} {d y n : Nat} (hx : ∀ v v', x = some v → x' = some v' → JX ρ v v') (hs : x.isSome = x'.isSome) (h : Jar x d y = some n) (code : BoundsCode) :
  (x'=none∧x=none∧n=d)∨(∃v',x'=some v'∧(∀y',y≤y'→(Instr.sliceBound v' y' code).run P w = .ok n w)∧n≤y∧x.isSome=true):=by
 unfold Jar at h;cases x with
 | none=>
  cases x' with
  | none=>simp at h;exact .inl ⟨rfl,rfl,h.symm⟩
  | some v'=>simp at hs
 | some v =>
  cases x' with
  | none=>simp at hs
  | some v'=>
   have hv:=hx v v' rfl rfl;dsimp only at h;unfold Jlf at h;split at h
   ·cases hv;rename_i k i;split at h
    ·cases h;rename_i hi;refine .inr ⟨_,rfl,fun y' hy' => ?_,by omega,rfl⟩;have:0≤i∧i≤(y':Int):=by omega
     simp [Instr.sliceBound,asIntOf,this]
    ·cases h
   ·cases h
theorem Jkl (h : Inv P B w0 ρ m w) {t : TypeId} {x x' v : Value} {lo lo' hi hi' mx mx' : Option Value} (hx : JX ρ x x')
  (hlo : ∀v v',lo=some v→lo'=some v'→JX ρ v v') (slo:lo.isSome=lo'.isSome) (hhi : ∀v v',hi=some v→hi'=some v'→JX ρ v v') (shi:hi.isSome=hi'.isSome)
  (hmx : ∀v v',mx=some v→mx'=some v'→JX ρ v v') (smx:mx.isSome=mx'.isSome) (hs:QD P t x lo hi mx m=some v) :
  ∃v',(Instr.sliceAt t x' lo' hi' mx').run P w = .ok v' w∧JX ρ v v':=by
 unfold QD at hs;split at hs
 ·rename_i e a len cap hu;split at hs
  ·rename_i ti mm hti hmm;split at hs
   ·cases hs
   ·rename_i hmh;split at hs
    ·rename_i hh hhi2;split at hs
     ·rename_i l hl;split at hs
      ·rename_i hle;obtain ⟨hle1, hle2⟩ := hle;have bounds : ∀ cap', cap ≤ cap' → (mx.isSome = true → True) → ∃ mm', (Instr.sliceBounds true len cap' lo' hi' mx').run P w = .ok (l, hh, mm') w ∧ ((mx.isSome = true ∧ mm' = mm) ∨ (mx = none ∧ mm' = cap' ∧ mm = cap)) ∧ mm ≤ cap := by
        intro cap' hc _;rcases XI (P:=P) (w:=w) hmx smx hmm .slice3Acap with ⟨e1,e2,e3⟩|⟨vm,e1,e2,e3,e4⟩
        ·subst e1;subst e2;subst e3;rcases XI (P:=P) (w:=w) hhi shi hhi2 .sliceAcap with ⟨f1,f2,f3⟩|⟨vh,f1,f2,f3,f4⟩
         ·subst f1;subst f2;subst f3;rcases XI (P:=P) (w:=w) hlo slo hl .sliceB with ⟨g1,g2,g3⟩|⟨vl,g1,g2,g3,g4⟩
          ·subst g1;subst g2;subst g3;exact ⟨cap',by simp [Instr.sliceBounds],.inr ⟨rfl,rfl,rfl⟩,Je _⟩
          ·subst g1;exact ⟨cap',by simp [Instr.sliceBounds,g2 _ (Je _)],.inr ⟨rfl,rfl,rfl⟩,Je _⟩
         ·subst f1;rcases XI (P:=P) (w:=w) hlo slo hl .sliceB with ⟨g1,g2,g3⟩|⟨vl,g1,g2,g3,g4⟩
          ·subst g1;subst g2;subst g3;exact ⟨cap',by simp [Instr.sliceBounds,f2 _ hc],.inr ⟨rfl,rfl,rfl⟩,Je _⟩
          ·subst g1;exact ⟨cap',by simp [Instr.sliceBounds,f2 _ hc,g2 _ (Je _)],.inr ⟨rfl,rfl,rfl⟩,Je _⟩
        ·subst e1;rcases XI (P:=P) (w:=w) hhi shi hhi2 .slice3B with ⟨f1,f2,f3⟩|⟨vh,f1,f2,f3,f4⟩
         ·exact absurd ⟨e4,by rw [f2];rfl⟩ hmh
         ·subst f1;rcases XI (P:=P) (w:=w) hlo slo hl .slice3C with ⟨g1,g2,g3⟩|⟨vl,g1,g2,g3,g4⟩
          ·subst g1;subst g2;subst g3;exact ⟨mm,by simp [Instr.sliceBounds,e2 _ hc,f2 _ (Je _)],.inl ⟨e4,rfl⟩,e3⟩
          ·subst g1;exact ⟨mm,by simp [Instr.sliceBounds,e2 _ hc,f2 _ (Je _),g2 _ (Je _)],.inl ⟨e4,rfl⟩,e3⟩
       have hun : ∀x',(Instr.sliceAt t x' lo' hi' mx').run P w=(Instr.slice t x' lo' hi' mx').run P w:=by
        intro x';simp [Instr.sliceAt,run_underlying hu]
       split at hs
       ·
        split at hs
        ·rename_i h0;cases hs;obtain ⟨rfl,rfl⟩:=h0;cases hx;obtain ⟨mm',hr,hm2,hm3⟩:=bounds 0 (Je _) (fun _=>trivial);have z1:mm'=0:=by rcases hm2 with ⟨_,h2⟩|⟨_,h2,_⟩ <;> omega
         subst z1;refine ⟨.slice none 0 0, ?_,.sliceNil⟩;have z2:l=0:=by omega
         have z3:hh=0:=by omega
         subst z2;subst z3;rw [hun];simp [Instr.slice,run_underlying hu,hr,Qb hti]
        ·cases hs
       ·rename_i i o sp;split at hs
        ·rename_i hc0;cases hs;subst hc0;have z2 : l = 0 := by
          rcases XI (P:=P) (w:=w) hmx smx hmm .slice3Acap with ⟨_,_,e3⟩|⟨_,_,_,e3,_⟩ <;> omega
         have z3:hh=0:=by
          rcases XI (P:=P) (w:=w) hmx smx hmm .slice3Acap with ⟨_,_,e3⟩|⟨_,_,_,e3,_⟩ <;> omega
         subst z2;subst z3;rcases hx.slice_inv with ⟨r',cap',rfl,hr',hlc,hb,hc,hcs⟩|⟨rfl,_,a',rfl⟩
         ·obtain rfl : len = 0 := by omega
          obtain ⟨mm',hrun,hm2,hm3⟩:=bounds cap' (Nat.zero_le _) (fun _=>trivial);by_cases hml:mm'=0
          ·refine ⟨.slice (some ⟨r'.g,r'.base+o,none⟩) 0 0, ?_,.slice0 _ _⟩;rw [hun];simp [Instr.slice,run_underlying hu,hrun,Qb hti,hml]
          ·have hmc:mm'=cap':=by rcases hm2 with ⟨_,h2⟩|⟨_,h2,_⟩ <;> omega
           refine ⟨.slice (some ⟨r'.g,r'.base+o,none⟩) 0 cap', ?_,.sliceS _ hr' hlc hb hc fun q => ?_⟩
           ·rw [hun];simp [Instr.slice,run_underlying hu,hrun,Qb hti,hml,XT,hmc]
           ·unfold Jla at q;split at q
            ·rename_i q2;obtain ⟨q2,_⟩:=q2;rcases hm2 with ⟨_,h2⟩|⟨h2,_⟩
             ·omega
             ·rw [h2] at q2;cases q2
            ·exact hcs q
         ·obtain ⟨mm',hrun,hm2,hm3⟩:=bounds 0 (Nat.zero_le _) (fun _=>trivial);have hml:mm'=0:=by rcases hm2 with ⟨_,h2⟩|⟨_,h2,_⟩ <;> omega
          refine ⟨.slice (some a') 0 0, ?_,.slice0 _ _⟩;rw [hun];simp [Instr.slice,run_underlying hu,hrun,Qb hti,hml]
        split at hs
        ·rename_i c e' hrow;split at hs
         ·rename_i hsz;cases hs;obtain ⟨r, hr, hn, hrsz, _⟩ := h.row hrow;rw [hsz] at hrsz;rcases hx.slice_inv with ⟨r', cap', rfl, hr', hlc, hb, hc, hcs⟩ | ⟨rfl, rfl, a', rfl⟩
          ·rw [hr] at hr';cases hr';have hcap : cap ≤ cap' := by rcases hc with h1 | ⟨_, _, h1, _⟩ <;> omega
           obtain ⟨mm',hrun,hm2,hm3⟩:=bounds cap' hcap (fun _=>trivial);have hmle:mm≤mm':=by rcases hm2 with ⟨_,h2⟩|⟨_,h2,h3⟩ <;> omega
           by_cases hml:mm'=l
           ·
            have:hh=l:=by omega
            subst this;have hm0:mm - hh=0:=by omega
            refine ⟨.slice (some ⟨r.g,r.base+o,none⟩) 0 0, ?_, ?_⟩
            ·rw [hun];simp [Instr.slice,run_underlying hu,hrun,Qb hti,hml]
            ·rw [hm0,Nat.sub_self];exact .slice0 _ _
           ·refine ⟨.slice (some ⟨r.g, r.base + (o + l * ti.size), none⟩) (hh - l) (mm' - l), ?_, ?_⟩
            ·rw [hun];simp [Instr.slice,run_underlying hu,hrun,Qb hti,hml,XT,Nat.add_assoc]
            ·have hmul : ∀a,l≤a→o+l*ti.size+(a - l)*ti.size=o+a*ti.size:=by
              intro a ha;rw [Nat.add_assoc,←Nat.add_mul]
              congr 2;omega
             have hmono:mm*ti.size≤cap*ti.size:=Jw _ hm3;rw [hrsz] at hb;refine JX.sliceS _ hr (by omega) ?_ ?_ (fun q => ?_)
             ·rw [hrsz,hmul mm (by omega)];omega
             ·rcases hm2 with ⟨_,h2⟩|⟨_,h2,h3⟩
              ·left;omega
              ·subst h2;subst h3;rcases hc with h1|⟨k1,k2,k3,k4⟩
               ·left;omega
               ·right;rw [hrsz] at k2 k4 ⊢;exact ⟨k1,by rw [hmul _ (by omega)];exact k2,by omega,by rw [hmul _ (by omega)];exact k4⟩
             ·unfold Jla at q;split at q
              ·rename_i q2;obtain ⟨q2,_⟩:=q2;rcases hm2 with ⟨_,h2⟩|⟨h2,_⟩
               ·omega
               ·rw [h2] at q2;cases q2
              ·have:=hcs q
               rcases hm2 with ⟨_,h2⟩|⟨_,h2,h3⟩ <;> omega
          ·obtain ⟨mm',hrun,hm2,hm3⟩:=bounds 0 (Je _) (fun _=>trivial);have z1:mm'=0:=by rcases hm2 with ⟨_,h2⟩|⟨_,h2,_⟩ <;> omega
           subst z1;have z2:l=0:=by omega
           have z3:hh=0:=by omega
           have z4:mm=0:=by omega
           subst z2;subst z3;subst z4;refine ⟨.slice (some a') 0 0, ?_,.slice0 _ _⟩;rw [hun];simp [Instr.slice,run_underlying hu,hrun,Qb hti]
         ·cases hs
        ·cases hs
      ·cases hs
     ·cases hs
    ·cases hs
  ·cases hs
 ·cases hs
theorem Jfr {t : TypeId} {x x' ix ix' v : Value} (hx : JX ρ x x') (hi : JX ρ ix ix') (hs : Ql P t x ix = some v) :
  ∃v',(Instr.indexAt t x' ix').run P w = .ok v' w∧JX ρ v v':=by
 unfold Ql at hs;split at hs
 ·rename_i e i o sp len cap k n hu;split at hs
  ·rename_i ti hti;split at hs
   ·rename_i hk;cases hs;cases hi;rcases hx.slice_inv with ⟨r,cap',rfl,hr,_⟩|⟨rfl,_⟩
    ·exact ⟨_,by simp [Instr.indexAt,run_underlying hu,asIntOf,hk,Qb hti,XT,Nat.add_assoc],.ptr _ hr⟩
    ·omega
   ·cases hs
  ·cases hs
 ·rename_i len e i o k n hu;split at hs
  ·rename_i ti hti;split at hs
   ·rename_i hk;cases hs;cases hi;cases hx;rename_i r hr;exact ⟨_,by simp [Instr.indexAt,run_underlying hu,asIntOf,Instr.sureAddr,hk,Qb hti,XT,Nat.add_assoc],.ptr _ hr⟩
   ·cases hs
  ·cases hs
 ·cases hs
theorem JfA {s : TypeId} {x x' v : Value} {f : Nat} (hx : JX ρ x x') (hs : Q1 P s x f = some v) :
  ∃v',(Instr.fieldAt s x' f).run P w = .ok v' w∧JX ρ v v':=by
 unfold Q1 at hs;split at hs
 ·rename_i fields i o hu;split at hs
  ·rename_i fd hfd;split at hs
   ·rename_i ti hti;split at hs
    ·cases hs
    ·rename_i h0;cases hs;cases hx;rename_i r hr;exact ⟨_,by simp [Instr.fieldAt,run_underlying hu,hfd,Instr.sureAddr,fieldPlace,Qb hti,h0,XT,Nat.add_assoc],.ptr _ hr⟩
   ·cases hs
  ·cases hs
 ·cases hs
theorem JkY {s:TypeId} {x x' v:Value} {f:Nat} (hx:JX ρ x x') (hs:Jfv P s x f=some v) :
  ∃v',(Instr.field s x' f).run P w = .ok v' w∧JX ρ v v':=by
 unfold Jfv at hs;split at hs
 ·rename_i fields cs hu;split at hs
  ·rename_i fd hfd;cases hx;rename_i cs' ha hva;obtain ⟨v',h1,h2⟩:=Jd8 (w:=w) ⟨ha,hva⟩ hs;exact ⟨v',by simp [Instr.field,run_underlying hu,hfd,asAgg,h1],h2⟩
  ·cases hs
 ·cases hs
theorem JkP {t:TypeId} {x x' ix ix' v:Value} (hx:JX ρ x x') (hi:JX ρ ix ix') (hs:Jft P t x ix=some v) :
  ∃v',(Instr.index t x' ix').run P w = .ok v' w∧JX ρ v v':=by
 unfold Jft at hs;split at hs
 ·rename_i len e cs k n hu;split at hs
  ·rename_i ti hti;split at hs
   ·rename_i hk;cases hi;cases hx;rename_i cs' ha hva;obtain ⟨v',h1,h2⟩:=Jd8 (w:=w) ⟨ha,hva⟩ hs;exact ⟨v',by simp [Instr.index,run_underlying hu,asIntOf,hk,Qb hti,h1],h2⟩
   ·cases hs
  ·cases hs
 ·rename_i s k n hu;cases hi;cases hx;split at hs
  ·rename_i b hb;cases hs;exact ⟨_,by simp [Instr.index,run_underlying hu,asIntOf,hb],.int _ _⟩
  ·cases hs
 ·cases hs
theorem JkZ {t:TypeId} {x x' y y':Value} {b:Bool} (hx:JX ρ x x') (hy:JX ρ y y') (hs:XP P t x y=some b):(Op.equal t x' y').run P w = .ok b w:=by
 obtain ⟨d,hd⟩ : ∃d,Op.maxDepth=d+1:=⟨9999,rfl⟩;unfold XP at hs;split at hs <;> rename_i hu <;> cases hs <;> cases hx <;> (try cases hy) <;> simp [Op.equal,hd,Op.equalIn,run_underlying hu]
end Go.IM
namespace Go.IM
open Go Go.RowKit
variable {P:Program} {B:Nat} {w0:World} {ρ:Ren} {m m':M} {w:World}
theorem Jjk : ∀(cs:List Value) (l:List UInt8),JbI cs=some l → ∃xs:List Int,cs=xs.map (Value.int .u8)∧l=xs.map fun n=>UInt8.ofNat n.toNat:=by
 intro cs;induction cs with
 | nil=>intro l h;simp [JbI] at h;exact ⟨[],rfl,by simp [h]⟩
 | cons c cs ih=>
  intro l h;unfold JbI at h;split at h
  ·simp at *
  ·rename_i n r heq;simp only [List.cons.injEq] at heq;obtain ⟨rfl,rfl⟩:=heq;simp only [Ja] at h;obtain ⟨l',h1,rfl⟩:=h;obtain ⟨xs,h2,h3⟩:=ih l' h1;exact ⟨n::xs,by simp [h2],by simp [h3]⟩
  ·cases h
theorem Jrg {xs:List Int} {a:Array Value} (h:JV ρ (xs.map (Value.int .u8)).toArray a):a=(xs.map (Value.int .u8)).toArray:=by
 refine Array.ext (by rw [←h.1]) fun i h1 h2 => ?_
 have:=h.2 i _ _ (Array.getElem?_eq_getElem h2) (Array.getElem?_eq_getElem h1)
 have e:(xs.map (Value.int .u8)).toArray[i] = .int .u8 (xs[i]'(by simpa using h2)):=by simp
 rw [e] at this ⊢;have key : ∀y,JX ρ (.int .u8 (xs[i]'(by simpa using h2))) y→y = .int .u8 (xs[i]'(by simpa using h2)):=fun y hy=>by cases hy;rfl
 exact key _ this
theorem Jf0 (h : Inv P B w0 ρ m w) {x x' v : Value} (hx : JX ρ x x') (hs : QO x m = some v) : ∃ v', (Conv.bytesToString x').run P w = .ok v' w ∧ JX ρ v v' := by
 unfold QO at hs;split at hs
 ·cases hs;cases hx;exact ⟨.string .empty,by simp [Conv.bytesToString],.string _⟩
 ·rename_i i o sp len cap;split at hs
  ·rename_i cs hcs;split at hs
   ·rename_i l hl;cases hs;obtain ⟨xs,h1,rfl⟩:=Jjk _ _ hl;obtain ⟨r,cs',hr,hle,hv,hsz,_,hrun⟩:=h.cells_sound hcs;have e1:cs=(xs.map (Value.int .u8)).toArray:=by rw [←h1]
    subst e1;have e2:=Jrg hv;subst e2;have e3:(⟨(xs.map fun n=>UInt8.ofNat n.toNat).toArray⟩:ByteArray)=⟨ByteArray.empty.data++(xs.map fun n=>UInt8.ofNat n.toNat).toArray⟩:=by
     have:ByteArray.empty.data = #[]:=rfl
     rw [this];simp
    rcases hx.slice_inv with ⟨r',cap',rfl,hr',_⟩|⟨rfl,rfl,a',rfl⟩
    ·rw [hr] at hr';cases hr';refine ⟨_,run_bytesToString w _ len cap' xs hrun, ?_⟩;rw [foldl_push_bytes,←e3];exact .string _
    ·have:xs = []:=by simpa using hsz
     subst this;refine ⟨.string .empty,by simp [Conv.bytesToString,loadCells,loadCellsFrom], ?_⟩;exact .string _
   ·cases hs
  ·split at hs
   ·cases hs;rename_i h0;subst h0;rcases hx.slice_inv with ⟨r',cap',rfl,_⟩|⟨_,rfl,a',rfl⟩ <;> exact ⟨.string .empty,by simp [Conv.bytesToString,loadCells,loadCellsFrom],.string _⟩
   ·cases hs
 ·cases hs
theorem Jev (h:Inv P B w0 ρ m w) {src dst e:TypeId} {s:ByteArray} {v:Value} (hsr:P.underlying src=some .string) (hd:P.underlying dst=some (.slice e)) (he:P.underlying e=some (.int .u8))
  (he1:P.cellsOf e=1) (hb:Jav e s m=some (v,m')) :
  ∃v' w' ρ',(convert src dst (.string s)).run P w = .ok v' w'∧ρ.le ρ'∧Inv P B w0 ρ' m' w'∧JX ρ' v v':=by
 unfold Jav at hb;split at hb
 ·rename_i a m1 hn;cases hb;have hge:s.size≤grownCap w s.size 0 e:=grownCap_ge w s.size 0 e;have hrow:bytesRow s (grownCap w s.size 0 e)=(s.data.map fun (b:UInt8)=>Value.int .u8 b.toNat)++Array.replicate (grownCap w s.size 0 e - s.size) (.int .u8 0):=rfl;have hsz:(bytesRow s (grownCap w s.size 0 e)).size=grownCap w s.size 0 e:=by
   rw [hrow];simp;have:s.data.size=s.size:=rfl
   omega
  obtain ⟨rfl,_,hf,hle,hinv⟩:=h.drew.new_sound (e':=e) (c':=bytesRow s (grownCap w s.size 0 e)) hn (by rw [hrow];simp) (by
   intro k x y hx hy;rw [hrow,Array.getElem?_append] at hy;have hk:=(Jv.1 hx).1;rw [Jf hk,hx] at hy;cases hy;rw [Array.getElem?_map] at hx;cases hb:s.data[k]? with
   | none=>rw [hb] at hx;cases hx
   | some b=>rw [hb] at hx;cases hx;exact .int _ _) ((bytesRow s (grownCap w s.size 0 e)).size,(bytesRow s (grownCap w s.size 0 e)).size+1) (.inr (Je _))
  refine ⟨_,_,_,run_bytes_of_string w src dst e s hsr hd he,hle,hinv, ?_⟩;refine Jbf (Ren.upd_same _ _ _) (Je _) ?_ hge ?_
  ·rw [he1];simp
  ·rw [he1,hsz];simp
 ·cases hb
theorem Jm9 (h : Inv P B w0 ρ m w) {size : Nat} {x x' : Value} {n : Nat} {cs : Array Value} (hx : JX ρ x x') (hn : JjM size x m = some (n, cs)) :
  (Builtin.lenOf x').run P w = .ok n w ∧ ∃cs',JV ρ cs cs'∧cs.size=n*size∧(Builtin.firstCells size n x').run P w = .ok cs' w ∧ ∀w',(∀a,w'.cell? a=w.cell? a)→(Builtin.firstCells size n x').run P w' = .ok cs' w':=by
 unfold JjM at hn;split at hn
 ·cases hn;cases hx;exact ⟨by simp [Builtin.lenOf], #[],JV.nil _,by simp,by simp [Builtin.firstCells],fun w' _=>by simp [Builtin.firstCells]⟩
 ·rename_i i o sp k cap;have hlen : (Builtin.lenOf x').run P w = .ok k w := by
   rcases hx.slice_inv with ⟨r',cap',rfl,_⟩|⟨rfl,rfl,a',rfl⟩ <;> simp [Builtin.lenOf]
  split at hn
  ·rename_i h0;cases hn;refine ⟨hlen, #[],JV.nil _,by simp [h0], ?_,fun w' _ => ?_⟩ <;> rcases hx.slice_inv with ⟨r',cap',rfl,_⟩|⟨rfl,rfl,a',rfl⟩ <;> simp [Builtin.firstCells,h0,loadCells,loadCellsFrom]
  ·rename_i h0;simp only [Ja,Jm] at hn;obtain ⟨cs0,hcs,rfl,rfl⟩:=hn;obtain ⟨r,cs',hr,hle,hv,hsz,hcell,hrun⟩:=h.cells_sound hcs;refine ⟨hlen,cs',hv,hsz, ?_,fun w' hw' => ?_⟩
   ·rcases hx.slice_inv with ⟨r',cap',rfl,hr',_⟩|⟨rfl,rfl,a',rfl⟩
    ·rw [hr] at hr';cases hr';simp [Builtin.firstCells,hrun]
    ·simp at h0
   ·rcases hx.slice_inv with ⟨r',cap',rfl,hr',_⟩|⟨rfl,rfl,a',rfl⟩
    ·rw [hr] at hr';cases hr';have:=run_loadCells_list (P:=P) w' ⟨r.g,r.base+o,none⟩ cs'.toList (fun j v hj=>by rw [hw'];exact hcell j v hj)
     rw [Array.toArray_toList,show cs'.toList.length=k*size by rw [Jq,←hv.1,hsz]] at this;simp [Builtin.firstCells,this]
    ·simp at h0
 ·rename_i s;split at hn
  ·rename_i h1;cases hn;cases hx;subst h1;refine ⟨by simp [Builtin.lenOf],_,JV.map _ _ _ (fun b => .int .u8 b.toNat),by simp, ?_,fun w' _ => ?_⟩ <;>
    simp [Builtin.firstCells,show s.extract 0 s.size=s by simp]
  ·cases hn
 ·cases hn
end Go.IM
namespace Go.IM
open Go Go.RowKit
variable {P:Program} {B:Nat} {w0:World} {ρ:Ren} {m m':M} {w:World}
section
variable {ts:Array TypeId} {t xt e ty:TypeId} {ti:TypeInfo} {z:Value}
theorem Xw (h0:ts[0]? = some t) (h1:ts[1]? = some xt) (hu:P.underlying t=some (.slice e)) (hx:(∃e',P.underlying xt=some (.slice e'))∨P.underlying xt=some .string)
  (hi:P.info? e=some ti) {base:Option Addr} {len cap n:Nat} {x:Value} {cs:Array Value} (hl:(Builtin.lenOf x).run P w = .ok n w) (hf:(Builtin.firstCells ti.size n x).run P w = .ok cs w) (hroom:len+n≤cap) :
  (Builtin.append_ ts ty #[.slice base len cap,x]).run P w =
   match base with
   | some a=>((storeCells (a.add (len*ti.size)) cs.toList).run P w).andThen fun _ w' => .ok (.slice base (len+n) cap) w'
   | none => .ok (.slice base (len+n) cap) w:=by
 rcases hx with ⟨e',hx⟩|hx <;> cases base <;> simp [Builtin.append_,h0,h1,run_underlying hu,run_underlying hx,Qb hi,hl,hroom,hf]
theorem JbZ (h0:ts[0]? = some t) (h1:ts[1]? = some xt) (hu:P.underlying t=some (.slice e)) (hx:(∃e',P.underlying xt=some (.slice e'))∨P.underlying xt=some .string)
  (hi:P.info? e=some ti) (hz : ∀w,(zeroValue e).run P w = .ok z w) {base:Option Addr} {len cap n:Nat} {x:Value} {cs olds:Array Value} (hl:(Builtin.lenOf x).run P w = .ok n w)
  (hf:(Builtin.firstCells ti.size n x).run P w.drew = .ok cs w.drew) (ho:(Builtin.firstCells ti.size len (.slice base len cap)).run P w.drew = .ok olds w.drew) (hroom : ¬len+n≤cap)
  (h63:len+n≤9223372036854775807) (hby:(len+n)*ti.bytes≤140737488355328) :
  (Builtin.append_ ts ty #[.slice base len cap,x]).run P w =
   .ok (.slice (some ⟨w.heap.size,0,none⟩) (len+n) (grownCap w (len+n) cap e)) (w.drew.alloc (.cells (olds++cs++Builtin.zeroCells z.cells (grownCap w (len+n) cap e - (len+n))) e)):=by
 have hgr:=growslice_fits (need:=len+n) (old:=cap) (bytes:=ti.bytes) (by omega) hby;have h63' : ¬(9223372036854775807<((len:Int)+(n:Int))):=by omega
 have h48' : ¬(281474976710656<Builtin.nextslicecap (len+n) cap*ti.bytes):=by omega
 rcases hx with ⟨e',hx⟩|hx <;>
  simp [Builtin.append_,h0,h1,run_underlying hu,run_underlying hx,Qb hi,XE hi,hl,hroom,hf,ho,h63',h48',hz,Question.forced,X5,grownCap]
end
theorem JcA (z:Array Value) (n:Nat):(Builtin.zeroCells z n).size=n*z.size:=by simp [Builtin.zeroCells]
theorem JfO (h : Inv P B w0 ρ m w) {ts : Array TypeId} {t xt e ty : TypeId} {ti : TypeInfo} {z : Value} {s' x x' v : Value} {base : Option Addr} {len cap : Nat} (h0 : ts[0]? = some t) (hxt1 : ts[1]? = some xt)
  (hu:P.underlying t=some (.slice e)) (hxt:(∃e',P.underlying xt=some (.slice e'))∨P.underlying xt=some .string) (hti:P.info? e=some ti) (hz:QI P e=some z) (hs0:ti.size≠0) (hzs:z.cells.size=ti.size)
  (hs:JX ρ (.slice base len cap) s') (hx:JX ρ x x') (ha:Qr P e ti base len cap x m=some (v,m')) :
  ∃v' w' ρ',(Builtin.append_ ts ty #[s',x']).run P w = .ok v' w'∧ρ.le ρ'∧Inv P B w0 ρ' m' w'∧JX ρ' v v':=by
 have hzr:=fun w=>(XY hz w).1
 unfold Qr at ha;split at ha
 ·rename_i n cs hnews;obtain ⟨hlen, cs', hvcs, hcsz, hfc, hfc'⟩ := Jm9 h hx hnews;split at ha
  ·
   rename_i hn0;subst hn0;split at ha
   ·rename_i hlc;cases ha;have hcs0:cs' = #[]:=by
     refine JY ?_;rw [←hvcs.1,hcsz];simp
    subst hcs0;refine ⟨s',w,ρ, ?_,Ren.le_refl _,h,hs⟩;cases base with
    | none=>
     cases hs;rw [Xw h0 hxt1 hu hxt hti hlen hfc (by omega)]
    | some a=>
     obtain ⟨i,o,sp⟩:=a;have hform : ∃a' cap',s' = .slice (some a') len cap'∧len≤cap':=by
      rcases hs.slice_inv with ⟨r',cap',rfl,hr',hlc',hb,hc,_⟩|⟨rfl,_,a',rfl⟩
      ·refine ⟨_,_,rfl, ?_⟩;omega
      ·exact ⟨_,_,rfl,Je _⟩
     obtain ⟨a',cap',rfl,hle⟩:=hform;rw [Xw h0 hxt1 hu hxt hti hlen hfc (by omega)];simp [storeCells]
   ·cases ha
  ·rename_i hn0;split at ha
   ·cases ha
   ·rename_i hbd;have hby : (len + n) * ti.bytes ≤ 140737488355328 := by
     by_cases e:(len+n)*ti.bytes > 140737488355328
     ·exact absurd (.inl e) hbd
     ·omega
    have h63:len+n≤9223372036854775807:=by
     by_cases e:len+n > 9223372036854775807
     ·exact absurd (.inr (.inl e)) hbd
     ·omega
    have hec:P.cellsOf e=ti.size:=Jjf hti;have JhS : ∀(c0 c0':Array Value) (base':Option Addr) (cap':Nat) (a:Addr) (m1:M),m.new (c0++cs) e=some (a,m1)→JV ρ c0 c0'→c0.size=len*ti.size → ¬len+n≤cap' →
      (Builtin.firstCells ti.size len (.slice base' len cap')).run P w.drew = .ok c0' w.drew→s' = .slice base' len cap' →
      ∃v' w' ρ',(Builtin.append_ ts ty #[s',x']).run P w = .ok v' w'∧ρ.le ρ'∧Inv P B w0 ρ' m1 w'∧JX ρ' (.slice (some a) (len+n) (len+n)) v':=by
     intro c0 c0' base' cap' a m1 hnew hc0 hc0s hroom hold hs';subst hs';have hrun:=JbZ (P:=P) (ty:=ty) h0 hxt1 hu hxt hti hzr hlen (hfc' w.drew (fun a=>rfl)) hold hroom h63 hby;have hge:=grownCap_ge w (len+n) cap' e;have hcsz':cs'.size=n*ti.size:=by rw [←hvcs.1];exact hcsz
     have hc0s':c0'.size=len*ti.size:=by rw [←hc0.1];exact hc0s
     have hbig:(c0'++cs'++Builtin.zeroCells z.cells (grownCap w (len+n) cap' e - (len+n))).size=grownCap w (len+n) cap' e*ti.size:=by
      simp only [Array.size_append,JcA,hzs,hcsz',hc0s',←Nat.add_mul]
      congr 1
      omega
     have happ:=hc0.append hvcs;obtain ⟨rfl,_,hf,hle,hinv⟩:=h.drew.new_sound (e':=e) (c':=c0'++cs'++Builtin.zeroCells z.cells (grownCap w (len+n) cap' e - (len+n))) hnew (by simp [hc0.1,hvcs.1])
      (fun k x y hx hy=>by
       have hk:=(Jv.1 hx).1;rw [Array.getElem?_append,Jf (by rw [←happ.1];exact hk)] at hy
       exact happ.2 k x y hx hy) (0,0) (.inl rfl)
     refine ⟨_,_,_,hrun,hle,hinv, ?_⟩;refine Jbf (Ren.upd_same _ _ _) (Je _) ?_ hge ?_
     ·rw [hec,Array.size_append,hc0s,hcsz,JQ]
     ·rw [hec,hbig];exact Je _
    cases base with
    | none=>
     dsimp only at ha;split at ha
     ·rename_i hnil;obtain ⟨rfl,rfl⟩:=hnil;split at ha
      ·rename_i a m1 hnew;cases ha;cases hs;have:=JhS #[] #[] none 0 a m' (by simpa using hnew) (JV.nil _) (by simp) (by omega) (by simp [Builtin.firstCells]) rfl
       simpa using this
      ·cases ha
     ·cases ha
    | some aa =>
     obtain ⟨i,o,sp⟩:=aa;cases sp with
     | some sp =>
      dsimp only at ha;split at ha
      ·cases ha
      ·rename_i hroom;split at ha
       ·rename_i hl0;subst hl0;split at ha
        ·rename_i a m1 hnew;cases ha;rcases hs.slice_inv with ⟨r',cap',rfl,hr',hlc,hb,hc,hcs⟩|⟨_,rfl,a',rfl⟩
         ·have hcc:=hcs rfl;subst hcc;have:=JhS #[] #[] (some ⟨r'.g,r'.base+o,none⟩) cap a m' (by simpa using hnew) (JV.nil _) (by simp) hroom (by simp [Builtin.firstCells,loadCells,loadCellsFrom]) rfl
          simpa using this
         ·have:=JhS #[] #[] (some a') 0 a m' (by simpa using hnew) (JV.nil _) (by simp) (by omega) (by simp [Builtin.firstCells,loadCells,loadCellsFrom]) rfl
          simpa using this
        ·cases ha
       ·rename_i hl0;split at ha
        ·rename_i hrow hcells;split at ha
         ·rename_i hce;split at ha
          ·rename_i a m1 hnew;cases ha;rcases hs.slice_inv with ⟨r',cap',rfl,hr',hlc,hb,hc,hcs⟩|⟨hz,_⟩
           ·have hcc:=hcs rfl;subst hcc;obtain ⟨r3,c0',hr3,_,hv3,hs3,hcell3,_⟩:=h.cells_sound hcells;rw [hr'] at hr3;cases hr3;have hload:=run_loadCells_list (P:=P) w.drew ⟨r'.g,r'.base+o,none⟩ c0'.toList (fun j v hj=>hcell3 j v hj);rw [Array.toArray_toList,show c0'.toList.length=len*ti.size by rw [Jq,←hv3.1,hs3]] at hload;exact JhS _ c0' (some ⟨r'.g,r'.base+o,none⟩) cap a m' hnew hv3 hs3 hroom (by simp [Builtin.firstCells,hload]) rfl
           ·exact absurd hz hl0
          ·cases ha
         ·cases ha
        ·cases ha
     | none=>
     dsimp only at ha;split at ha
     ·rename_i b hal;split at ha
      ·rename_i c e' fr hobj;split at ha
       ·cases ha
       ·rename_i hce;have hce : P.cellsOf e' = ti.size := by
         by_cases q:P.cellsOf e'=ti.size
         ·exact q
         ·exact absurd q hce
        obtain ⟨r,hr,hh⟩:=h.re hal;have hh0:=hh;unfold Qx at hh;rw [hobj] at hh;obtain ⟨hn1,hsz1,c',ee,fr',hheap,hbs,hcells,hro1,hro2⟩:=hh;rw [hce] at hsz1;have hsl:=hs.slice_inv;split at ha
        ·
         rename_i hroom;simp only [Ja,Jm] at ha;obtain ⟨m1,hst,rfl,rfl⟩:=ha;rcases hsl with ⟨r',cap',rfl,hr',hlc,hb,hc,_⟩|⟨rfl,rfl,a',rfl⟩
         ·rw [hr] at hr';cases hr';obtain ⟨r2,w',hr2,hb2,hrun,hinv,_⟩:=h.store_sound (vs':=cs'.toList) hst (by simpa using hvcs.1) (fun k x y hx hy=>hvcs.2 k x y (by simpa using hx) (by simpa using hy));rw [hr] at hr2;cases hr2;have hcc:cap≤cap':=by omega
          refine ⟨.slice (some ⟨r.g,r.base+o,none⟩) (len+n) cap',w',ρ, ?_,Ren.le_refl _,hinv,.slice hr (by omega) hb hc⟩;rw [Xw h0 hxt1 hu hxt hti hlen hfc (by omega)];dsimp only;rw [XT,hb2,JG,hrun];rfl
         ·omega
        ·rename_i hroom;split at ha
         ·
          rename_i hcap;split at ha
          ·rename_i hfit;split at ha
           ·rename_i a m1 hnew;cases ha;have hext : (c.extract o (o + len * ti.size)).size = len * ti.size := by simp;omega
            rcases hsl with ⟨r',cap',rfl,hr',hlc,hb,hc,_⟩|⟨rfl,rfl,a',rfl⟩
            ·rw [hr] at hr';cases hr';rw [hsz1] at hb hc;have hcc : cap' = cap := by
              rcases hc with h1|⟨k1,k2,k3,k4⟩
              ·exact h1.symm
              ·rcases hcap with h2 | h2
               ·omega
               ·obtain ⟨_,hN⟩:=hro1 h2;have:cap'*ti.size≤cap*ti.size:=by omega
                have:=Nat.le_of_mul_le_mul_right this (by omega)
                omega
             subst hcc;have hcs0:m.cells i o (len*ti.size)=some (c.extract o (o+len*ti.size)):=by
              simp [M.cells,M.row,hal,hobj,hfit]
             obtain ⟨r3,c0',hr3,_,hv3,hs3,hcell3,_⟩:=h.cells_sound hcs0;rw [hr] at hr3;cases hr3;have hload:=run_loadCells_list (P:=P) w.drew ⟨r.g,r.base+o,none⟩ c0'.toList (fun j v hj=>hcell3 j v hj);rw [Array.toArray_toList,show c0'.toList.length=len*ti.size by rw [Jq,←hv3.1,hs3]] at hload;exact JhS _ c0' (some ⟨r.g,r.base+o,none⟩) cap' a m' hnew hv3 hext (by omega) (by simp [Builtin.firstCells,hload]) rfl
            ·refine JhS _ #[] (some a') 0 a m' hnew ?_ hext (by omega) (by simp [Builtin.firstCells,loadCells,loadCellsFrom]) rfl;have:c.extract o (o+0*ti.size) = #[]:=by simp;omega
             rw [this];exact JV.nil _
           ·cases ha
          ·cases ha
         ·rename_i hncap;split at ha
          ·rename_i hgrow;obtain ⟨rfl, rfl, hsup, hcsize, _⟩ := hgrow;have hbro : b.ro = false := by
            by_cases q:b.ro=true
            ·exact absurd (.inr q) hncap
            ·simpa using q
           split at ha
           ·rename_i hfree;cases ha;obtain ⟨k1, k2, k3, k4⟩ := hro2 hbro;rw [k2, JG] at hbs;rw [k2] at hcells;simp only [JG] at hcells;have hrl := h.dom _ hfree;have moves : ∀ (base' : Option Addr) (cap' : Nat) (c0' : Array Value), s' = .slice base' len cap' → ¬ len + n ≤ cap' → JV ρ c c0' →
              (Builtin.firstCells ti.size len (.slice base' len cap')).run P w.drew = .ok c0' w.drew →
              ∃v' w' ρ',(Builtin.append_ ts ty #[s',x']).run P w = .ok v' w'∧ρ.le ρ'∧Inv P B w0 ρ' (m.gen i b (.cells (c++cs) e' fr)) w' ∧
               JX ρ' (.slice (some ⟨m.nxt,0,none⟩) (len+n) (len+n)) v':=by
             intro base' cap' c0' hs' hroom' hc0 hold;subst hs';have hrun:=JbZ (P:=P) (ty:=ty) h0 hxt1 hu hxt hti hzr hlen (hfc' w.drew (fun a=>rfl)) hold hroom' h63 hby;have hge:=grownCap_ge w (len+n) cap' e;have hcsz':cs'.size=n*ti.size:=by rw [←hvcs.1];exact hcsz
             have hc0s':c0'.size=len*ti.size:=by rw [←hc0.1];exact hcsize
             have hbig:(c0'++cs'++Builtin.zeroCells z.cells (grownCap w (len+n) cap' e - (len+n))).size=grownCap w (len+n) cap' e*ti.size:=by
              simp only [Array.size_append,JcA,hzs,hcsz',hc0s',←Nat.add_mul]
              congr 1
              omega
             have happ:=hc0.append hvcs;have hle:=Ren.le_upd ρ m.nxt ⟨w.heap.size,0,(c++cs).size,grownCap w (len+n) cap' e*ti.size,ti.size⟩ hrl;refine ⟨_,_,_,hrun,hle,h.gen hfree hal hbro hsup hr _ ⟨w.heap.size,0,(c++cs).size,grownCap w (len+n) cap' e*ti.size,ti.size⟩ ?_ ?_ ?_ (.inr ?_), ?_⟩
             ·exact h.drew.below.alloc (Jy h.size h.below.size) _
             ·intro j bj rj hj hrj;have h1:=h.holds j bj rj hj hrj;exact (h1.of_block (Below.heap_alloc w.drew _ rj.g (Jdm h1))).mono hle
             ·unfold Qx;dsimp only;refine ⟨rfl,hce.symm,_,e,(0,0),heap_alloc_new w.drew _, ?_, ?_,(fun q=>by cases q),fun _=>⟨Jy h.size h.below.size,rfl,hbig.symm,.inl rfl⟩⟩
              ·simp [hc0.1,hvcs.1]
              ·intro k x hx;obtain ⟨y,hy,hv⟩:=happ.get hx;refine ⟨y, ?_,hv.mono hle⟩;rw [JG,Array.getElem?_append,Jf (Jv.1 hy).1];exact hy
             ·intro j bj rj hj hrj;have:=Jdm (h.holds j bj rj hj hrj)
              dsimp only;omega
             ·refine Jbf (Ren.upd_same _ _ _) (Je _) ?_ hge (Je _);rw [Array.size_append,hcsize,hcsz,JQ]
            rcases hsl with ⟨r',cap',rfl,hr',hlc,hb,hc,_⟩|⟨rfl,_,a',rfl⟩
            ·rw [hr] at hr';cases hr';rw [hsz1] at hb hc;by_cases hroom' : len + n ≤ cap'
             ·
              obtain ⟨q1,q2,q3,q4⟩:r.base=0∧0+len*ti.size=r.n∧len≤cap'∧0+cap'*ti.size≤r.N:=by
               rcases hc with h1 | h1
               ·omega
               ·exact h1
              have hcsz':cs'.size=n*ti.size:=by rw [←hvcs.1];exact hcsz
              have hspace:len*ti.size+n*ti.size≤c'.size:=by
               rw [←Nat.add_mul];have:=Jw ti.size hroom'
               omega
              have hone : ∀v∈cs'.toList,one v=true:=by
               intro v hv;obtain ⟨k,hk,rfl⟩:=List.mem_iff_getElem.1 hv;have hk':k<cs.size:=by rw [hvcs.1];simpa using hk
               have hrel:=hvcs.2 k cs[k] cs'.toList[k] (Array.getElem?_eq_getElem hk') (by simp at hk;simp [hk])
               have h1:one cs[k]=true:=by
                by_cases q:cs.all one=true
                ·rw [Array.all_eq_true'] at q;exact q _ (Array.getElem_mem hk')
                ·exact absurd (.inr (.inr (by simpa using q))) hbd
               revert h1 hrel
               generalize cs[k]=a;generalize cs'.toList[k]=b;intro hrel h1;cases hrel <;> first | rfl | (simp [one] at h1)
              have hst:=Ja2 (P:=P) r.g ee fr' (len*ti.size) cs'.toList 0 c' w hheap k4 (by simp;omega) hone
              simp only [Nat.add_zero] at hst;have hwr : ∀ (l : List Value) (o : Nat) (a : Array Value) (k : Nat), (k < o → (wr a o l)[k]? = a[k]?) ∧ (o ≤ k → k < o + l.length → o + l.length ≤ a.size → (wr a o l)[k]? = l[k - o]?) := by
               intro l;induction l with
               | nil=>intro o a k;exact ⟨fun _=>rfl,fun h1 h2=>by simp at h2;omega⟩
               | cons v l ih=>
                intro o a k;simp only [wr];obtain ⟨i1,i2⟩:=ih (o+1) (a.setIfInBounds o v) k;refine ⟨fun hk => ?_,fun hk1 hk2 hk3 => ?_⟩
                ·rw [i1 (by omega),JL,Jd (by omega)]
                ·by_cases q:k=o
                 ·subst q;rw [i1 (by omega),JL,Jf rfl];simp at hk3;rw [Jf (by omega)];simp
                 ·simp at hk2 hk3;rw [i2 (by omega) (by omega) (by simp;omega)]
                  rw [show k - o=(k - (o+1))+1 by omega];simp
              have hle:=Ren.le_upd ρ m.nxt ⟨r.g,0,(c++cs).size,c'.size,ti.size⟩ hrl;refine ⟨.slice (some ⟨r.g,r.base+0,none⟩) (len+n) cap',w.setRow r.g (wr c' (len*ti.size) cs'.toList),ρ.upd m.nxt ⟨r.g,0,(c++cs).size,c'.size,ti.size⟩, ?_,hle,h.gen hfree hal hbro hsup hr _ _ ?_ ?_ ?_ (.inl ⟨rfl, ?_⟩), ?_⟩
              ·rw [Xw h0 hxt1 hu hxt hti hlen hfc hroom'];dsimp only;rw [XT,q1,JG,JG,hst];rfl
              ·exact h.below.trans ⟨rfl,rfl,rfl,by simp,fun k hk=>setRow_other w r.g k _ (by omega)⟩
              ·intro j bj rj hj hrj;have h1 := h.holds j bj rj hj hrj;by_cases hgj : rj.g = r.g
               ·
                have hfam:bj.root=b.root:=by
                 rcases h.sep j i bj b rj r hj hal hrj hr hgj with q|⟨_,q⟩
                 ·exact q
                 ·rw [hbro] at q;cases q
                have hshort:=h.top j i bj b rj r hj hal hrj hr hgj hfam hsup;refine Qx.mono hle ?_;unfold Qx at h1 ⊢;rw [hgj] at h1 ⊢;rw [hheap] at h1;rw [setRow_heap w r.g c' _ ee fr' hheap];split at h1
                ·rename_i cj ej frj _;obtain ⟨p1, p2, cj', ej', frj', p3, p4, p5, p6, p7⟩ := h1;cases p3;refine ⟨p1, p2, _, ee, fr', rfl, by rw [Qz];exact p4, ?_, p6, fun q => ?_⟩
                 ·intro k x hx;have hk:=(Jv.1 hx).1;obtain ⟨y,hy,hv⟩:=p5 k x hx;have hb0:rj.base=0:=by
                   by_cases q:bj.ro=true
                   ·have:=(p6 q).1
                    omega
                   ·exact (p7 (by simpa using q)).2.1
                  refine ⟨y, ?_,hv⟩;rw [(hwr cs'.toList (len*ti.size) c' (rj.base+k)).1 (by omega)];exact hy
                 ·obtain ⟨s1,s2,s3,s4⟩:=p7 q;exact ⟨s1,s2,by rw [Qz];exact s3,by rw [Qz];exact s4⟩
                ·obtain ⟨_,_,es',p2,_⟩:=h1;cases p2
                ·obtain ⟨_,_,_,p2⟩:=h1;cases p2
                ·obtain ⟨_,_,_,p2⟩:=h1;cases p2
                ·obtain ⟨_,_,_,_,_,p2⟩:=h1;cases p2
                ·exact h1.elim
               ·exact (h1.of_block (setRow_other w r.g rj.g _ hgj)).mono hle
              ·unfold Qx;dsimp only;refine ⟨rfl,hce.symm,_,ee,fr',setRow_heap w r.g c' _ ee fr' hheap, ?_, ?_,(fun q=>by cases q),fun _=>⟨k1,rfl,by rw [Qz],by rw [Qz];exact k4⟩⟩
               ·rw [Qz,Array.size_append,hcsize,hcsz];omega
               ·intro k x hx;rw [JG];rw [Array.getElem?_append] at hx;by_cases hk:k<c.size
                ·rw [Jf hk] at hx;obtain ⟨y,hy,hv⟩:=hcells k x hx;exact ⟨y,by rw [(hwr cs'.toList (len*ti.size) c' k).1 (by omega)];exact hy,hv.mono hle⟩
                ·rw [Jd hk] at hx;obtain ⟨y,hy,hv⟩:=hvcs.get hx;have hk2:=(Jv.1 hy).1;refine ⟨y, ?_,hv.mono hle⟩;rw [(hwr cs'.toList (len*ti.size) c' k).2 (by omega) (by simp;omega) (by simp;omega)]
                 rw [←hcsize];simpa using hy
              ·show r.n≤(c++cs).size;rw [Array.size_append];omega
              ·rw [q1];refine Jbf (Ren.upd_same _ _ _) (Je _) ?_ hroom' (by omega);rw [Array.size_append,hcsize,hcsz,JQ]
             ·
              have hcs0:m.cells i 0 (len*ti.size)=some c:=by
               simp [M.cells,M.row,hal,hobj,hcsize]
              obtain ⟨r3,c0',hr3,_,hv3,hs3,hcell3,_⟩:=h.cells_sound hcs0;rw [hr] at hr3;cases hr3;have hload:=run_loadCells_list (P:=P) w.drew ⟨r.g,r.base+0,none⟩ c0'.toList (fun j v hj=>hcell3 j v hj);rw [Array.toArray_toList,show c0'.toList.length=len*ti.size by rw [Jq,←hv3.1,hs3]] at hload;exact moves (some ⟨r.g,r.base+0,none⟩) cap' c0' rfl hroom' hv3 (by simp only [Builtin.firstCells];exact hload)
            ·have hc0:c = #[]:=JY (by rw [hcsize];simp)
             subst hc0;exact moves (some a') 0 #[] rfl (by omega) (JV.nil _) (by simp [Builtin.firstCells,loadCells,loadCellsFrom])
           ·cases ha
          ·cases ha
      ·cases ha
     ·cases ha
 ·cases ha
theorem Jjm (h : Inv P B w0 ρ m w) {ts : Array TypeId} {t ty : TypeId} {s s' x x' v : Value} (h0 : ts[0]? = some t) (hs : JX ρ s s') (hx : JX ρ x x') (ha : Xh P t ts[1]? s x m = some (v, m')) :
  ∃v' w' ρ',(Builtin.append_ ts ty #[s',x']).run P w = .ok v' w'∧ρ.le ρ'∧Inv P B w0 ρ' m' w'∧JX ρ' v v':=by
 unfold Xh at ha;split at ha
 ·rename_i e base len cap hu;split at ha
  ·rename_i ti z hti hz;split at ha
   ·cases ha
   ·rename_i hsz;obtain ⟨hs0,hzs⟩:ti.size≠0∧z.cells.size=ti.size:=by
     refine ⟨fun e=>hsz (.inl e), ?_⟩;by_cases e:z.cells.size=ti.size
     ·exact e
     ·exact absurd (.inr e) hsz
    cases hxt1:ts[1]? with
    | none=>rw [hxt1] at ha;simp at ha
    | some xt=>
     rw [hxt1] at ha;simp only [Jb] at ha;split at ha
     ·rename_i e' hxu;exact JfO h h0 hxt1 hu (.inl ⟨e',hxu⟩) hti hz hs0 hzs hs hx ha
     ·rename_i hxu;exact JfO h h0 hxt1 hu (.inr hxu) hti hz hs0 hzs hs hx ha
     ·cases ha
  ·cases ha
 ·cases ha
end Go.IM
namespace Go.IM
open Go Go.RowKit
variable {P:Program} {B:Nat} {w0:World} {ρ:Ren} {m m':M} {w:World}
theorem JmV (o:Obj):(newObj o).run P w = .ok w.heap.size (w.alloc o):=by
 rfl
theorem JdP (h:Inv P B w0 ρ m w) {o o':Obj} {n:Nat} (hn:m.newO o=some (n,m'))
  (hh : ∀r:RE,r=⟨w.heap.size,0,0,0,0⟩→Qx P B (ρ.upd m.nxt r) { obj:=o,root:=m.nxt } r (w.alloc o')) :
  ∃ ρ',(newObj o').run P w = .ok w.heap.size (w.alloc o')∧ρ.le ρ'∧Inv P B w0 ρ' m' (w.alloc o')∧ρ' n=some ⟨w.heap.size,0,0,0,0⟩:=by
 unfold M.newO at hn;split at hn
 ·rename_i hf;cases hn;refine ⟨ρ.upd m.nxt ⟨w.heap.size,0,0,0,0⟩,JmV o',Ren.le_upd _ _ _ (h.dom _ hf),h.alloc hf o o' _ rfl (hh _ rfl),Ren.upd_same _ _ _⟩
 ·cases hn
theorem JbB {i:Nat} {es:Array MapEntry} {clock:Nat} (hm:m.mapOf i=some (es,clock)) : ∃b,m.alive i=some b∧b.obj = .map es clock:=by
 unfold M.mapOf at hm;split at hm
 ·rename_i b hb;split at hm
  ·rename_i ho;cases hm;exact ⟨b,hb,ho⟩
  ·cases hm
 ·cases hm
theorem Xz (h:Inv P B w0 ρ m w) {i:Nat} {es:Array MapEntry} {clock:Nat} (hm:m.mapOf i=some (es,clock)) :
  ∃r es',ρ i=some r∧w.heap[r.g]? = some (.map es' clock)∧QV ρ es es':=by
 obtain ⟨b,hb,ho⟩:=JbB hm;obtain ⟨r,hr,hh⟩:=h.re hb;unfold Qx at hh;rw [ho] at hh;obtain ⟨_,_,es',h1,h2⟩:=hh;exact ⟨r,es',hr,h1,h2⟩
theorem XG (h:Inv P B w0 ρ m w) {i:Nat} {o o':Obj} {r:RE} {q:Obj} (hp:m.putObj i o=some m') (hr:ρ i=some r) (hB:B≤r.g) (hq:w.heap[r.g]? = some q)
  (hh : ∀b:Blk,b.ro=false→Qx P B ρ { b with obj:=o } r { w with heap:=w.heap.setIfInBounds r.g o' }) :
  Inv P B w0 ρ m' { w with heap:=w.heap.setIfInBounds r.g o' }:=by
 unfold M.putObj at hp;split at hp
 ·rename_i b hb;split at hp
  ·rename_i hc;cases hp;obtain ⟨h1,h2,h3,h4⟩:=hc;exact h.put hb h1 h2 hr o o' rfl rfl rfl (by simp) hB (fun k hk=>(MapKept.heap_set hq).2 k hk) (hh b h1)
  ·cases hp
 ·cases hp
theorem JlW (h:Inv P B w0 ρ m w) {i:Nat} {b:Blk} {r:RE} (hb:m.alive i=some b) (hr:ρ i=some r) (ho : ∀c e fr,b.obj ≠ .cells c e fr):B≤r.g:=by
 have hh:=h.holds i b r hb hr;unfold Qx at hh;split at hh
 ·rename_i hq;exact absurd hq (ho _ _ _)
 all_goals first | exact hh.2.1 | exact hh.elim
theorem JeZ {d:TypeDesc} {k k' a a':Value} (hk:JX ρ k k') (ha:JX ρ a a') {b:Bool} (h:Instr.sameNow d k a=some b):Instr.sameNow d k' a'=some b:=by
 unfold Instr.sameNow at h;split at h
 ·cases hk;cases ha;exact h
 ·cases hk;cases ha;exact h
 ·cases hk;cases ha;exact h
 ·cases h
def QP (ρ:Ren):List MapEntry→List MapEntry→Prop
 | [], []=>True
 | x::a,y::b=>(JX ρ x.key y.key∧JX ρ x.val y.val∧x.born=y.born)∧QP ρ a b
 | _,_=>False
theorem QV.list {a a':Array MapEntry} (h:QV ρ a a'):QP ρ a.toList a'.toList:=by
 obtain ⟨h1,h2⟩:=h;have h1':a.toList.length=a'.toList.length:=by simpa using h1
 have h2' : ∀(i:Nat) (x y:MapEntry),a.toList[i]? = some x→a'.toList[i]? = some y→JX ρ x.key y.key∧JX ρ x.val y.val∧x.born=y.born:=fun i x y hx hy=>h2 i x y (by simpa using hx) (by simpa using hy)
 generalize a.toList=l at h1' h2';generalize a'.toList=l' at h1' h2';clear h1 h2;induction l generalizing l' with
 | nil=>cases l' with
  | nil=>trivial
  | cons=>simp at h1'
 | cons x l ih=>cases l' with
  | nil=>simp at h1'
  | cons y l'=>exact ⟨h2' 0 x y rfl rfl,ih l' (by simpa using h1') fun i u v hu hv=>h2' (i+1) u v (by simpa using hu) (by simpa using hv)⟩
theorem QP.array : ∀{l l':List MapEntry},QP ρ l l'→QV ρ l.toArray l'.toArray:=by
 intro l;induction l with
 | nil=>intro l' h;cases l' with
  | nil=>exact ⟨rfl,fun i x y hx=>by simp at hx⟩
  | cons=>exact h.elim
 | cons x l ih=>intro l' h;cases l' with
  | nil=>exact h.elim
  | cons y l'=>
   obtain ⟨h1,h2⟩:=h;have h3:=ih h2;refine ⟨by have:=h3.1;simpa using this,fun i u v hu hv => ?_⟩
   rcases i with _ | i
   ·simp at hu hv;subst hu;subst hv;exact h1
   ·exact h3.2 i u v (by simpa using hu) (by simpa using hv)
theorem QV.of_list {a a':Array MapEntry} (h:QP ρ a.toList a'.toList):QV ρ a a':=by have:=h.array;simpa using this
theorem QP.find {d : TypeDesc} {k k' : Value} (hk : JX ρ k k') : ∀ {l l' : List MapEntry} (n : Nat), QP ρ l l' → ∀ {r : Option (Nat × Value)}, Instr.findNow d k l n = some r →
  ∃r',Instr.findNow d k' l' n=some r'∧(match r,r' with | none,none=>True | some (i,v),some (j,u)=>i=j∧JX ρ v u∧n≤i∧(∃e,l'[i - n]? = some e∧Instr.sameNow d k' e.key=some true) | _,_=>False):=by
 intro l;induction l with
 | nil=>intro l' n h r hr;cases l' with
  | nil=>cases hr;exact ⟨none,rfl,trivial⟩
  | cons=>exact h.elim
 | cons x l ih => intro l' n h r hr;cases l' with
  | nil=>exact h.elim
  | cons y l' =>
   obtain ⟨⟨h1,h2,h3⟩,h4⟩:=h;unfold Instr.findNow at hr ⊢;split at hr
   ·rename_i hs;cases hr;have hs':=JeZ hk h1 hs
    rw [hs'];exact ⟨_,rfl,rfl,h2,Je _,y,by simp,hs'⟩
   ·rename_i hs;rw [JeZ hk h1 hs];obtain ⟨r',h5,h6⟩:=ih (n+1) h4 hr;refine ⟨r',h5, ?_⟩;cases r with
    | none=>cases r' with
     | none=>trivial
     | some=>exact h6.elim
    | some p=>cases r' with
     | none=>exact h6.elim
     | some q=>
      obtain ⟨q1,q2,q3,e,q4,q5⟩:=h6;refine ⟨q1,q2,by omega,e, ?_,q5⟩;rw [show p.1 - n=(p.1 - (n+1))+1 by omega];simpa using q4
   ·cases hr
theorem JcF {d:TypeDesc} {k k':Value} (hk:JX ρ k k') (h:QW d k=true) (kt:TypeId) (hd:P.underlying kt=some d) (e:Bool) (n:Nat) (w:World):(Instr.checkKey e (n+1) kt k').run P w = .ok () w:=by
 unfold Instr.checkKey;simp only [Sem.run_bind,run_underlying hd,Result.andThen];unfold QW at h;split at h <;> first | (cases hk;simp;done) | cases h
theorem JaR {d : TypeDesc} {k k' : Value} {es es' : Array MapEntry} {r : Option (Nat × Value)} (hk : JX ρ k k') (he : QV ρ es es') (h : JdV d k es = some r) (kt : TypeId) (hd : P.underlying kt = some d) :
  QW d k=true ∧ ∃r',(Instr.findKey kt k' es'.toList).run P w = .ok r' w∧(match r,r' with | none,none=>True | some (i,v),some (j,u)=>i=j∧JX ρ v u∧(∃e,es'[i]? = some e∧Instr.sameNow d k' e.key=some true) | _,_=>False):=by
 unfold JdV at h;split at h
 ·rename_i hp;obtain ⟨r',h1,h2⟩:=he.list.find hk 0 h;refine ⟨hp,r',MapKept.run_findKey hd h1, ?_⟩;cases r with
  | none=>cases r' with
   | none=>trivial
   | some=>exact h2.elim
  | some p=>cases r' with
   | none=>exact h2.elim
   | some q=>
    obtain ⟨q1,q2,_,e,q4,q5⟩:=h2;exact ⟨q1,q2,e,by simpa using q4,q5⟩
 ·cases h
theorem Jbl {t e:TypeId} {d:TypeDesc} (h:JkH P t=some (d,e)) : ∃kt,P.underlying t=some (.map kt e)∧P.underlying kt=some d:=by
 unfold JkH at h;split at h
 ·rename_i k e' hu;simp only [Ja,Jm] at h;obtain ⟨d',hd,rfl,rfl⟩:=h;exact ⟨k,hu,hd⟩
 ·cases h
theorem Jde {e : TypeId} {ok : Bool} {r r' : Option (Nat × Value)} {v : Value} (hr : match r, r' with | none, none => True | some (i, v), some (j, u) => JX ρ v u | _, _ => False) (h : Jaq P e ok r = some v) :
  ∃v',((match r' with | some (_,v)=>pure (v,true) | none=>do pure (←zeroValue e,false)) >>= fun (p:Value × Bool)=>(pure (if ok then Value.tuple #[p.1,.bool p.2] else p.1):Sem Value)).run P w = .ok v' w∧JX ρ v v':=by
 cases r with
 | none=>
  cases r' with
  | some=>exact hr.elim
  | none=>
   unfold Jaq at h;simp only [Ja] at h;obtain ⟨z,hz,rfl⟩:=h;obtain ⟨h1,h2,_⟩:=XY hz w;refine ⟨if ok then .tuple #[z,.bool false] else z,by simp [h1], ?_⟩;split
   ·have:=JV.append (JV.one (JaZ ρ 3 z h2)) (JV.one (JX.bool false))
    exact .tuple this.1 this.2
   ·exact JaZ ρ 3 z h2
 | some p=>
  cases r' with
  | none=>exact hr.elim
  | some q=>
   unfold Jaq at h;cases h;refine ⟨if ok then .tuple #[q.2,.bool true] else q.2,by simp, ?_⟩;split
   ·have:=JV.append (JV.one hr) (JV.one (JX.bool true))
    exact .tuple this.1 this.2
   ·exact hr
theorem JiT (h : Inv P B w0 ρ m w) {t : TypeId} {x x' k k' v : Value} {ok : Bool} (hx : JX ρ x x') (hk : JX ρ k k') (hl : Q8 P t x k ok m = some v) :
  ∃v',(Instr.lookup t x' k' ok).run P w = .ok v' w∧JX ρ v v':=by
 unfold Q8 at hl;split at hl
 ·rename_i d e hm;obtain ⟨kt,hu,hd⟩:=Jbl hm;split at hl
  ·rename_i hp;cases hx;have hc:=JcF hk hp kt hd true 9999 w;have hf:(Instr.findKey kt k' ([]:List MapEntry)).run P w = .ok none w:=MapKept.run_findKey hd rfl;obtain ⟨v',h1,h2⟩:=Jde (w:=w) (ρ:=ρ) (r:=none) (r':=none) trivial hl;refine ⟨v', ?_,h2⟩;unfold Instr.lookup;simp only [Sem.run_bind,run_underlying hu,Result.andThen_ok];simp [hc,hf,Sem.run_bind] at h1 ⊢
   exact h1
  ·cases hl
 ·rename_i d e i hm;obtain ⟨kt, hu, hd⟩ := Jbl hm;split at hl
  ·rename_i es clock hmo;split at hl
   ·rename_i r hr;obtain ⟨re,es',h1,h2,h3⟩:=Xz h hmo;obtain ⟨hp,r',h4,h5⟩:=JaR (w:=w) hk h3 hr kt hd;cases hx with
    | map hi=>
     rw [h1] at hi;cases hi;have hc:=JcF hk hp kt hd es'.isEmpty 9999 w;obtain ⟨v',h6,h7⟩:=Jde (w:=w) (ρ:=ρ) (r:=r) (r':=r') (by
      cases r with
      | none=>cases r' <;> first | exact h5.elim | trivial
      | some p=>cases r' <;> first | exact h5.elim | exact h5.2.1) hl
     refine ⟨v', ?_,h7⟩;unfold Instr.lookup;simp only [Sem.run_bind,run_underlying hu,Result.andThen_ok];cases r' with
     | none=>simp [MapKept.run_getObj_map h2,hc,h4,Sem.run_bind] at h6 ⊢;exact h6
     | some q=>simp [MapKept.run_getObj_map h2,hc,h4,Sem.run_bind] at h6 ⊢;exact h6
   ·cases hl
  ·cases hl
 ·cases hl
theorem Jaj {d:TypeDesc} {k k':Value} (hk:JX ρ k k') (h:QW d k=true):MapKept.IsKey d k'∧k'=k:=by
 unfold QW at h;split at h
 ·cases hk;exact ⟨by have:=of_decide_eq_true h;exact this,rfl⟩
 ·cases hk;exact ⟨trivial,rfl⟩
 ·cases hk;exact ⟨trivial,rfl⟩
 ·cases h
theorem Jkm {d:TypeDesc} {k a:Value} (h:Instr.sameNow d k a=some true):a=k:=by
 unfold Instr.sameNow at h;split at h
 ·split at h
  ·rename_i hk;subst hk;simp only [Jg,beq_iff_eq] at h;rw [h]
  ·cases h
 ·simp only [Jg] at h;have:=(MapKept.bytes_beq _ _).1 h
  rw [this]
 ·simp only [Jg,beq_iff_eq] at h;rw [h]
 ·cases h
theorem QV.modify {es es':Array MapEntry} (h:QV ρ es es') {j:Nat} {k k' v v':Value} (hk:JX ρ k k') (hv:JX ρ v v') :
  QV ρ (es.modify j fun e => { e with key:=k,val:=v }) (es'.modify j fun e => { e with key:=k',val:=v' }):=by
 refine ⟨by simpa using h.1,fun i x y hx hy => ?_⟩;rw [Array.getElem?_modify] at hx hy;split at hx
 ·rename_i hj;rw [Jf hj] at hy;simp only [Ja] at hx hy;obtain ⟨x0,hx0,rfl⟩:=hx;obtain ⟨y0,hy0,rfl⟩:=hy;exact ⟨hk,hv,(h.2 i x0 y0 hx0 hy0).2.2⟩
 ·rename_i hj;rw [Jd hj] at hy;exact h.2 i x y hx hy
theorem QV.push {es es':Array MapEntry} (h:QV ρ es es') {k k' v v':Value} (hk:JX ρ k k') (hv:JX ρ v v') (b:Nat):QV ρ (es.push ⟨k,v,b⟩) (es'.push ⟨k',v',b⟩):=by
 refine QV.of_list ?_;have h1:=h.list;simp only [Array.toList_push];generalize es.toList=l at h1;generalize es'.toList=l' at h1;induction l generalizing l' with
 | nil=>cases l' with
  | nil=>exact ⟨⟨hk,hv,rfl⟩,trivial⟩
  | cons=>exact h1.elim
 | cons x l ih=>cases l' with
  | nil=>exact h1.elim
  | cons y l'=>exact ⟨h1.1,ih l' h1.2⟩
theorem QP.eraseIdx : ∀{l l':List MapEntry},QP ρ l l' → ∀j,QP ρ (l.eraseIdx j) (l'.eraseIdx j):=by
 intro l;induction l with
 | nil=>intro l' h j;cases l' with
  | nil=>simp;trivial
  | cons=>exact h.elim
 | cons x l ih=>intro l' h j;cases l' with
  | nil=>exact h.elim
  | cons y l'=>
   cases j with
   | zero=>exact h.2
   | succ j=>exact ⟨h.1,ih h.2 j⟩
theorem QV.erase {es es':Array MapEntry} (h:QV ρ es es') (j:Nat):QV ρ (es.eraseIdxIfInBounds j) (es'.eraseIdxIfInBounds j):=by
 refine QV.of_list ?_;have:=h.list.eraseIdx j
 have e : ∀(a:Array MapEntry),(a.eraseIdxIfInBounds j).toList=a.toList.eraseIdx j:=by
  intro a;unfold Array.eraseIdxIfInBounds;split
  ·simp
  ·rename_i hj;rw [List.eraseIdx_of_length_le (by simpa using hj)]
 rw [e,e];exact this
theorem Jd6 (h : Inv P B w0 ρ m w) {t : TypeId} {x x' k k' v v' : Value} (hx : JX ρ x x') (hk : JX ρ k k') (hv : JX ρ v v') (hu : Xf P t x k v m = some m') :
  ∃w',(Instr.mapUpdate t x' k' v').run P w = .ok () w'∧Inv P B w0 ρ m' w':=by
 unfold Xf at hu;split at hu
 ·rename_i d e i hm;obtain ⟨kt, hut, hd⟩ := Jbl hm;split at hu
  ·rename_i es clock hmo;obtain ⟨re, es', h1, h2, h3⟩ := Xz h hmo;obtain ⟨bb, hbb, hbo⟩ := JbB hmo;have hB := JlW h hbb h1 (by rw [hbo];intro c e fr;simp)
   cases hx with
   | map hi =>
    rw [h1] at hi;cases hi;split at hu
    ·rename_i j v0 hr;obtain ⟨hp,r',h4,h5⟩:=JaR (w:=w) hk h3 hr kt hd;cases r' with
     | none=>exact h5.elim
     | some q=>
      obtain ⟨rfl,_,e0,h6,h7⟩:=h5;have hkk:=Jkm h7;obtain ⟨hik,_⟩:=Jaj hk hp;refine ⟨{ w with heap:=w.heap.setIfInBounds re.g (.map (es'.modify q.1 fun e => { e with key:=k',val:=v' }) clock) }, ?_, ?_⟩
      ·have hc:=MapKept.run_checkKey (w:=w) hd hik false 9999;obtain ⟨q1,q2⟩:=q;simp only at h6
       unfold Instr.mapUpdate;simp [run_underlying hut,MapKept.run_getObj_map h2,hc,h4,h6,hkk,MapKept.run_keyThatStays hik,MapKept.run_setObj_map _ h2]
      ·refine XG h hu h1 hB h2 fun b hb => ?_
       unfold Qx;exact ⟨hb,hB,_,(MapKept.heap_set h2).1,h3.modify hk hv⟩
    ·rename_i hr;obtain ⟨hp,r',h4,h5⟩:=JaR (w:=w) hk h3 hr kt hd;cases r' with
     | some=>exact h5.elim
     | none=>
      obtain ⟨hik,_⟩:=Jaj hk hp;refine ⟨{ w with heap:=w.heap.setIfInBounds re.g (.map (es'.push ⟨k',v',clock⟩) (clock+1)) }, ?_, ?_⟩
      ·have hc:=MapKept.run_checkKey (w:=w) hd hik false 9999;unfold Instr.mapUpdate;simp [run_underlying hut,MapKept.run_getObj_map h2,hc,h4,MapKept.run_setObj_map _ h2]
      ·refine XG h hu h1 hB h2 fun b hb => ?_
       unfold Qx;exact ⟨hb,hB,_,(MapKept.heap_set h2).1,h3.push hk hv clock⟩
    ·cases hu
  ·cases hu
 ·cases hu
theorem Jje (h : Inv P B w0 ρ m w) {ts : Array TypeId} {t ty : TypeId} {x x' k k' : Value} (h0 : ts[0]? = some t) (hx : JX ρ x x') (hk : JX ρ k k') (hu : X8 P t x k m = some m') :
  ∃w',(Builtin.delete_ ts ty #[x',k']).run P w = .ok (.tuple #[]) w'∧Inv P B w0 ρ m' w':=by
 unfold X8 at hu;split at hu
 ·rename_i d e hm;obtain ⟨kt,hut,hd⟩:=Jbl hm;split at hu
  ·rename_i hp;cases hu;cases hx;obtain ⟨hik,_⟩:=Jaj hk hp;have hc:=MapKept.run_checkKey (w:=w) hd hik true 9999;exact ⟨w,by simp [Builtin.delete_,h0,run_underlying hut,hc],h⟩
  ·cases hu
 ·rename_i d e i hm;obtain ⟨kt, hut, hd⟩ := Jbl hm;split at hu
  ·rename_i es clock hmo;obtain ⟨re, es', h1, h2, h3⟩ := Xz h hmo;obtain ⟨bb, hbb, hbo⟩ := JbB hmo;have hB := JlW h hbb h1 (by rw [hbo];intro c e fr;simp)
   cases hx with
   | map hi =>
    rw [h1] at hi;cases hi;split at hu
    ·rename_i j v0 hr;obtain ⟨hp,r',h4,h5⟩:=JaR (w:=w) hk h3 hr kt hd;cases r' with
     | none=>exact h5.elim
     | some q=>
      obtain ⟨rfl,_,e0,h6,h7⟩:=h5;obtain ⟨hik,_⟩:=Jaj hk hp;refine ⟨{ w with heap:=w.heap.setIfInBounds re.g (.map (es'.eraseIdxIfInBounds q.1) clock) }, ?_, ?_⟩
      ·have hc:=MapKept.run_checkKey (w:=w) hd hik es'.isEmpty 9999;obtain ⟨q1,q2⟩:=q;simp [Builtin.delete_,h0,run_underlying hut,MapKept.run_getObj_map h2,hc,h4,MapKept.run_setObj_map _ h2]
      ·refine XG h hu h1 hB h2 fun b hb => ?_
       unfold Qx;exact ⟨hb,hB,_,(MapKept.heap_set h2).1,h3.erase _⟩
    ·rename_i hr;obtain ⟨hp,r',h4,h5⟩:=JaR (w:=w) hk h3 hr kt hd;cases r' with
     | some=>exact h5.elim
     | none=>
      obtain ⟨hik,_⟩:=Jaj hk hp;refine ⟨{ w with heap:=w.heap.setIfInBounds re.g (.map es' clock) }, ?_, ?_⟩
      ·have hc:=MapKept.run_checkKey (w:=w) hd hik es'.isEmpty 9999;simp [Builtin.delete_,h0,run_underlying hut,MapKept.run_getObj_map h2,hc,h4,MapKept.run_setObj_map _ h2]
      ·refine XG h hu h1 hB h2 fun b hb => ?_
       unfold Qx;exact ⟨hb,hB,_,(MapKept.heap_set h2).1,h3⟩
    ·cases hu
  ·cases hu
 ·cases hu
theorem Jhz (h : Inv P B w0 ρ m w) {t : TypeId} {r r' : Option Value} {v : Value} (hr : ∀ x x', r = some x → r' = some x' → JX ρ x x') (hs : r.isSome = r'.isSome) (hm : QF P t r m = some (v, m')) :
  ∃v' w' ρ',(Instr.makeMap t r').run P w = .ok v' w'∧ρ.le ρ'∧Inv P B w0 ρ' m' w'∧JX ρ' v v':=by
 have fin : ∀{n:Nat} {m1:M},m.newO (.map #[] 0)=some (n,m1) → ∃ ρ',(newObj (.map #[] 0)).run P w = .ok w.heap.size (w.alloc (.map #[] 0))∧ρ.le ρ'∧Inv P B w0 ρ' m1 (w.alloc (.map #[] 0))∧JX ρ' (.map (some n)) (.map (some w.heap.size)):=by
  intro n m1 hn;obtain ⟨ρ',h1,h2,h3,h4⟩:=JdP (o' := .map #[] 0) h hn (fun r hr=>by
   subst hr;unfold Qx;exact ⟨rfl,Jy h.size h.below.size, #[],(MapKept.heap_alloc w _).1,rfl,fun i x y hx=>by simp at hx⟩)
  exact ⟨ρ',h1,h2,h3,.map h4⟩
 unfold QF at hm;split at hm
 ·cases r' with
  | some=>cases hs
  | none=>
   split at hm
   ·rename_i n m1 hn;cases hm;obtain ⟨ρ',h1,h2,h3,h4⟩:=fin hn;exact ⟨_,_,ρ',by simp [Instr.makeMap,h1],h2,h3,h4⟩
   ·cases hm
 ·rename_i k n0 kt e hu;cases r' with
  | none=>cases hs
  | some x'=>
   have:=hr _ _ rfl rfl
   split at hm
   ·rename_i n m1 hn;cases hm;obtain ⟨ρ',h1,h2,h3,h4⟩:=fin hn;generalize hq:Value.int k n0=q at this;cases this <;> cases hq
    exact ⟨_,_,ρ',by simp [Instr.makeMap,run_underlying hu,asInt,asIntOf,h1],h2,h3,h4⟩
   ·cases hm
 ·cases hm
theorem Jk7 (h : Inv P B w0 ρ m w) {args args' : Array Value} {v : Value} {m1 : M} (ha : JV ρ args args') (hc : Jbm args m = some (.val v m1)) :
  ∃v' w' ρ',(Extern.MapsClone.clone args').run P w = .ok v' w'∧ρ.le ρ'∧Inv P B w0 ρ' m1 w'∧JX ρ' v v':=by
 unfold Jbm at hc;split at hc
 ·rename_i t i he;have e1 : args = #[.iface t (.map (some i))] := by apply Array.ext';rw [he]
  subst e1;split at hc
  ·rename_i es clock hmo;obtain ⟨re, es', h1, h2, h3⟩ := Xz h hmo;split at hc
   ·rename_i n m2 hn;cases hc;obtain ⟨x', hx', hr⟩ := ha.get (i := 0) (x := .iface t (.map (some i))) rfl;have e2 : args' = #[x'] := by
     have hs:=ha.1;refine Array.ext (by simpa using hs.symm) fun j hj hk => ?_
     have:j=0:=by simp at hk;omega
     subst this;have:=(Jv.1 hx').2
     simpa using this
    subst e2;cases hr with
    | iface _ hv=>
     cases hv with
     | map hi=>
      rw [h1] at hi;cases hi;have hne:m.get m.nxt=none:=by
       unfold M.newO at hn;split at hn
       ·assumption
       ·cases hn
      obtain ⟨ρ',k1,k2,k3,k4⟩:=JdP (o' := .map es' clock) h hn (fun r hr=>by
       subst hr;unfold Qx;refine ⟨rfl,Jy h.size h.below.size,es',(MapKept.heap_alloc w _).1,h3.1,fun i x y hx hy => ?_⟩;have hle:=Ren.le_upd ρ m.nxt ⟨w.heap.size,0,0,0,0⟩ (h.dom _ hne);obtain ⟨q1,q2,q3⟩:=h3.2 i x y hx hy;exact ⟨q1.mono hle,q2.mono hle,q3⟩)
      refine ⟨.iface t (.map (some w.heap.size)),_,ρ', ?_,k2,k3,.iface t (.map k4)⟩;have e:Extern.MapsClone.clone #[.iface t (.map (some re.g))]=(getObj re.g >>= fun o=>match o with
       | .map entries clock=>newObj (.map entries clock) >>= fun a=>pure (.iface t (.map (some a)))
       | _ => stuck "maps.clone: a map expected") := rfl
      rw [e];simp [MapKept.run_getObj_map h2,k1]
   ·cases hc
  ·cases hc
 ·cases hc
theorem JpJ {args:Array Value} {r:Res} (hc:Jbm args m=some r) : ∃v m1,r = .val v m1:=by
 unfold Jbm at hc;split at hc
 ·split at hc
  ·split at hc
   ·cases hc;exact ⟨_,_,rfl⟩
   ·cases hc
  ·cases hc
 ·cases hc
theorem JnH {fn : Func} (h : JhJ fn = true) : fn.body = none ∧ fn.name ≠ "runtime.NumGoroutine" ∧ Extern.findNext fn = none ∧ Extern.find fn = some Extern.MapsClone.clone := by
 unfold JhJ at h;simp only [Jh,Option.isNone_iff_eq_none,beq_iff_eq] at h;obtain ⟨⟨h1,h2⟩,h3⟩:=h;refine ⟨h1,by rw [h2];decide, ?_, ?_⟩
 ·unfold Extern.findNext;dsimp only;rw [h2, h3];have e1 : Extern.allNextRows.lookup "maps.clone" = none := by kernel_rfl
  have e2 : Extern.allNextRows.lookup "" = none := by kernel_rfl
  rw [e1,e2];rfl
 ·unfold Extern.find;dsimp only;rw [h2];have e1 : Extern.allGenericRows.lookup "maps.clone" = none := by kernel_rfl
  have e2 : Extern.allTypedRows.lookup "maps.clone" = none := by kernel_rfl
  have e3 : Extern.allRows.lookup "maps.clone" = some Extern.MapsClone.clone := by kernel_rfl
  rw [e1,e2,e3];rfl
theorem Jkr (h : Inv P B w0 ρ m w) {t : TypeId} {x x' v : Value} (hx : JX ρ x x') (hm : Jee P t x m = some (v, m')) :
  ∃v' w' ρ',(Instr.range t x').run P w = .ok v' w'∧ρ.le ρ'∧Inv P B w0 ρ' m' w'∧JX ρ' v v':=by
 unfold Jee at hm;split at hm
 ·rename_i o ho;split at hm
  ·rename_i n m1 hn;cases hm;have fin : ∀ o' : Obj, (∀ r : RE, r = ⟨w.heap.size, 0, 0, 0, 0⟩ → Qx P B (ρ.upd m.nxt r) { obj := o, root := m.nxt } r (w.alloc o')) → (Instr.range t x').run P w = (do pure (.pointer (some ⟨← newObj o', 0, none⟩)) : Sem Value).run P w →
     ∃v' w' ρ',(Instr.range t x').run P w = .ok v' w'∧ρ.le ρ'∧Inv P B w0 ρ' m' w'∧JX ρ' (.pointer (some ⟨n,0,none⟩)) v':=by
    intro o' hh hrun;obtain ⟨ρ',h1,h2,h3,h4⟩:=JdP (o':=o') h hn hh;exact ⟨.pointer (some ⟨w.heap.size,0,none⟩),_,ρ',by rw [hrun];simp [h1],h2,h3,.ptr 0 h4⟩
   have hbase:=Jy h.size h.below.size;unfold Jby at ho;split at ho
   ·rename_i s hu;cases ho;cases hx;refine fin (.stringIter s 0) (fun r hr => ?_) ?_
    ·subst hr;unfold Qx;exact ⟨rfl,hbase,rfl,(MapKept.heap_alloc w _).1⟩
    ·unfold Instr.range;simp [run_underlying hu]
   ·rename_i hu;cases ho;cases hx;refine fin (.mapIter none 0 #[] 0) (fun r hr => ?_) ?_
    ·subst hr;unfold Qx;exact ⟨rfl,hbase,rfl,(MapKept.heap_alloc w _).1⟩
    ·unfold Instr.range;simp [run_underlying hu]
   ·rename_i kt e i hu;split at ho
    ·rename_i es clock hmo;cases ho;obtain ⟨re,es',h1,h2,h3⟩:=Xz h hmo;cases hx with
     | map hi=>
      rw [h1] at hi;cases hi;have hne:m.get m.nxt=none:=by
       unfold M.newO at hn;split at hn
       ·assumption
       ·cases hn
      refine fin (.mapIter (some re.g) clock #[] clock) (fun r hr => ?_) ?_
      ·subst hr;unfold Qx;refine ⟨rfl,hbase,rfl,re, ?_,(MapKept.heap_alloc w _).1⟩;rw [Ren.upd_ne]
       ·exact h1
       ·intro e;subst e;rw [h.dom _ hne] at h1;cases h1
      ·unfold Instr.range;simp [run_underlying hu,MapKept.run_getObj_map h2]
    ·cases ho
   ·cases ho
  ·cases hm
 ·cases hm
theorem QP.filter (p:Nat→Bool) : ∀{l l':List MapEntry},QP ρ l l'→QP ρ (l.filter fun e=>p e.born) (l'.filter fun e=>p e.born):=by
 intro l;induction l with
 | nil=>intro l' h;cases l' with
  | nil=>trivial
  | cons=>exact h.elim
 | cons x l ih=>intro l' h;cases l' with
  | nil=>exact h.elim
  | cons y l'=>
   obtain ⟨h1,h2⟩:=h;simp only [List.filter_cons];rw [h1.2.2];split
   ·exact ⟨h1,ih h2⟩
   ·exact ih h2
theorem QV.filter {es es':Array MapEntry} (h:QV ρ es es') (p:Nat→Bool):QV ρ (es.filter fun e=>p e.born) (es'.filter fun e=>p e.born):=by
 refine QV.of_list ?_;rw [Array.toList_filter,Array.toList_filter];exact h.list.filter p
theorem QP.all (p:Nat→Bool) : ∀{l l':List MapEntry},QP ρ l l'→(l.all fun e=>p e.born)=(l'.all fun e=>p e.born):=by
 intro l;induction l with
 | nil=>intro l' h;cases l' with
  | nil=>rfl
  | cons=>exact h.elim
 | cons x l ih=>intro l' h;cases l' with
  | nil=>exact h.elim
  | cons y l'=>simp only [List.all_cons];rw [h.1.2.2,ih h.2]
theorem QV.all {es es':Array MapEntry} (h:QV ρ es es') (p:Nat→Bool):(es.all fun e=>p e.born)=(es'.all fun e=>p e.born):=by
 rw [←Array.all_toList,←Array.all_toList];exact h.list.all p
theorem QV.empty {es es':Array MapEntry} (h:QV ρ es es'):es.isEmpty=es'.isEmpty:=by
 have:=h.1
 cases h1:es.isEmpty <;> cases h2:es'.isEmpty <;> simp_all [Array.isEmpty]
def JnP (ρ:Ren):List (Option MapEntry)→List (Option MapEntry)→Prop
 | [], []=>True
 | none::a,none::b=>JnP ρ a b
 | some x::a,some y::b=>(JX ρ x.key y.key∧JX ρ x.val y.val∧x.born=y.born)∧JnP ρ a b
 | _,_=>False
theorem JnP.map : ∀{l l':List MapEntry},QP ρ l l'→JnP ρ (l.map some) (l'.map some):=by
 intro l;induction l with
 | nil=>intro l' h;cases l' with
  | nil=>trivial
  | cons=>exact h.elim
 | cons x l ih=>intro l' h;cases l' with
  | nil=>exact h.elim
  | cons y l'=>exact ⟨h.1,ih h.2⟩
theorem QP.append : ∀{a a' b b':List MapEntry},QP ρ a a'→QP ρ b b'→QP ρ (a++b) (a'++b'):=by
 intro a;induction a with
 | nil=>intro a' b b' h k;cases a' with
  | nil=>exact k
  | cons=>exact h.elim
 | cons x a ih=>intro a' b b' h k;cases a' with
  | nil=>exact h.elim
  | cons y a'=>exact ⟨h.1,ih h.2 k⟩
theorem Jsj {es es':Array MapEntry} (h:QV ρ es es') (since:Nat) (seen:Array Nat):JnP ρ (Ja1 es since seen).toList (Ja1 es' since seen).toList:=by
 have h1:=h.filter fun b => !seen.contains b
 have h2:=h1.filter fun b=>decide (b<since)
 have h3:=h1.filter fun b=>decide (b≥since)
 unfold Ja1;have he:=h2.empty;have hm:=JnP.map (QP.append h2.list h3.list);rw [Array.toList_append,Array.toList_append,Array.toList_map,Array.toList_map,Array.toList_append,Array.toList_append];rw [he];split
 ·exact hm
 ·exact hm
theorem Jm8 (h : Inv P B w0 ρ m w) {it it' v : Value} {s : Bool} {t : TypeId} (hx : JX ρ it it') (hm : JhN it s m = some (v, m')) :
  ∃v' w',(Instr.next it' s t).run P w = .ok v' w'∧Inv P B w0 ρ m' w'∧JX ρ v v':=by
 unfold JhN at hm;split at hm
 ·rename_i i;split at hm
  ·rename_i b hb;obtain ⟨r, hr, hh⟩ := h.re hb;have hov : JX ρ (.tuple #[.bool false]) (.tuple #[.bool false]) := by
    have:=JV.one (JX.bool (ρ:=ρ) false)
    exact .tuple this.1 this.2
   have hth : ∀{a c a' c':Value},JX ρ a a'→JX ρ c c'→JX ρ (.tuple #[.bool true,a,c]) (.tuple #[.bool true,a',c']):=by
    intro a c a' c' ha hc;have:=((JV.one (JX.bool (ρ:=ρ) true)).append (JV.one ha)).append (JV.one hc)
    exact .tuple this.1 this.2
   cases hx with
   | ptr _ hi =>
    rw [hr] at hi;cases hi;unfold Xx at hm;split at hm
    ·rename_i sx pos ho;have hB := JlW h hb hr (by rw [ho];intro c e fr;simp)
     unfold Qx at hh;rw [ho] at hh;obtain ⟨_,_,hb0,hq⟩:=hh;split at hm
     ·rename_i hs;subst hs;split at hm
      ·rename_i hlt;simp only [Ja,Jm] at hm;obtain ⟨m1,hp,rfl,rfl⟩:=hm;refine ⟨_,{ w with heap:=w.heap.setIfInBounds r.g (.stringIter sx (pos+(Utf8.decode sx pos).2)) }, ?_, ?_,hth (.int _ _) (.int _ _)⟩
       ·unfold Instr.next;simp [hb0,getObj,setObj,Sem.run,hq,hlt,goInt]
       ·refine XG h hp hr hB hq fun b' hb' => ?_
        unfold Qx;exact ⟨hb',hB,hb0,(MapKept.heap_set hq).1⟩
      ·rename_i hlt;cases hm;refine ⟨_,w, ?_,h,hov⟩;unfold Instr.next;simp [hb0,getObj,Sem.run,hq,hlt]
     ·cases hm
    ·rename_i a1 a2 a3 ho;unfold Qx at hh;rw [ho] at hh;obtain ⟨_,_,hb0,hq⟩:=hh;split at hm
     ·cases hm
     ·rename_i hs;have hs':s=false:=by cases s <;> simp_all
      subst hs';cases hm;refine ⟨_,w, ?_,h,hov⟩;unfold Instr.next;simp [hb0,getObj,Sem.run,hq]
    ·rename_i j since seen last ho;have hB := JlW h hb hr (by rw [ho];intro c e fr;simp)
     unfold Qx at hh;rw [ho] at hh;obtain ⟨_,_,hb0,rm,hrm,hq⟩:=hh;split at hm
     ·cases hm
     ·rename_i hs;have hs' : s = false := by cases s <;> simp_all
      subst hs';split at hm
      ·rename_i es clock hmo;obtain ⟨rm', es', k1, k2, k3⟩ := Xz h hmo;rw [hrm] at k1;cases k1;split at hm
       ·cases hm
       ·rename_i hbad;have hbad' : ¬ ((!seen.isEmpty && !es'.isEmpty && es'.all (fun x => decide (x.born ≥ last))) = true) := by
         rw [←k3.empty,←k3.all (fun b=>decide (b≥last))];exact hbad
        have hc:=Jsj k3 since seen;have hrun : ∀(c:Option MapEntry),(Ja1 es' since seen).toList = [c]→(Instr.next (.pointer (some ⟨r.g,r.base+0,none⟩)) false t).run P w =
          (match c with
           | some e=>((setObj r.g (.mapIter (some rm.g) since (seen.push e.born) clock)).run P w).andThen fun _ w' => .ok (.tuple #[.bool true,e.key,e.val]) w'
           | none => .ok (.tuple #[.bool false]) w):=by
         intro c hcc;have hcc':Ja1 es' since seen = #[c]:=by apply Array.ext';rw [hcc]
         unfold Ja1 at hcc';unfold Instr.next;rw [hb0];simp only [JG,Nat.add_zero,Sem.run_bind,Sem.run_pure];have e1:(getObj r.g).run P w = .ok (.mapIter (some rm.g) since seen last) w:=by simp [getObj,Sem.run,hq]
         rw [e1];simp only [Result.andThen_ok,MapKept.run_getObj_map k2,Sem.run_bind];rw [Jd hbad'];rw [hcc'];have e2:(choose (.mapNext 1)).run P w = .ok 0 w:=by simp [choose,Sem.run,Question.forced]
         simp only [Sem.run_bind,List.size_toArray,Ju,JD,JG,e2,Result.andThen_ok];cases c with
         | none=>simp
         | some e=>simp
        split at hm
        ·rename_i e he;rw [he] at hc;simp only [Ja, Jm] at hm;obtain ⟨m1, hp, rfl, rfl⟩ := hm;obtain ⟨e', he', hee⟩ : ∃ e', (Ja1 es' since seen).toList = [some e'] ∧ (JX ρ e.key e'.key ∧ JX ρ e.val e'.val ∧ e.born = e'.born) := by
          cases hl:(Ja1 es' since seen).toList with
          | nil=>rw [hl] at hc;exact hc.elim
          | cons c l=>
           rw [hl] at hc;cases c with
           | none=>exact hc.elim
           | some e'=>cases l with
            | nil=>exact ⟨e',rfl,hc.1⟩
            | cons=>exact hc.2.elim
         refine ⟨.tuple #[.bool true,e'.key,e'.val],{ w with heap:=w.heap.setIfInBounds r.g (.mapIter (some rm.g) since (seen.push e'.born) clock) }, ?_, ?_,hth hee.1 hee.2.1⟩
         ·rw [hrun _ he'];simp [setObj,Sem.run,hq]
         ·refine XG h hp hr hB hq fun b' hb' => ?_
          unfold Qx;rw [←hee.2.2];exact ⟨hb',hB,hb0,rm,hrm,(MapKept.heap_set hq).1⟩
        ·rename_i he;rw [he] at hc;cases hm;have he' : (Ja1 es' since seen).toList = [none] := by
          cases hl:(Ja1 es' since seen).toList with
          | nil=>rw [hl] at hc;exact hc.elim
          | cons c l=>
           rw [hl] at hc;cases c with
           | some=>exact hc.elim
           | none=>cases l with
            | nil=>rfl
            | cons=>exact hc.elim
         exact ⟨_,w,by rw [hrun _ he'],h,hov⟩
        ·cases hm
      ·cases hm
    ·cases hm
  ·cases hm
 ·cases hm
theorem QP.findB (p:Nat→Bool) : ∀{l l':List MapEntry},QP ρ l l' → ∀{e:MapEntry},l.find? (fun x=>p x.born)=some e → ∃e',l'.find? (fun x=>p x.born)=some e'∧JX ρ e.key e'.key∧JX ρ e.val e'.val:=by
 intro l;induction l with
 | nil=>intro l' h e he;cases he
 | cons x l ih=>intro l' h e he;cases l' with
  | nil=>exact h.elim
  | cons y l'=>
   obtain ⟨⟨h1,h2,h3⟩,h4⟩:=h;rw [List.find?_cons] at he ⊢;rw [←h3];split at he
   ·cases he;exact ⟨y,rfl,h1,h2⟩
   ·exact ih h4 he
theorem Jk1 (h : Inv P B w0 ρ m w) {it it' v : Value} (hx : JX ρ it it') (hm : Jef it m = some v) :
  ∃v',(Instr.entry it').run P w = .ok v' w∧JX ρ v v':=by
 unfold Jef at hm;split at hm
 ·rename_i i;split at hm
  ·rename_i b hb;obtain ⟨r, hr, hh⟩ := h.re hb;split at hm
   ·rename_i j since seen stepped ho;split at hm
    ·rename_i stamp es clock hst hmo;split at hm
     ·rename_i hcl;simp only [Ja] at hm;obtain ⟨e,he,rfl⟩:=hm;unfold Qx at hh;rw [ho] at hh;obtain ⟨_,_,hb0,rm,hrm,hq⟩:=hh;obtain ⟨rm',es',k1,k2,k3⟩:=Xz h hmo;rw [hrm] at k1;cases k1;obtain ⟨e',he',h1,h2⟩:=k3.list.findB (fun b=>b == stamp) he;cases hx with
      | ptr _ hi=>
       rw [hr] at hi;cases hi;refine ⟨.tuple #[e'.key,e'.val], ?_, ?_⟩
       ·unfold Instr.entry;rw [hb0];have e1:(getObj r.g).run P w = .ok (.mapIter (some rm.g) since seen stepped) w:=by simp [getObj,Sem.run,hq]
        have he2:es'.find? (fun x=>x.born == stamp)=some e':=by rw [←Array.find?_toList];exact he'
        simp only [JG,Nat.add_zero,Sem.run_bind,Sem.run_pure,e1,Result.andThen_ok,hst,MapKept.run_getObj_map k2];rw [Jd (by simpa using hcl)];simp [he2]
       ·have:=(JV.one h1).append (JV.one h2)
        exact .tuple this.1 this.2
     ·cases hm
    ·cases hm
   ·cases hm
  ·cases hm
 ·cases hm
end Go.IM
namespace Go.IM
open Go Go.RowKit
variable {P:Program} {B:Nat} {w0:World} {ρ:Ren} {m m':M} {w:World}
theorem Jdq {x x':Value} {n:Nat} (hx:JX ρ x x') (hn:Jci x=some n):(Builtin.lenOf x').run P w = .ok n w:=by
 cases x with
 | slice b l c=>
  simp [Jci] at hn;subst hn
  cases b with
  | none=>cases hx;simp [Builtin.lenOf]
  | some a=>cases hx <;> simp [Builtin.lenOf]
 | string s=>simp [Jci] at hn;subst hn;cases hx;simp [Builtin.lenOf]
 | _=>simp [Jci] at hn
theorem JfF (h:Inv P B w0 ρ m w) {size k n:Nat} {x x':Value} {cs:Array Value} (hx:JX ρ x x') (hn:Jci x=some n) (hk:k≤n) (hc:XR size k m x=some cs) :
  ∃cs',JV ρ cs cs'∧(Builtin.firstCells size k x').run P w = .ok cs' w∧(k=0→cs = #[]):=by
 unfold XR at hc;split at hc
 ·cases hc;cases hx;exact ⟨#[],JV.nil _,by simp [Builtin.firstCells],fun _=>rfl⟩
 ·rename_i i o sp len cap;split at hc
  ·rename_i h0;cases hc;refine ⟨#[],JV.nil _, ?_,fun _=>rfl⟩;rcases hx.slice_inv with ⟨r',cap',rfl,_⟩|⟨_,rfl,a',rfl⟩ <;> simp [Builtin.firstCells,h0,loadCells,loadCellsFrom]
  ·rename_i h0;obtain ⟨r,cs',hr,hle,hv,hsz,_,hrun⟩:=h.cells_sound hc;refine ⟨cs',hv, ?_,fun e=>absurd (by rw [e];simp) h0⟩
   rcases hx.slice_inv with ⟨r',cap',rfl,hr',_⟩|⟨rfl,rfl,a',rfl⟩
   ·rw [hr] at hr';cases hr';simp [Builtin.firstCells,hrun]
   ·simp [Jci] at hn;subst hn;exact absurd (by rw [show k=0 by omega];simp) h0
 ·rename_i s;split at hc
  ·rename_i h1;cases hc;cases hx;exact ⟨_,JV.map _ _ _ (fun b => .int .u8 b.toNat),by simp [Builtin.firstCells],fun e=>by rw [e];simp⟩
  ·cases hc
 ·cases hc
theorem JnF (h : Inv P B w0 ρ m w) {ts : Array TypeId} {t ty : TypeId} {s s' x x' v : Value} (h0 : ts[0]? = some t) (hs : JX ρ s s') (hx : JX ρ x x') (ha : Jfx P t s x m = some (v, m')) :
  ∃v' w',(Builtin.copy_ ts ty #[s',x']).run P w = .ok v' w'∧Inv P B w0 ρ m' w'∧JX ρ v v':=by
 unfold Jfx at ha;split at ha
 ·rename_i e base dl cap hu;split at ha
  ·rename_i ti n hti hn;split at ha
   ·rename_i cs hcs;have hlen:=Jdq (P:=P) (w:=w) hx hn;obtain ⟨cs',hv,hfc,hz⟩:=JfF h hx hn (Nat.min_le_left n dl) hcs;have hmm:Nat.min n dl=min n dl:=rfl;split at ha
    ·rename_i hk;cases ha;have:=hz hk
     subst this;have hcs0:cs' = #[]:=JY (by rw [←hv.1];rfl)
     subst hcs0;obtain ⟨a',cap',rfl⟩ : ∃a' cap',s' = .slice a' dl cap':=by
      cases hs <;> exact ⟨_,_,rfl⟩
     refine ⟨goInt 0,w, ?_,h,.int _ _⟩;rw [hk] at hfc;cases a' <;> simp [Builtin.copy_,h0,run_underlying hu,hlen,Qb hti,hmm,hfc,storeCells,hk]
    ·rename_i hk;split at ha
     ·rename_i i o sp;simp only [Ja,Jm] at ha;obtain ⟨m1,hst,rfl,rfl⟩:=ha;obtain ⟨r2,w',hr2,hb2,hrun,hinv,_⟩:=h.store_sound (vs':=cs'.toList) hst (by simpa using hv.1) (fun k x y hx hy=>hv.2 k x y (by simpa using hx) (by simpa using hy));rcases hs.slice_inv with ⟨r',cap',rfl,hr',_⟩|⟨rfl,rfl,a',rfl⟩
      ·rw [hr2] at hr';cases hr';refine ⟨goInt (min n dl:Nat),w', ?_,hinv,.int _ _⟩;rw [hb2,JG];simp [Builtin.copy_,h0,run_underlying hu,hlen,Qb hti,hmm,hfc,hrun]
      ·exact absurd (by omega) hk
     ·cases ha
   ·cases ha
  ·cases ha
 ·cases ha
def JjI (ρ:Ren) (d d':Deferred):Prop:=
 ∃k c c',d.target = .fn (.func k) c∧d'.target = .fn (.func k) c'∧JV ρ c c'∧JV ρ d.args d'.args
theorem JjI.mono {ρ ρ':Ren} (hr:ρ.le ρ') {d d':Deferred} (h:JjI ρ d d'):JjI ρ' d d':=
 let ⟨k,c,c',h1,h2,h3,h4⟩:=h;⟨k,c,c',h1,h2,h3.mono hr,h4.mono hr⟩
def JgG (P:Program) (B:Nat) (w0:World) (ρ:Ren) (w:World) (rr:Result Next):Res→Prop
 | .val v m1 => ∃v' w' ρ',rr = .ok (.value v') w'∧ρ.le ρ'∧Inv P B w0 ρ' m1 w'∧JX ρ' v v'
 | .skip m1 => ∃w' ρ',rr = .ok .skip w'∧ρ.le ρ'∧Inv P B w0 ρ' m1 w'
 | .dfr d m1 => ∃d',rr = .ok (.defer d') w∧Inv P B w0 ρ m1 w∧JjI ρ d d'
 | .call f args m1 => ∃args',rr = .ok (.enter f args') w∧Inv P B w0 ρ m1 w∧JV ρ args args'
 | .pnc v m1 => ∃v',rr = .halt (.panic v') w∧Inv P B w0 ρ m1 w∧JX ρ v v'
theorem Xp (h : Inv P B w0 ρ m w) {ev ev' : Operand → Value} {o : Oper} {r : Res} (hev : ∀ x ∈ o.op.operands, JX ρ (ev x) (ev' x)) (hsel : ∀ cs b, o.op ≠ .select cs b) (hf : QT P ev o m = some r) :
  JgG P B w0 ρ w ((execOp ev' o).run P w) r:=by
 unfold QT at hf;split at hf
 ·rename_i hfl;split at hf
  ·rename_i v hp;split at hf
   ·rename_i hv;cases hf;have e:execOp ev' o=execOp ev o:=by
     refine execOp_congr o hsel fun x hx => ?_
     unfold XW at hfl;rw [Array.all_eq_true'] at hfl;exact JkW 4 (hfl x hx) (hev x hx)
    rw [e];exact ⟨v,w,ρ,Je8 _ _ hp w,Ren.le_refl _,h,JaZ ρ 5 v hv⟩
   ·cases hf
  ·cases hf
 ·cases hf
theorem JV.map_args {ρ:Ren} {ev ev':Operand→Value} (l:Array Operand) (h : ∀x∈l,JX ρ (ev x) (ev' x)):JV ρ (l.map ev) (l.map ev'):=by
 refine ⟨by simp,fun i x y hx hy => ?_⟩;rw [Array.getElem?_map] at hx hy;cases hl:l[i]? with
 | none=>rw [hl] at hx;cases hx
 | some z=>rw [hl] at hx hy;cases hx;cases hy;exact h z (J2 hl)
theorem JfQ.map_parts {ρ:Ren} {ev ev':Operand→Value} : ∀(l:List (Nat × Operand)),(∀x∈l,JX ρ (ev x.2) (ev' x.2))→JfQ ρ (l.map fun (i,x)=>(i,ev x)) (l.map fun (i,x)=>(i,ev' x))
 | [],_=>trivial
 | (i,x)::l,h=>⟨⟨rfl,h (i,x) (by simp)⟩,JfQ.map_parts l fun y hy=>h y (by simp [hy])⟩
theorem JX.func_inv {fn:Fn} {a c:Array Value} {x':Value} (h:JX ρ (.func fn a c) x') : ∃a' c',x' = .func fn a' c'∧JV ρ a a'∧JV ρ c c':=by
 generalize hx:Value.func fn a c=x at h;cases h <;> simp at hx
 rename_i h1 h2 h3 h4 h5;obtain ⟨rfl,rfl,rfl⟩:=hx;exact ⟨_,_,rfl,⟨‹_›, ‹_›⟩,⟨‹_›, ‹_›⟩⟩
theorem Jhe {α:Type} {l:Array α} {f:α→Value} {a b:α} (h:l.size=2) (h0:l[0]? = some a) (h1:l[1]? = some b):l.map f = #[f a,f b]:=by
 have e:l = #[a,b]:=by
  refine Array.ext (by simp [h]) fun i h2 h3 => ?_
  rcases i with _ | _ | i
  ·have:=(Jv.1 h0).2;simpa using this
  ·have:=(Jv.1 h1).2;simpa using this
  ·simp at h3;omega
 rw [e];simp
theorem Jgr {t e : TypeId} {name : String} {f : FuncId} {ptr : Bool} (h : Jnq P t name = some (f, ptr, e)) :
  ∃ ti me fn, P.info? t = some ti ∧ ti.methods.find? (·.name == name) = some me ∧ me.path.isEmpty = true ∧ me.func = some (f, ptr) ∧ P.underlying t = some (.pointer e) ∧ P.funcs[f]? = some fn ∧ fn.body.isSome = true ∧ ¬ (fn.name = "runtime.NumGoroutine") := by
 unfold Jnq at h;split at h
 ·rename_i ti hti;split at h
  ·rename_i me hme;split at h
   ·rename_i f' ptr' e' hp hf hu;split at h
    ·rename_i fn hfn;split at h
     ·rename_i hc;cases h;simp only [Jh,Bool.not_eq_true'] at hc;exact ⟨ti,me,fn,hti,hme,hp,hf,hu,hfn,hc.1,by simpa using hc.2⟩
     ·cases h
    ·cases h
   ·cases h
  ·cases h
 ·cases h
theorem Jpr : ∃n,P.types.size+Made.depth=n+1:=⟨P.types.size+99,rfl⟩
theorem JqO (xt : TypeId) (a : Addr) (n : String) : Builtin.ssaWrapNilChk_ #[xt] xt #[.pointer (some a), strVal "", strVal n] = pure (.pointer (some a)) := rfl
theorem Jnd {t e:TypeId} {name:String} {f:FuncId} {ptr:Bool} {a:Addr} {w:World} (h:Jnq P t name=some (f,ptr,e)) {x:Value} (hx:if ptr then x = .pointer (some a) else (Instr.loadAt e (.pointer (some a))).run P w = .ok x w) :
  (Go.method (P.types.size+Made.depth) t (.pointer (some a)) name).run P w = .ok (f,x) w:=by
 obtain ⟨ti,me,fn,h1,h2,h3,h4,h5,h6,h7,h8⟩:=Jgr h;obtain ⟨n,hn⟩:=Jpr (P:=P);rw [hn];have hpath:me.path = #[]:=by simpa using h3
 unfold Go.method;simp only [Sem.run_bind,XE h1,Result.andThen_ok,h2,hpath];cases ptr with
 | true=>
  simp only [if_true] at hx;subst hx;simp [Go.follow,h4,Go.receiverAt,run_underlying h5,Go.Place.get]
 | false=>
  simp only [Bool.false_eq_true,if_false] at hx;have hx2:(loadVar e a).run P w = .ok x w:=by
   have:=hx
   simpa [Instr.loadAt,Instr.sureAddr] using this
  simp [Go.follow,h4,Go.receiverAt,run_underlying h5,Go.Place.get,JqO,asAddr,hx2]
theorem Ji2 (h : Inv P B w0 ρ m w) {ev ev' : Operand → Value} {o : Oper} {c : Call} {r : Res} {recv : Operand} {name : String} (ho : o.op = .call c) (hcal : c.callee = .invoke recv name) (hev : ∀ x ∈ o.op.operands, JX ρ (ev x) (ev' x)) (hc : JbC P name (ev recv) (c.args.map ev) m = some r) :
  JgG P B w0 ρ w ((execOp ev' o).run P w) r:=by
 have hargs:JV ρ (c.args.map ev) (c.args.map ev'):=JV.map_args _ fun x hx=>hev x (by rw [ho];simp [Op.operands,Call.operands,hx])
 have hr:JX ρ (ev recv) (ev' recv):=hev recv (by rw [ho];simp [Op.operands,Call.operands,hcal])
 unfold JbC at hc;split at hc
 ·rename_i t a hre;rw [hre] at hr;obtain ⟨v',hre0,hptr⟩ : ∃v',ev' recv = .iface t v'∧JX ρ (.pointer (some a)) v':=by
   generalize ev' recv=q at hr;cases hr with
   | iface _ hp=>exact ⟨_,rfl,hp⟩
  obtain ⟨a',rfl⟩ : ∃a',v' = .pointer (some a'):=by cases hptr;exact ⟨_,rfl⟩
  have hre':ev' recv = .iface t (.pointer (some a')):=hre0
  have fin : ∀{f:FuncId} {ptr:Bool} {e:TypeId} {x x':Value},Jnq P t name=some (f,ptr,e)→JX ρ x x'→(if ptr then x' = .pointer (some a') else (Instr.loadAt e (.pointer (some a'))).run P w = .ok x' w)→JgG P B w0 ρ w ((execOp ev' o).run P w) (.call f (#[x]++c.args.map ev) m):=by
   intro f ptr e x x' him hx hrun;obtain ⟨ti,me,fn,h1,h2,h3,h4,h5,h6,h7,h8⟩:=Jgr him;have hm:=Jnd him hrun;refine ⟨#[x']++c.args.map ev', ?_,h,(JV.one hx).append hargs⟩;have hnb : ¬(fn.body=none):=by intro q;rw [q] at h7;cases h7
   have g0 : ∀(V:Value) (l:Array Value),(#[V]++l)[0]? = some V:=fun V l=>by rw [Array.getElem?_append_left (by simp)];rfl
   have g1 : ∀(V:Value) (l:Array Value),(#[V]++l).extract 1 (#[V]++l).size=l:=fun V l=>by
    apply Array.ext'
    rw [Array.toList_extract];simp only [Array.toList_append,Array.size_append,List.size_toArray,Ju,JD,List.extract_eq_take_drop,List.drop_succ_cons,List.drop_zero,List.cons_append,List.nil_append];simp [←Array.length_toList]
   simp only [execOp,ho,resolve,hcal,hre'];simp only [Sem.run_bind,Sem.run_pure,Result.andThen_ok,invoke,g0,g1,callMethod,run_program,hm];simp [callFunc,h6,h8,hnb]
  split at hc
  ·rename_i f e him;cases hc;exact fin him hptr (by simp)
  ·rename_i f e him;simp only [Ja] at hc;obtain ⟨x,hx,rfl⟩:=hc;obtain ⟨x',h1,h2⟩:=JdS h hptr hx;exact fin him h2 (by simpa using h1)
  ·cases hc
 ·cases hc
theorem JnK (h : Inv P B w0 ρ m w) {ev ev' : Operand → Value} {o : Oper} {c : Call} {r : Res} (ho : o.op = .call c) (hev : ∀ x ∈ o.op.operands, JX ρ (ev x) (ev' x)) (hc : JaT P ev o c m = some r) :
  JgG P B w0 ρ w ((execOp ev' o).run P w) r:=by
 have hsel : ∀cs b,o.op ≠ .select cs b:=by rw [ho];intro cs b;simp
 have hargs:JV ρ (c.args.map ev) (c.args.map ev'):=JV.map_args _ fun x hx=>hev x (by rw [ho];simp [Op.operands,Call.operands,hx])
 unfold JaT at hc;split at hc
 ·rename_i f hcal;have hf : JX ρ (ev f) (ev' f) := hev f (by rw [ho];simp [Op.operands, Call.operands, hcal])
  split at hc
  ·rename_i k first captured hfe
   rw [hfe] at hf;obtain ⟨a',c',hfe',hva,hvc⟩:=hf.func_inv;split at hc
   ·rename_i fn hfn;split at hc
    ·rename_i hb;cases hc;simp only [Jh,Bool.not_eq_true'] at hb;refine ⟨a'++c.args.map ev'++c', ?_,h,(hva.append hargs).append hvc⟩;have hnb:fn.body.isNone=false:=by cases hq:fn.body <;> simp_all
     have hnm : ¬ (fn.name = "runtime.NumGoroutine") := by simpa using hb.2
     have hbn : ¬(fn.body=none):=by intro q;rw [q] at hnb;cases hnb
     simp [execOp,ho,resolve,hcal,hfe',Deferred.ofValue,invoke,callFunc,hfn,hnm,hbn]
    ·split at hc
     ·rename_i hcl;obtain ⟨v,m1,rfl⟩:=JpJ hc;obtain ⟨c1,c2,c3,c4⟩:=JnH hcl;obtain ⟨v',w',ρ',k1,k2,k3,k4⟩:=Jk7 h ((hva.append hargs).append hvc) hc;refine ⟨v',w',ρ', ?_,k2,k3,k4⟩;rw [Array.append_assoc] at k1;simp [execOp,ho,resolve,hcal,hfe',Deferred.ofValue,invoke,callFunc,hfn,c1,c2,c3,c4,k1]
     ·exact Xp h hev hsel hc
   ·cases hc
  ·cases hc
 ·rename_i hcal;split at hc
  ·rename_i b n cap e ha hu;cases hc;simp only [Ja] at ha;obtain ⟨x,hx,hxe⟩:=ha;have hv:JX ρ (ev x) (ev' x):=hev x (by rw [ho];simp [Op.operands,Call.operands,J2 hx])
   rw [hxe] at hv;have hlen:=Jdq (P:=P) (w:=w) hv rfl;obtain ⟨t,ht,hte⟩ : ∃t,c.argTypes[0]? = some t∧P.underlying t=some (.slice e):=by
    cases hq:c.argTypes[0]? with
    | none=>rw [hq] at hu;cases hu
    | some t=>rw [hq] at hu;exact ⟨t,rfl,hu⟩
   have hx':(c.args.map ev')[0]? = some (ev' x):=by simp [hx]
   obtain ⟨a',cap',he⟩ : ∃a' cap',ev' x = .slice a' n cap':=by
    generalize ev' x=q at hv;cases hv <;> exact ⟨_,_,rfl⟩
   refine ⟨goInt n,w,ρ, ?_,Ren.le_refl _,h,.int _ _⟩;simp [execOp,ho,resolve,hcal,invoke,builtin,Builtin.len_,ht,hx,he,run_underlying hte]
  ·exact Xp h hev hsel hc
 ·rename_i hcal;split at hc
  ·rename_i s x t hs0 hx0 ht;split at hc
   ·rename_i hsz;simp only [Ja] at hc hs0 hx0;obtain ⟨⟨v,m1⟩,happ,rfl⟩:=hc;obtain ⟨xs,hxs,rfl⟩:=hs0;obtain ⟨xx,hxx,rfl⟩:=hx0;have hs:=hev xs (by rw [ho];simp [Op.operands,Call.operands,J2 hxs])
    have hx:=hev xx (by rw [ho];simp [Op.operands,Call.operands,J2 hxx])
    have hae:c.args.map ev' = #[ev' xs,ev' xx]:=Jhe hsz hxs hxx;obtain ⟨v',w',ρ',h1,h2,h3,h4⟩:=Jjm (ty:=o.type) h ht hs hx happ;refine ⟨v',w',ρ', ?_,h2,h3,h4⟩;simp [execOp,ho,resolve,hcal,invoke,hae,builtin,h1]
   ·cases hc
  ·cases hc
 ·rename_i hcal;split at hc
  ·rename_i s x t hs0 hx0 ht;split at hc
   ·rename_i hsz;simp only [Ja] at hc hs0 hx0;obtain ⟨⟨v,m1⟩,happ,rfl⟩:=hc;obtain ⟨xs,hxs,rfl⟩:=hs0;obtain ⟨xx,hxx,rfl⟩:=hx0;have hs:=hev xs (by rw [ho];simp [Op.operands,Call.operands,J2 hxs])
    have hx:=hev xx (by rw [ho];simp [Op.operands,Call.operands,J2 hxx])
    have hae:c.args.map ev' = #[ev' xs,ev' xx]:=Jhe hsz hxs hxx;obtain ⟨v',w',h1,h3,h4⟩:=JnF (ty:=o.type) h ht hs hx happ;refine ⟨v',w',ρ, ?_,Ren.le_refl _,h3,h4⟩;simp [execOp,ho,resolve,hcal,invoke,hae,builtin,h1]
   ·cases hc
  ·cases hc
 ·rename_i hcal;split at hc
  ·rename_i x k t hs0 hx0 ht;split at hc
   ·rename_i hsz;simp only [Ja] at hc hs0 hx0;obtain ⟨m1,hdel,rfl⟩:=hc;obtain ⟨xs,hxs,rfl⟩:=hs0;obtain ⟨xx,hxx,rfl⟩:=hx0;have hs:=hev xs (by rw [ho];simp [Op.operands,Call.operands,J2 hxs])
    have hx:=hev xx (by rw [ho];simp [Op.operands,Call.operands,J2 hxx])
    have hae:c.args.map ev' = #[ev' xs,ev' xx]:=Jhe hsz hxs hxx;obtain ⟨w',h1,h3⟩:=Jje (ty:=o.type) h ht hs hx hdel;refine ⟨.tuple #[],w',ρ, ?_,Ren.le_refl _,h3,.tuple rfl (fun i x y hx=>by simp at hx)⟩;simp [execOp,ho,resolve,hcal,invoke,hae,builtin,h1]
   ·cases hc
  ·cases hc
 ·cases hc
 ·cases hc
 ·exact Xp h hev hsel hc
 ·rename_i hcal;exact Ji2 h ho hcal hev hc
end Go.IM
namespace Go.IM
open Go Go.RowKit
variable {P:Program} {B:Nat} {w0:World} {ρ:Ren} {m m':M} {w:World}
theorem JeF {ev ev':Operand→Value} {l:Option Operand} (h : ∀x,l=some x→JX ρ (ev x) (ev' x)):(∀v v',l.map ev=some v→l.map ev'=some v'→JX ρ v v')∧(l.map ev).isSome=(l.map ev').isSome:=by
 cases l with
 | none=>exact ⟨fun v v' h1=>by simp at h1,rfl⟩
 | some x=>exact ⟨fun v v' h1 h2=>by simp at h1 h2;subst h1;subst h2;exact h x rfl,rfl⟩
theorem JfB {op:BinOp} {xo yo:Operand} {t:TypeId} {x y x' y':Value} {b:Bool} (hx:JX ρ x x') (hy:JX ρ y y') (h:XP P t x y=some b):eqGuard op t xo yo x' y'=pure ():=by
 unfold XP at h;split at h <;> cases h <;> cases hx <;> (try cases hy) <;> cases op <;> rfl
theorem Jej {op:BinOp} (hop:op = .eql∨op = .neq) {t:TypeId} {x y x' y':Value} {b:Bool} (hx:JX ρ x x') (hy:JX ρ y y') (h:XP P t x y=some b) (w:World) :
  (binOp op t x' y').run P w = .ok (.bool (if op = .eql then b else !b)) w:=by
 have hr:=JkZ (w:=w) hx hy h;have hb:binOp op t x' y'=if op = .eql then (do pure (.bool (←Op.equal t x' y'))) else (do pure (.bool (!(←Op.equal t x' y')))):=by
  unfold XP at h;rcases hop with rfl | rfl <;> split at h <;> cases h <;> cases hx <;> (try cases hy) <;> rfl
 rw [hb];rcases hop with rfl | rfl <;> simp [hr]
theorem Jne (h : Inv P B w0 ρ m w) {i o : Nat} {b : Blk} {c : Array Value} {e : TypeId} {fr : Nat × Nat} {r : RE} (ha : m.alive i = some b) (hobj : b.obj = .cells c e fr) (hro : b.ro = false) (hr : ρ i = some r) :
  ∃w',(markStringish ⟨r.g,o,none⟩).run P w = .ok () w'∧Inv P B w0 ρ m w':=by
 have hh:=h.holds i b r ha hr;unfold Qx at hh;rw [hobj] at hh;obtain ⟨_,_,c',e',fr',h3,_,_,_,h7⟩:=hh;obtain ⟨k1,k2,k3,k4⟩:=h7 hro;have hlt:r.g<w.heap.size:=(Jv.1 h3).1;have hrun:(markStringish ⟨r.g,o,none⟩).run P w = .ok () (w.freeze ⟨r.g,c'.size,none⟩ 1):=by
  have:w.shape? r.g=some (e',c'.size):=by simp [World.shape?, h3]
  simp [markStringish,this]
 have hoth : ∀k,k≠r.g→(w.freeze ⟨r.g,c'.size,none⟩ 1).heap[k]? = w.heap[k]? := by
  intro k hk;simp [World.freeze,Array.getElem?_modify,Ne.symm hk]
 have hself : ∃fr2:Nat × Nat,(w.freeze ⟨r.g,c'.size,none⟩ 1).heap[r.g]? = some (.cells c' e' fr2)∧c'.size≤fr2.1:=by
  obtain ⟨lo,hi⟩:=fr';refine ⟨if lo == hi then (c'.size,c'.size+1) else (min lo c'.size,max hi (c'.size+1)), ?_, ?_⟩
  ·simp [World.freeze,Array.getElem?_modify,h3]
  ·rcases k4 with k4 | k4
   ·cases k4;simp
   ·dsimp only at k4;split
    ·exact Je _
    ·dsimp only;omega
 obtain ⟨fr2,hs1,hs2⟩:=hself;refine ⟨_,hrun,⟨h.below.trans ⟨rfl,rfl,rfl,by simp [World.freeze],fun k hk=>hoth k (by omega)⟩,h.size,h.dom,h.blk, ?_,h.roots,h.tip,h.sep,h.top,h.rosup⟩⟩;intro j bj rj hj hrj;have hh:=h.holds j bj rj hj hrj;by_cases hg:rj.g=r.g
 ·unfold Qx at hh ⊢;rw [hg] at hh ⊢;rw [h3] at hh;rw [hs1];split at hh
  ·obtain ⟨p1,p2,cj,ej,frj,p3,p4,p5,p6,p7⟩:=hh;cases p3;exact ⟨p1,p2,c',e',fr2,rfl,p4,p5,p6,fun q=>let ⟨s1,s2,s3,s4⟩:=p7 q;⟨s1,s2,s3,.inr hs2⟩⟩
  ·obtain ⟨_,_,es',p,_⟩:=hh;cases p
  ·obtain ⟨_,_,_,p⟩:=hh;cases p
  ·obtain ⟨_,_,_,p⟩:=hh;cases p
  ·obtain ⟨_,_,_,_,_,p⟩:=hh;cases p
  ·exact hh.elim
 ·exact hh.of_block (hoth _ hg)
theorem Jh0 (h : Inv P B w0 ρ m w) {ev ev' : Operand → Value} {o : Oper} {src dst : TypeId} {x : Operand} {r : Res} (ho : o.op = .convert src dst x) (hev : ∀ x ∈ o.op.operands, JX ρ (ev x) (ev' x))
  (hc:Q9 P ev o src dst (ev x) m=some r):JgG P B w0 ρ w ((execOp ev' o).run P w) r:=by
 have hsel : ∀cs b,o.op ≠ .select cs b:=by rw [ho];intro cs b;simp
 have hx:JX ρ (ev x) (ev' x):=hev x (by rw [ho];simp [Op.operands])
 unfold Q9 at hc;split at hc
 ·rename_i e s hs hd hxe;split at hc
  ·rename_i he;split at hc
   ·rename_i he1;simp only [Ja] at hc;obtain ⟨⟨v,m1⟩,hb,rfl⟩:=hc;rw [hxe] at hx;obtain ⟨v',w',ρ',h1,h2,h3,h4⟩:=Jev h hs hd he he1 hb;refine ⟨v',w',ρ', ?_,h2,h3,h4⟩;have:ev' x = .string s:=by generalize ev' x=q at hx;cases hx;rfl
    simp [execOp,ho,this,h1]
   ·cases hc
  ·cases hc
 ·rename_i e hs hd;split at hc
  ·rename_i he;simp only [Ja] at hc;obtain ⟨v,hb,rfl⟩:=hc;obtain ⟨v',h1,h2⟩:=Jf0 h hx hb;refine ⟨v',w,ρ, ?_,Ren.le_refl _,h,h2⟩;have hconv:(convert src dst (ev' x)).run P w=(Conv.bytesToString (ev' x)).run P w:=by
    have : ∃a l c,ev' x = .slice a l c:=by
     unfold QO at hb;split at hb
     ·rename_i hq;rw [hq] at hx;generalize ev' x=q at hx;cases hx;exact ⟨_,_,_,rfl⟩
     ·rename_i hq;rw [hq] at hx;generalize ev' x=q at hx;cases hx <;> exact ⟨_,_,_,rfl⟩
     ·cases hb
    obtain ⟨a,l,c,hq⟩:=this;rw [hq];exact run_convert_bytes_string w src dst e a l c hs he hd
   simp [execOp,ho,hconv,h1]
  ·cases hc
 ·rename_i e0 e a n c hs hd hxe;split at hc
  ·rename_i b hsd he hal;split at hc
   ·rename_i cc ce cfr hobj;split at hc
    ·cases hc
    ·rename_i hcond;cases hc;obtain ⟨hro,hc0,hsp⟩:b.ro=false∧c≠0∧a.spot=none:=by
      refine ⟨?_,fun e=>hcond (.inr (.inl e)), ?_⟩
      ·cases q:b.ro with
       | false=>rfl
       | true=>exact absurd (.inl q) hcond
      ·cases q:a.spot with
       | none=>rfl
       | some=>exact absurd (.inr (.inr (by rw [q];rfl))) hcond
     obtain ⟨i,o,sp⟩:=a;dsimp only at hsp hal;subst hsp;rw [hxe] at hx;have hsd:src=dst:=by simpa using hsd
     subst hsd;rcases hx.slice_inv with ⟨r,c',hxe',hr,hl,hb,hcc,_⟩|⟨_,hz,_⟩
     ·obtain ⟨w',hrun,hinv⟩:=Jne (o:=r.base+o) h hal hobj hro hr;refine ⟨.slice (some ⟨r.g,r.base+o,none⟩) n c',w',ρ, ?_,Ren.le_refl _,hinv,.slice hr hl hb hcc⟩;have hconv:(convert src src (.slice (some ⟨r.g,r.base+o,none⟩) n c')).run P w = .ok (.slice (some ⟨r.g,r.base+o,none⟩) n c') w':=by
       rw [hs] at hd;cases hd;simp [convert,run_underlying hs,run_underlying he,hrun]
      simp [execOp,ho,hxe',hconv]
     ·exact absurd hz hc0
   ·cases hc
  ·cases hc
 ·exact Xp h hev hsel hc
theorem JX.tuple_inv {a:Array Value} {x':Value} (h:JX ρ (.tuple a) x') : ∃a',x' = .tuple a'∧JV ρ a a':=by
 generalize hx:Value.tuple a=x at h;cases h <;> simp at hx
 obtain rfl:=hx
 exact ⟨_,rfl,⟨‹_›, ‹_›⟩⟩
theorem Ji1 (h : Inv P B w0 ρ m w) {ev ev' : Operand → Value} {o : Oper} {r : Res} (hev : ∀ x ∈ o.op.operands, JX ρ (ev x) (ev' x)) (hi : iop P ev o m = some r) :
  JgG P B w0 ρ w ((execOp ev' o).run P w) r:=by
 unfold iop at hi;split at hi
 ·rename_i x ho;cases hi;exact ⟨ev' x,w,ρ,by simp [execOp,ho],Ren.le_refl _,h,hev x (by rw [ho];simp [Op.operands])⟩
 ·rename_i x ho;cases hi;exact ⟨ev' x,w,ρ,by simp [execOp,ho],Ren.le_refl _,h,hev x (by rw [ho];simp [Op.operands])⟩
 ·rename_i c a b ho;have hc:=hev c (by rw [ho];simp [Op.operands])
  have ha:=hev a (by rw [ho];simp [Op.operands])
  have hb:=hev b (by rw [ho];simp [Op.operands])
  split at hi
  ·rename_i t hct;cases hi;rw [hct] at hc;have hct':ev' c = .bool t:=by generalize ev' c=q at hc;cases hc;rfl
   refine ⟨if t then ev' a else ev' b,w,ρ,by simp [execOp,ho,hct',asBool],Ren.le_refl _,h, ?_⟩;cases t <;> assumption
  ·cases hi
 ·rename_i t ho;split at hi
  ·rename_i z hz;simp only [Ja] at hi;obtain ⟨⟨a,m1⟩,hn,rfl⟩:=hi;obtain ⟨v',w',ρ',h1,h2,h3,h4⟩:=Jlh h hz hn;exact ⟨v',w',ρ',by simp [execOp,ho,h1],h2,h3,h4⟩
  ·cases hi
 ·rename_i t x ho;simp only [Ja] at hi;obtain ⟨⟨a,m1⟩,hn,rfl⟩:=hi;obtain ⟨v',w',ρ',h1,h2,h3,h4⟩:=JpX (t:=t) h (hev x (by rw [ho];simp [Op.operands])) hn
  exact ⟨v',w',ρ',by simp [execOp,ho,h1],h2,h3,h4⟩
 ·rename_i t parts ho;simp only [Jp] at hi;obtain ⟨v,hb,hi⟩:=hi;split at hi
  ·rename_i z hz;cases hi;have hp:JfQ ρ (parts.map fun (i,x)=>(i,ev x)).toList (parts.map fun (i,x)=>(i,ev' x)).toList:=by
    simp only [Array.toList_map];exact JfQ.map_parts _ fun x hx=>hev x.2 (by rw [ho];simp only [Op.operands];simp;exact ⟨x.1,by simpa using hx⟩)
   obtain ⟨v',h1,h2⟩:=Jle (w:=w) hp hz hb;exact ⟨v',w,ρ,by simp only [execOp,ho,Sem.run_bind,h1];rfl,Ren.le_refl _,h,h2⟩
  ·cases hi
 ·rename_i t len parts ho;simp only [Ja] at hi;obtain ⟨⟨v,m1⟩,hb,rfl⟩:=hi;have hp:JfQ ρ (parts.map fun (i,x)=>(i,ev x)).toList (parts.map fun (i,x)=>(i,ev' x)).toList:=by
   simp only [Array.toList_map];exact JfQ.map_parts _ fun x hx=>hev x.2 (by rw [ho];simp only [Op.operands];simp;exact ⟨x.1,by simpa using hx⟩)
  obtain ⟨v',w',ρ',h1,h2,h3,h4⟩:=Jew h hp hb;exact ⟨v',w',ρ',by simp only [execOp,ho,Sem.run_bind,h1];rfl,h2,h3,h4⟩
 ·rename_i t a ho;simp only [Ja] at hi;obtain ⟨v,hl,rfl⟩:=hi;obtain ⟨v',h1,h2⟩:=JdS h (hev a (by rw [ho];simp [Op.operands])) hl
  exact ⟨v',w,ρ,by simp [execOp,ho,h1],Ren.le_refl _,h,h2⟩
 ·rename_i t a x ho;simp only [Ja] at hi;obtain ⟨m1,hl,rfl⟩:=hi;obtain ⟨w',h1,h2⟩:=store_sound h (hev a (by rw [ho];simp [Op.operands])) (hev x (by rw [ho];simp [Op.operands])) hl
  exact ⟨w',ρ,by simp [execOp,ho,h1],Ren.le_refl _,h2⟩
 ·rename_i x ho;have hx := hev x (by rw [ho];simp [Op.operands])
  split at hi
  ·cases hi
  ·cases hi
  ·cases hi
  ·cases hi
  ·rename_i n1 n2 n3 n4;cases hi;refine ⟨ev' x, w, ρ, ?_, Ren.le_refl _, h, hx⟩;have key : ∀ v v', JX ρ v v' → v ≠ .pointer none → v ≠ .nilIface → v ≠ .nilFunc → (∀ n a c, v ≠ .func (.method n) a c) →
     ((match v' with
      | .pointer none | .nilIface | .nilFunc=>runtimePanic .nilDeref
      | .func (.method name) first captured=>
       match (first[0]? : Option Value) with
       | some .nilIface=>runtimePanic .nilDeref
       | some (.iface t w)=>do
        if (←nilAhead ((←program).types.size+Made.depth) t w name) != some false then
         unsupported (.noEntry "op/nilCheck.the method's receiver behind this interface value is a nil pointer, or cannot be seen to be none, and the arguments act or may panic (ledger 612)")
        pure (.value (.func (.method name) first captured))
       | _=>pure (.value (.func (.method name) first captured))
      | x=>pure (.value x):Sem Next)).run P w = .ok (.value v') w:=by
    intro v v' hv m1 m2 m3 m4;cases hv <;> first | rfl | exact absurd rfl m1 | exact absurd rfl m2 | exact absurd rfl m3 | skip
    rename_i fn _ _ _ _ _ _ _ _ _;cases fn <;> first | rfl | exact absurd rfl (m4 _ _ _)
   have:=key (ev x) (ev' x) hx (by simpa using n1) (by simpa using n2) (by simpa using n3) (fun n a c=>n4 n a c)
   simp only [execOp,ho];exact this
 ·rename_i t x y yt ho;have hx:=hev x (by rw [ho];simp [Op.operands])
  have hy:=hev y (by rw [ho];simp [Op.operands])
  split at hi
  ·rename_i b hb;cases hi;have hr:=Jej (.inl rfl) hx hy hb w;have hg:=JfB (op := .eql) (xo:=x) (yo:=y) hx hy hb;exact ⟨.bool b,w,ρ,by simp [execOp,ho,hg,hr],Ren.le_refl _,h,.bool _⟩
  ·exact Xp h hev (by rw [ho];intro cs b;simp) hi
 ·rename_i t x y yt ho;have hx:=hev x (by rw [ho];simp [Op.operands])
  have hy:=hev y (by rw [ho];simp [Op.operands])
  split at hi
  ·rename_i b hb;cases hi;have hr:=Jej (.inr rfl) hx hy hb w;have hg:=JfB (op := .neq) (xo:=x) (yo:=y) hx hy hb;exact ⟨.bool (!b),w,ρ,by simp [execOp,ho,hg,hr],Ren.le_refl _,h,.bool _⟩
  ·exact Xp h hev (by rw [ho];intro cs b;simp) hi
 ·rename_i src dst x ho;exact Jh0 h ho hev hi
 ·rename_i t x ho;split at hi
  ·cases hi
  ·cases hi
  ·rename_i d hni hd;cases hi;refine ⟨.iface t (ev' x),w,ρ, ?_,Ren.le_refl _,h,.iface t (hev x (by rw [ho];simp [Op.operands]))⟩
   have:(Instr.makeInterface t (ev' x)).run P w = .ok (.iface t (ev' x)) w:=by
    simp only [Instr.makeInterface,Sem.run_bind,run_underlying hd,Result.andThen_ok];cases d <;> first | rfl | exact absurd hd (by simpa using hni _)
   simp [execOp,ho,this]
 ·rename_i fn first captured ho
  split at hi
  ·rename_i hst;cases hi;have h1:JV ρ (first.map ev) (first.map ev'):=JV.map_args _ fun x hx=>hev x (by rw [ho];simp [Op.operands,hx])
   have h2:JV ρ (captured.map ev) (captured.map ev'):=JV.map_args _ fun x hx=>hev x (by rw [ho];simp [Op.operands,hx])
   exact ⟨.func fn (first.map ev') (captured.map ev'),w,ρ,by simp [execOp,ho,Instr.makeFunc],Ren.le_refl _,h,.func fn hst h1.1 h2.1 h1.2 h2.2⟩
  ·cases hi
 ·rename_i t l c ho;simp only [Ja] at hi;obtain ⟨⟨v,m1⟩,hb,rfl⟩:=hi;obtain ⟨v',w',ρ',h1,h2,h3,h4⟩:=Jfh h (hev l (by rw [ho];simp [Op.operands])) (hev c (by rw [ho];simp [Op.operands])) hb
  exact ⟨v',w',ρ',by simp [execOp,ho,h1],h2,h3,h4⟩
 ·rename_i t x lo hi' mx ho;split at hi
  ·rename_i v hs;cases hi;obtain ⟨a1,a2⟩:=JeF (ρ:=ρ) (ev:=ev) (ev':=ev') (l:=lo) fun y hy=>hev y (by rw [ho];simp [Op.operands,hy])
   obtain ⟨b1,b2⟩:=JeF (ρ:=ρ) (ev:=ev) (ev':=ev') (l:=hi') fun y hy=>hev y (by rw [ho];simp [Op.operands,hy])
   obtain ⟨c1,c2⟩:=JeF (ρ:=ρ) (ev:=ev) (ev':=ev') (l:=mx) fun y hy=>hev y (by rw [ho];simp [Op.operands,hy])
   obtain ⟨v',h1,h2⟩:=Jkl h (hev x (by rw [ho];simp [Op.operands])) a1 a2 b1 b2 c1 c2 hs
   exact ⟨v',w,ρ,by simp [execOp,ho,h1],Ren.le_refl _,h,h2⟩
  ·exact Xp h hev (by rw [ho];intro cs b;simp) hi
 ·rename_i s x f ho;simp only [Ja] at hi;obtain ⟨v,hl,rfl⟩:=hi;obtain ⟨v',h1,h2⟩:=JfA (w:=w) (hev x (by rw [ho];simp [Op.operands])) hl
  exact ⟨v',w,ρ,by simp [execOp,ho,h1],Ren.le_refl _,h,h2⟩
 ·rename_i s x f ho;simp only [Ja] at hi;obtain ⟨v,hl,rfl⟩:=hi;obtain ⟨v',h1,h2⟩:=JkY (w:=w) (hev x (by rw [ho];simp [Op.operands])) hl
  exact ⟨v',w,ρ,by simp [execOp,ho,h1],Ren.le_refl _,h,h2⟩
 ·rename_i t x ix ho;simp only [Ja] at hi;obtain ⟨v,hl,rfl⟩:=hi;obtain ⟨v',h1,h2⟩:=Jfr (w:=w) (hev x (by rw [ho];simp [Op.operands])) (hev ix (by rw [ho];simp [Op.operands])) hl
  exact ⟨v',w,ρ,by simp [execOp,ho,h1],Ren.le_refl _,h,h2⟩
 ·rename_i t x ix ho;simp only [Ja] at hi;obtain ⟨v,hl,rfl⟩:=hi;obtain ⟨v',h1,h2⟩:=JkP (w:=w) (hev x (by rw [ho];simp [Op.operands])) (hev ix (by rw [ho];simp [Op.operands])) hl
  exact ⟨v',w,ρ,by simp [execOp,ho,h1],Ren.le_refl _,h,h2⟩
 ·rename_i x xt t ok ho;have hx := hev x (by rw [ho];simp [Op.operands])
  have ht : ∀v v',JX ρ v v'→JX ρ (if ok=true then .tuple #[v,.bool true] else v) (if ok=true then .tuple #[v',.bool true] else v'):=by
   intro v v' hv;split
   ·exact .tuple (JV.append (JV.one hv) (JV.one (.bool true))).1 (JV.append (JV.one hv) (JV.one (.bool true))).2
   ·exact hv
  have hz : ∀z,QI P t=some z→(zeroValue t).run P w = .ok z w∧JX ρ (.tuple #[z,.bool false]) (.tuple #[z,.bool false]):=by
   intro z hz;obtain ⟨h1,h2,_⟩:=XY hz w;have:=JV.append (JV.one (JaZ ρ 3 z h2)) (JV.one (JX.bool false))
   exact ⟨h1,.tuple this.1 this.2⟩
  split at hi
  ·cases hi
  ·rename_i d u v hni hd hxe;rw [hxe] at hx;obtain ⟨v', hxe', hv⟩ : ∃ v', ev' x = .iface u v' ∧ JX ρ v v' := by
    generalize ev' x=q at hx;cases hx;exact ⟨_,rfl, ‹_›⟩
   split at hi
   ·rename_i hut;cases hi;subst hut;refine ⟨_,w,ρ, ?_,Ren.le_refl _,h,ht v v' hv⟩;have:(Instr.typeAssert (.iface u v') xt u ok).run P w = .ok (if ok=true then .tuple #[v',.bool true] else v') w:=by
     simp only [Instr.typeAssert,Sem.run_bind,run_underlying hd,Result.andThen_ok];cases d <;> first | (simp;done) | exact (hni _ rfl).elim
    simp [execOp,ho,hxe',this]
   ·rename_i hut;split at hi
    ·rename_i hok;simp only [Ja] at hi;obtain ⟨z,hz0,rfl⟩:=hi;obtain ⟨z1,z2⟩:=hz z hz0;refine ⟨_,w,ρ, ?_,Ren.le_refl _,h,z2⟩;have:(Instr.typeAssert (.iface u v') xt t ok).run P w = .ok (.tuple #[z,.bool false]) w:=by
      simp only [Instr.typeAssert,Sem.run_bind,run_underlying hd,Result.andThen_ok];cases d <;> first | (simp [hut,hok,z1];done) | exact (hni _ rfl).elim
     simp [execOp,ho,hxe',this]
    ·cases hi
  ·rename_i d hni hd hxe;rw [hxe] at hx;have hxe':ev' x = .nilIface:=by generalize ev' x=q at hx;cases hx;rfl
   split at hi
   ·rename_i hok;simp only [Ja] at hi;obtain ⟨z,hz0,rfl⟩:=hi;obtain ⟨z1,z2⟩:=hz z hz0;refine ⟨_,w,ρ, ?_,Ren.le_refl _,h,z2⟩;have:(Instr.typeAssert .nilIface xt t ok).run P w = .ok (.tuple #[z,.bool false]) w:=by
     simp only [Instr.typeAssert,Sem.run_bind,run_underlying hd,Result.andThen_ok];cases d <;> first | (simp [hok,z1];done) | exact (hni _ rfl).elim
    simp [execOp,ho,hxe',this]
   ·cases hi
  ·cases hi
 ·rename_i x ix ho;have hx:=hev x (by rw [ho];simp [Op.operands])
  split at hi
  ·rename_i vs hxe;simp only [Ja] at hi;obtain ⟨v,hv,rfl⟩:=hi;rw [hxe] at hx;obtain ⟨vs',hxe',hvs⟩:=hx.tuple_inv;obtain ⟨v',hv',hr⟩:=hvs.get hv;exact ⟨v',w,ρ,by simp [execOp,ho,hxe',Instr.extract,hv'],Ren.le_refl _,h,hr⟩
  ·cases hi
 ·rename_i c ho;exact JnK h ho hev hi
 ·rename_i c ho;unfold Jfw at hi;split at hi
  ·rename_i f hcal;have hf:JX ρ (ev f) (ev' f):=hev f (by rw [ho];simp [Op.operands,Call.operands,hcal])
   split at hi
   ·rename_i k first captured hfe
    cases hi;rw [hfe] at hf;obtain ⟨a',c',hfe',hva,hvc⟩:=hf.func_inv;have hargs:JV ρ (c.args.map ev) (c.args.map ev'):=JV.map_args _ fun x hx=>hev x (by rw [ho];simp [Op.operands,Call.operands,hx])
    exact ⟨{ target := .fn (.func k) c',args:=a'++c.args.map ev' },by simp [execOp,ho,resolve,hcal,hfe',Deferred.ofValue],h,⟨k,captured,c',rfl,rfl,hvc,hva.append hargs⟩⟩
   ·cases hi
  ·cases hi
 ·rename_i x ho;have hx:=hev x (by rw [ho];simp [Op.operands])
  split at hi
  ·rename_i t v hxe;cases hi;rw [hxe] at hx;obtain ⟨v',hxe',hv⟩ : ∃v',ev' x = .iface t v'∧JX ρ v v':=by
    generalize ev' x=q at hx;cases hx;exact ⟨_,rfl, ‹_›⟩
   exact ⟨.iface t v',by simp [execOp,ho,hxe',Instr.panic],h,.iface t hv⟩
  ·cases hi
 ·rename_i ho;exact Xp h hev (by rw [ho];intro cs b;simp) hi
 ·rename_i ho;exact Xp h hev (by rw [ho];intro cs b;simp) hi
 ·rename_i t q ho;simp only [Ja] at hi;obtain ⟨⟨v,m1⟩,hb,rfl⟩:=hi;obtain ⟨a1,a2⟩:=JeF (ρ:=ρ) (ev:=ev) (ev':=ev') (l:=q) fun y hy=>hev y (by rw [ho];simp [Op.operands,hy])
  obtain ⟨v',w',ρ',h1,h2,h3,h4⟩:=Jhz h a1 a2 hb;exact ⟨v',w',ρ',by simp [execOp,ho,h1],h2,h3,h4⟩
 ·rename_i t x k ok ho;simp only [Ja] at hi;obtain ⟨v,hb,rfl⟩:=hi;obtain ⟨v',h1,h2⟩:=JiT h (hev x (by rw [ho];simp [Op.operands])) (hev k (by rw [ho];simp [Op.operands])) hb
  exact ⟨v',w,ρ,by simp [execOp,ho,h1],Ren.le_refl _,h,h2⟩
 ·rename_i t x k v ho;simp only [Ja] at hi;obtain ⟨m1,hb,rfl⟩:=hi;obtain ⟨w',h1,h2⟩:=Jd6 h (hev x (by rw [ho];simp [Op.operands])) (hev k (by rw [ho];simp [Op.operands])) (hev v (by rw [ho];simp [Op.operands])) hb
  exact ⟨w',ρ,by simp [execOp,ho,h1],Ren.le_refl _,h2⟩
 ·rename_i t x k v ho;simp only [Ja] at hi;obtain ⟨m1,hb,rfl⟩:=hi;obtain ⟨w',h1,h2⟩:=Jd6 h (hev x (by rw [ho];simp [Op.operands])) (hev k (by rw [ho];simp [Op.operands])) (hev v (by rw [ho];simp [Op.operands])) hb
  exact ⟨w',ρ,by simp [execOp,ho,h1],Ren.le_refl _,h2⟩
 ·rename_i t x ho;simp only [Ja] at hi;obtain ⟨⟨v,m1⟩,hb,rfl⟩:=hi;obtain ⟨v',w',ρ',h1,h2,h3,h4⟩:=Jkr h (hev x (by rw [ho];simp [Op.operands])) hb
  exact ⟨v',w',ρ',by simp [execOp,ho,h1],h2,h3,h4⟩
 ·rename_i it s ho;simp only [Ja] at hi;obtain ⟨⟨v,m1⟩,hb,rfl⟩:=hi;obtain ⟨v',w',h1,h2,h3⟩:=Jm8 (t:=o.type) h (hev it (by rw [ho];simp [Op.operands])) hb
  exact ⟨v',w',ρ,by simp [execOp,ho,h1],Ren.le_refl _,h2,h3⟩
 ·rename_i it ho;simp only [Ja] at hi;obtain ⟨v,hb,rfl⟩:=hi;obtain ⟨v',h1,h2⟩:=Jk1 h (hev it (by rw [ho];simp [Op.operands])) hb
  exact ⟨v',w,ρ,by simp [execOp,ho,h1],Ren.le_refl _,h,h2⟩
 ·cases hi
end Go.IM
namespace Go.IM
open Go Go.RowKit
def M.look (m:M) (i:Nat):Option (Obj × Bool):=(m.alive i).map fun b=>(b.obj,b.ro)
def Wf (m:M):Prop := ∀i x,m.get i=some x→x.root≤i ∧ ∃rb,m.get x.root=some rb
structure Fr (m m1:M):Prop where
 bar:m1.bar=m.bar
 nxt:m.nxt≤m1.nxt
 dom : ∀i,m1.get i=none→m.get i=none
 wf:Wf m→Wf m1
 look:Wf m→m.bar≤m.nxt → ∀i,i<m.bar→m1.look i=m.look i
theorem Fr.refl (m:M):Fr m m:=⟨rfl,Je _,fun _ h=>h,id,fun _ _ _ _=>rfl⟩
theorem Fr.trans {a b c:M} (h:Fr a b) (k:Fr b c):Fr a c:=
 ⟨k.bar.trans h.bar,Jy h.nxt k.nxt,fun i hi=>h.dom i (k.dom i hi),fun w=>k.wf (h.wf w),fun w hb i hi=>by
  rw [k.look (h.wf w) (by rw [h.bar];exact Jy hb h.nxt) i (by rw [h.bar];exact hi)]
  exact h.look w hb i hi⟩
theorem JeC {m m':M} {i:Nat} (h:m'.look i=m.look i):m'.row i=m.row i:=by
 unfold M.look at h;unfold M.row;cases h1:m'.alive i with
 | none=>
  rw [h1] at h;cases h2:m.alive i with
  | none=>rfl
  | some b=>rw [h2] at h;cases h
 | some b1=>
  rw [h1] at h;cases h2:m.alive i with
  | none=>rw [h2] at h;cases h
  | some b2=>
   rw [h2] at h;simp only [JU,Jg,Jm] at h;dsimp only;rw [h.1]
variable {m m1:M} {k:Nat} {b:Blk}
theorem Xm {i:Nat} {x:Blk} (hk:m.get k=none) (h:m.alive i=some x):(m.set k b).alive i=some x:=by
 obtain ⟨rb,h1,h2⟩:=QB h;refine QQ (rb:=rb) ?_ ?_ h2
 ·have hg:=JO h;rw [M.get_set,Jd (by intro e;rw [←e,hk] at hg;cases hg)];exact hg
 ·rw [M.get_set,Jd (by intro e;rw [←e,hk] at h1;cases h1)];exact h1
theorem Jhl {i:Nat} {p:Array Value × TypeId} (hk:m.get k=none) (h:m.row i=some p):(m.set k b).row i=some p:=by
 obtain ⟨c,e⟩:=p;obtain ⟨x,fr,h1,h2⟩:=JlB h;unfold M.row;rw [Xm hk h1];dsimp only;rw [h2]
theorem Jsd {i o:Nat} {v:Value} (hk:m.get k=none) (h:m.cell i o=some v):(m.set k b).cell i o=some v:=by
 unfold M.cell at h ⊢;split at h
 ·rename_i c e hr;rw [Jhl hk hr];exact h
 ·cases h
theorem Jcj {i o n:Nat} {v:Array Value} (hk:m.get k=none) (h:m.cells i o n=some v):(m.set k b).cells i o n=some v:=by
 unfold M.cells at h ⊢;split at h
 ·rename_i c e hr;rw [Jhl hk hr];exact h
 ·cases h
theorem Jo1 (o:Obj) (hn:m.nxt≠k):(m.set k b).mk1 o=(m.mk1 o).set k b:=by
 unfold M.mk1;rw [M.nxt_set,M.set_comm _ _ _ _ _ hn.symm];rfl
theorem Juy {i:Nat} {x:Blk} (o:Obj) (hi:i≠k) (hn:m.nxt≠k):(m.set k b).gen i x o=(m.gen i x o).set k b:=by
 unfold M.gen;rw [M.nxt_set,M.set_comm m k i _ _ hi.symm,M.set_comm _ k m.nxt _ _ hn.symm];rfl
theorem JoJ {i:Nat} {x:Blk} (o:Obj) (hk:m.get k=none) (hi:i≠k) (hr:x.root≠k) (hb : ∃rb,m.get x.root=some rb):(m.set k b).put i x o=(m.put i x o).set k b:=by
 obtain ⟨rb,hrb⟩:=hb;unfold M.put;split
 ·rw [M.set_comm _ _ _ _ _ hi.symm]
 ·rw [M.get_set,Jd hr.symm,hrb];dsimp only;rw [M.set_comm m k x.root _ _ hr.symm,M.set_comm _ k i _ _ hi.symm]
theorem Jcg {i:Nat} {x:Blk} (hk:m.get k=none) (h:m.get i=some x):i≠k:=by
 intro e;subst e;rw [hk] at h;cases h
theorem JbA {c:Array Value} {e:TypeId} {a:Addr} (hk:m.nxt≠k) (h:m.new c e=some (a,m1)):(m.set k b).new c e=some (a,m1.set k b):=by
 unfold M.new at h ⊢;rw [M.nxt_set,M.get_set,Jd hk.symm];split at h
 ·rename_i hf;cases h;rw [Jo1 _ hk]
 ·cases h
theorem JdR {m m':M} {i:Nat} (hg:m'.get i=m.get i) (hr : ∀x,m.get i=some x → ∃r r',m.get x.root=some r∧m'.get x.root=some r'∧r'.dead=r.dead):m'.look i=m.look i:=by
 unfold M.look M.alive;rw [hg];cases h:m.get i with
 | none=>rfl
 | some x=>
  obtain ⟨r,r',h1,h2,h3⟩:=hr x h;dsimp only;rw [h1,h2];simp [h3]
theorem JsW (o:Obj) (hf:m.get m.nxt=none):Fr m (m.mk1 o):=by
 refine ⟨rfl,by simp [M.mk1],fun i hi => ?_,fun w i x hi => ?_,fun w hb i hi => ?_⟩
 ·rw [Qp] at hi;split at hi
  ·cases hi
  ·exact hi
 ·rw [Qp] at hi;split at hi
  ·rename_i e;cases hi;exact ⟨Nat.le_of_eq e.symm,_,by rw [Qp,Jf rfl]⟩
  ·obtain ⟨hle,rb,h1⟩:=w i x hi;refine ⟨hle, ?_⟩;rw [Qp];split
   ·exact ⟨_,rfl⟩
   ·exact ⟨rb,h1⟩
 ·refine JdR (by rw [Qp,Jd (by omega)]) fun x hx => ?_
  obtain ⟨_,rb,h1⟩:=w i x hx;refine ⟨rb,rb,h1, ?_,rfl⟩;rw [Qp,Jd (by intro e;rw [e,hf] at h1;cases h1)];exact h1
theorem JaP {c:Array Value} {e:TypeId} {a:Addr} (h:m.new c e=some (a,m1)):Fr m m1∧m1=m.mk1 (.cells c e)∧m.get m.nxt=none∧a=⟨m.nxt,0,none⟩:=by
 unfold M.new at h;split at h
 ·rename_i hf;cases h;exact ⟨JsW _ hf,rfl,hf,rfl⟩
 ·cases h
theorem gen_fr {i:Nat} {x:Blk} (o:Obj) (hf:m.get m.nxt=none) (hi:m.alive i=some x) (hle:x.root≤m.nxt):Fr m (m.gen i x o):=by
 have hgi:=JO hi;have hin:i≠m.nxt:=by intro e;rw [e,hf] at hgi;cases hgi
 have hget : ∀j,(m.gen i x o).get j=if j=m.nxt then some { obj:=o,root:=x.root } else if i=j then some { x with sup:=true } else m.get j:=by
  intro j;simp only [M.gen,M.get_bump,M.get_set];by_cases e:j=m.nxt
  ·subst e;simp
  ·rw [Jd e,Jd (Ne.symm e)]
 obtain ⟨rx,hrx,hdx⟩:=QB hi;have hroot : ∀j y,m.get j=some y→(∃rb,m.get y.root=some rb) → ∃r r',m.get y.root=some r∧(m.gen i x o).get y.root=some r'∧r'.dead=r.dead:=by
  rintro j y hy ⟨rb,hrb⟩
  refine ⟨rb,if i=y.root then { x with sup:=true } else rb,hrb, ?_, ?_⟩
  ·rw [hget,Jd (by intro e;rw [e,hf] at hrb;cases hrb)]
   split <;> simp_all
  ·split
   ·rename_i e;rw [←e,hgi] at hrb;cases hrb;rfl
   ·rfl
 refine ⟨rfl,by simp [M.gen],fun j hj => ?_,fun w j y hj => ?_,fun w hb j hj => ?_⟩
 ·rw [hget] at hj;split at hj
  ·cases hj
  ·split at hj
   ·cases hj
   ·exact hj
 ·rw [hget] at hj;split at hj
  ·rename_i e;cases hj;obtain ⟨r,r',_,h2,_⟩:=hroot i x hgi ⟨rx,hrx⟩;exact ⟨by rw [e];exact hle,r',h2⟩
  ·split at hj
   ·rename_i e;cases hj;obtain ⟨r,r',_,h2,_⟩:=hroot i x hgi ⟨rx,hrx⟩;exact ⟨by rw [←e];exact (w i x hgi).1,r',h2⟩
   ·obtain ⟨r,r',_,h2,_⟩:=hroot j y hj (w j y hj).2;exact ⟨(w j y hj).1,r',h2⟩
 ·by_cases e:i=j
  ·subst e;unfold M.look;obtain ⟨r,r',h1,h2,h3⟩:=hroot i x hgi ⟨rx,hrx⟩;rw [hrx] at h1;cases h1;have:(m.gen i x o).alive i=some { x with sup:=true }:=QQ (rb:=r') (by rw [hget,Jd hin,Jf rfl]) h2 (by rw [h3];exact hdx)
   rw [this,hi];rfl
  ·exact JdR (by rw [hget,Jd (by omega),Jd e]) fun y hy=>hroot j y hy (w j y hy).2
theorem JsR {i : Nat} {x : Blk} (o : Obj) (hi : m.alive i = some x) (hb1 : m.bar ≤ i) (hb2 : m.bar ≤ x.root) : Fr m (m.put i x o) := by
 have hgi:=JO hi;obtain ⟨rx,hrx,hdx⟩:=QB hi;unfold M.put;split
 ·rename_i hroot;have hget : ∀j,(m.set i { x with obj:=o }).get j=if i=j then some { x with obj:=o } else m.get j:=fun j=>M.get_set _ _ _ _
  have hr : ∀j y,m.get j=some y→(∃rb,m.get y.root=some rb) → ∃r r',m.get y.root=some r∧(m.set i { x with obj:=o }).get y.root=some r'∧r'.dead=r.dead:=by
   rintro j y hy ⟨rb,hrb⟩
   refine ⟨rb,if i=y.root then { x with obj:=o } else rb,hrb, ?_, ?_⟩
   ·rw [hget];split <;> simp_all
   ·split
    ·rename_i e;rw [←e,hgi] at hrb;cases hrb;rfl
    ·rfl
  refine ⟨rfl,Je _,fun j hj => ?_,fun w j y hj => ?_,fun w hb j hj => ?_⟩
  ·rw [hget] at hj;split at hj
   ·cases hj
   ·exact hj
  ·rw [hget] at hj;split at hj
   ·rename_i e;cases hj;obtain ⟨r,r',_,h2,_⟩:=hr i x hgi ⟨rx,hrx⟩;exact ⟨by rw [←e];exact (w i x hgi).1,r',h2⟩
   ·obtain ⟨r,r',_,h2,_⟩:=hr j y hj (w j y hj).2;exact ⟨(w j y hj).1,r',h2⟩
  ·exact JdR (by rw [hget,Jd (by omega)]) fun y hy=>hr j y hy (w j y hy).2
 ·rename_i hroot;rw [hrx];dsimp only;have hget : ∀ j, ((m.set x.root { rx with dead := true }).set i { x with obj := o, root := i, dead := false }).get j = if i = j then some { x with obj := o, root := i, dead := false } else if x.root = j then some { rx with dead := true } else m.get j := by
   intro j;rw [M.get_set];split
   ·rfl
   ·rw [M.get_set]
  refine ⟨rfl,Je _,fun j hj => ?_,fun w j y hj => ?_,fun w hb j hj => ?_⟩
  ·rw [hget] at hj;split at hj
   ·cases hj
   ·split at hj
    ·cases hj
    ·exact hj
  ·rw [hget] at hj;split at hj
   ·rename_i e;cases hj;exact ⟨Nat.le_of_eq e,_,by rw [hget,Jf rfl]⟩
   ·have:y.root≤j ∧ ∃rb,m.get y.root=some rb:=by
     split at hj
     ·rename_i e;cases hj;rw [←e];exact w x.root rx hrx
     ·exact w j y hj
    obtain ⟨hle,rb,hrb⟩:=this;refine ⟨hle, ?_⟩;rw [hget];split
    ·exact ⟨_,rfl⟩
    ·split
     ·exact ⟨_,rfl⟩
     ·exact ⟨rb,hrb⟩
  ·refine JdR (by rw [hget,Jd (by omega),Jd (by omega)]) fun y hy => ?_
   obtain ⟨hle,rb,hrb⟩:=w j y hy;exact ⟨rb,rb,hrb,by rw [hget,Jd (by omega),Jd (by omega)];exact hrb,rfl⟩
end Go.IM
namespace Go.IM
open Go Go.RowKit
variable {P:Program} {m m1:M} {k:Nat} {b:Blk}
def Res.mem:Res→M
 | .val _ m | .skip m | .dfr _ m | .call _ _ m | .pnc _ m=>m
def Res.ins (k:Nat) (b:Blk):Res→Res
 | .val v m => .val v (m.set k b)
 | .skip m => .skip (m.set k b)
 | .dfr d m => .dfr d (m.set k b)
 | .call f a m => .call f a (m.set k b)
 | .pnc v m => .pnc v (m.set k b)
theorem Jfs {t:TypeId} {a v:Value} (hk:m.get k=none) (h:Ja5 P t a m=some v):Ja5 P t a (m.set k b)=some v:=by
 unfold Ja5 at h ⊢;split at h
 ·split at h
  ·simp only [Ja] at h ⊢;obtain ⟨cs,hc,rfl⟩:=h;exact ⟨cs,Jcj hk hc,rfl⟩
  ·exact Jsd hk h
  ·cases h
 ·cases h
theorem JdG {i o:Nat} {vs:List Value} (h:m.store i o vs=some m1):Fr m m1∧(m.get k=none→(m.set k b).store i o vs=some (m1.set k b)):=by
 unfold M.store at h ⊢;split at h
 ·rename_i x hx;split at h
  ·rename_i c e fr ho;split at h
   ·rename_i hc;cases h;obtain ⟨h1,h2,h3,h4,h5,h6⟩:=hc;refine ⟨JsR _ hx h5 h6,fun hk => ?_⟩;rw [Xm hk hx];dsimp only;rw [ho];dsimp only;rw [Jf ⟨h1,h2,h3,h4,h5,h6⟩];obtain ⟨rb,hrb,_⟩:=QB hx;rw [JoJ _ hk (Jcg hk (JO hx)) (Jcg hk hrb) ⟨rb,hrb⟩]
   ·cases h
  ·cases h
 ·cases h
theorem JkM {t:TypeId} {a v:Value} (h:XO P t a v m=some m1):Fr m m1∧(m.get k=none→XO P t a v (m.set k b)=some (m1.set k b)):=by
 unfold XO at h ⊢;split at h
 ·rename_i h1;split at h
  ·rename_i h2;obtain ⟨h3,h4⟩:=JdG (k:=k) (b:=b) h;refine ⟨h3,fun hk => ?_⟩;rw [Jf h2];exact h4 hk
  ·cases h
 ·cases h
theorem Jnn {t : TypeId} {x v : Value} {lo hi mx : Option Value} (hk : m.get k = none) (h : QD P t x lo hi mx m = some v) : QD P t x lo hi mx (m.set k b) = some v := by
 unfold QD at h ⊢;split at h
 ·rename_i h1;split at h
  ·rename_i h2 h3;split at h
   ·cases h
   ·rename_i h4;rw [Jd h4];split at h
    ·rename_i h5;split at h
     ·rename_i h6;split at h
      ·rename_i h7;rw [Jf h7];split at h
       ·exact h
       ·split at h
        ·rename_i hc0;rw [Jf hc0];exact h
        ·rename_i hc0;rw [Jd hc0];split at h
         ·rename_i hr;rw [Jhl hk hr];exact h
         ·cases h
      ·cases h
     ·cases h
    ·cases h
  ·cases h
 ·cases h
theorem Jfl {t:TypeId} {x:Value} {lo hi mx:Option Value} (m m2:M) (hx:flat 4 x=true):QD P t x lo hi mx m2=QD P t x lo hi mx m:=by
 unfold QD;split
 ·rename_i a n c h1;cases a with
  | none=>rfl
  | some=>simp [flat] at hx
 ·rfl
theorem JhG {x v : Value} (hk : m.get k = none) (h : QO x m = some v) : QO x (m.set k b) = some v := by
 unfold QO at h ⊢;split at h
 ·exact h
 ·rename_i i o sp len cap;split at h
  ·rename_i cs hcs;rw [Jcj hk hcs];exact h
  ·split at h
   ·rename_i hc h0;cases h;subst h0;cases hq : (m.set k b).cells i o 0 with
    | none=>simp
    | some cs=>
     have:cs = #[]:=by
      unfold M.cells at hq;split at hq
      ·split at hq
       ·cases hq;simp;omega
       ·cases hq
      ·cases hq
     subst this;rfl
   ·cases h
 ·cases h
theorem Jrj {size n:Nat} {x:Value} {cs:Array Value} (hk:m.get k=none) (h:JjM size x m=some (n,cs)):JjM size x (m.set k b)=some (n,cs):=by
 unfold JjM at h ⊢;split at h
 ·exact h
 ·split at h
  ·rename_i h0;simp only [Jf h0];exact h
  ·rename_i h0;simp only [Jd h0];simp only [Ja] at h ⊢;obtain ⟨c,hc,he⟩:=h;exact ⟨c,Jcj hk hc,he⟩
 ·exact h
 ·cases h
theorem JcG {o:Obj} (h:(m.mk1 o).nxt≤k):m.nxt≠k:=by
 have:(m.mk1 o).nxt=m.nxt+1:=rfl
 omega
theorem JfN {e : TypeId} {ti : TypeInfo} {base : Option Addr} {len cap : Nat} {x v : Value} (h : Qr P e ti base len cap x m = some (v, m1)) :
  Fr m m1∧(m1.get k=none→m1.nxt≤k→Qr P e ti base len cap x (m.set k b)=some (v,m1.set k b)):=by
 unfold Qr at h ⊢;split at h
 ·rename_i n cs hn;have hni : m.get k = none → JjM ti.size x (m.set k b) = some (n, cs) := fun hk => Jrj hk hn
  split at h
  ·rename_i h0;split at h
   ·rename_i hl;cases h;exact ⟨Fr.refl _,fun hk _=>by rw [hni hk];dsimp only;rw [Jf h0,Jf hl]⟩
   ·cases h
  ·rename_i h0;split at h
   ·cases h
   ·rename_i hb;cases base with
    | none=>
     dsimp only at h;split at h
     ·rename_i hc;split at h
      ·rename_i a m2 hnew;cases h;obtain ⟨f1,rfl,f2,rfl⟩:=JaP hnew;refine ⟨f1,fun hk hle => ?_⟩;have hk0:=f1.dom k hk;rw [hni hk0];dsimp only;rw [Jd h0,Jd hb,Jf hc,JbA (JcG hle) hnew]
      ·cases h
     ·cases h
    | some aa =>
     obtain ⟨i,o,sp⟩:=aa;cases sp with
     | some =>
      dsimp only at h;split at h
      ·cases h
      ·rename_i hroom;split at h
       ·rename_i hl0;split at h
        ·rename_i a m2 hnew;cases h;obtain ⟨f1,rfl,f2,rfl⟩:=JaP hnew;refine ⟨f1,fun hk hle => ?_⟩;have hk0:=f1.dom k hk;rw [hni hk0];dsimp only;rw [Jd h0,Jd hb,Jd hroom,Jf hl0,JbA (JcG hle) hnew]
        ·cases h
       ·rename_i hl0;split at h
        ·rename_i c1 e1 c0 hrow hcells;split at h
         ·rename_i hce;split at h
          ·rename_i a m2 hnew;cases h;obtain ⟨f1,rfl,f2,rfl⟩:=JaP hnew;refine ⟨f1,fun hk hle => ?_⟩;have hk0:=f1.dom k hk;rw [hni hk0];dsimp only;rw [Jd h0,Jd hb,Jd hroom,Jd hl0,Jhl hk0 hrow,Jcj hk0 hcells];dsimp only;rw [Jf hce,JbA (JcG hle) hnew]
          ·cases h
         ·cases h
        ·cases h
     | none =>
      dsimp only at h;split at h
      ·rename_i bb hal;split at h
       ·rename_i c e' fr ho;split at h
        ·cases h
        ·rename_i hce;split at h
         ·rename_i hroom;simp only [Ja,Jm] at h;obtain ⟨m2,hst,rfl,rfl⟩:=h;obtain ⟨f1,f2⟩:=JdG (k:=k) (b:=b) hst;refine ⟨f1,fun hk _ => ?_⟩;have hk0:=f1.dom k hk;rw [hni hk0];dsimp only;rw [Jd h0,Jd hb,Xm hk0 hal];dsimp only;rw [ho];dsimp only;rw [Jd hce,Jf hroom,f2 hk0];rfl
         ·rename_i hroom;split at h
          ·rename_i hcap;split at h
           ·rename_i hfit;split at h
            ·rename_i a m2 hnew;cases h;obtain ⟨f1,rfl,f2,rfl⟩:=JaP hnew;refine ⟨f1,fun hk hle => ?_⟩;have hk0:=f1.dom k hk;rw [hni hk0];dsimp only;rw [Jd h0,Jd hb,Xm hk0 hal];dsimp only;rw [ho];dsimp only;rw [Jd hce,Jd hroom,Jf hcap,Jf hfit,JbA (JcG hle) hnew]
            ·cases h
           ·cases h
          ·rename_i hcap;split at h
           ·rename_i hg;split at h
            ·rename_i hf;cases h;obtain ⟨g1,g2,g3,g4,g5⟩:=hg;have f1:=gen_fr (.cells (c++cs) e' fr) hf hal g5;refine ⟨f1,fun hk hle => ?_⟩;have hk0:=f1.dom k hk;have hnk:m.nxt≠k:=by
              have:(m.gen i bb (.cells (c++cs) e' fr)).nxt=m.nxt+1:=rfl
              omega
             rw [hni hk0];dsimp only;rw [Jd h0,Jd hb,Xm hk0 hal];dsimp only;rw [ho];dsimp only;rw [Jd hce,Jd hroom,Jd hcap,Jf ⟨g1,g2,g3,g4,g5⟩];have hgn:(m.set k b).get (m.set k b).nxt=none:=by rw [M.nxt_set,M.get_set,Jd hnk.symm];exact hf
             rw [hgn];dsimp only;rw [M.nxt_set,Juy _ (Jcg hk0 (JO hal)) hnk]
            ·cases h
           ·cases h
       ·cases h
      ·cases h
 ·cases h
theorem Ji6 {t : TypeId} {xt : Option TypeId} {s x v : Value} (h : Xh P t xt s x m = some (v, m1)) :
  Fr m m1∧(m1.get k=none→m1.nxt≤k→Xh P t xt s x (m.set k b)=some (v,m1.set k b)):=by
 unfold Xh at h ⊢;split at h
 ·rename_i h1;split at h
  ·rename_i ti z h2 h3;split at h
   ·cases h
   ·rename_i h4;rw [Jd h4];split at h
    ·rename_i h5;obtain ⟨f1,f2⟩:=JfN (k:=k) (b:=b) h;exact ⟨f1,fun hk hle=>f2 hk hle⟩
    ·rename_i h5;obtain ⟨f1,f2⟩:=JfN (k:=k) (b:=b) h;exact ⟨f1,fun hk hle=>f2 hk hle⟩
    ·cases h
  ·cases h
 ·cases h
theorem Jdr {size n:Nat} {x:Value} {cs:Array Value} (hk:m.get k=none) (h:XR size n m x=some cs):XR size n (m.set k b) x=some cs:=by
 unfold XR at h ⊢;split at h
 ·exact h
 ·split at h
  ·rename_i h0;simp only [Jf h0];exact h
  ·rename_i h0;simp only [Jd h0];exact Jcj hk h
 ·exact h
 ·cases h
theorem Jns {t : TypeId} {s x v : Value} (h : Jfx P t s x m = some (v, m1)) : Fr m m1 ∧ (m1.get k = none → Jfx P t s x (m.set k b) = some (v, m1.set k b)) := by
 unfold Jfx at h ⊢;split at h
 ·rename_i h1;split at h
  ·rename_i ti n h2 h3;split at h
   ·rename_i cs hcs;split at h
    ·rename_i h0;cases h;exact ⟨Fr.refl _,fun hk=>by rw [Jdr hk hcs];dsimp only;rw [Jf h0]⟩
    ·rename_i h0;split at h
     ·rename_i i o;simp only [Ja,Jm] at h;obtain ⟨m2,hst,rfl,rfl⟩:=h;obtain ⟨f1,f2⟩:=JdG (k:=k) (b:=b) hst;refine ⟨f1,fun hk => ?_⟩;have hk0:=f1.dom k hk;rw [Jdr hk0 hcs];dsimp only;rw [Jd h0,f2 hk0];rfl
     ·cases h
   ·cases h
  ·cases h
 ·cases h
theorem Ji8 {ev:Operand→Value} {o:Oper} {r:Res} (h:QT P ev o m=some r) : ∃v,r = .val v m ∧ ∀m2,QT P ev o m2=some (.val v m2):=by
 unfold QT at h ⊢;split at h
 ·rename_i h1;split at h
  ·rename_i v h2;split at h
   ·rename_i h3;cases h;exact ⟨v,rfl,fun m2=>by rw [Jf h1,Jf h3]⟩
   ·cases h
  ·cases h
 ·cases h
def Jaf (m:M) (f:M→Option Res) (r:Res) (k:Nat) (b:Blk):Prop:=Fr m r.mem∧(r.mem.get k=none→r.mem.nxt≤k→f (m.set k b)=some (r.ins k b))
theorem Jaf.flat {ev:Operand→Value} {o:Oper} {r:Res} (h:QT P ev o m=some r):Jaf m (QT P ev o) r k b:=by
 obtain ⟨v,rfl,h2⟩:=Ji8 h;exact ⟨Fr.refl _,fun _ _=>h2 _⟩
theorem Jaf.of_eq {f g:M→Option Res} {r:Res} (hfg : ∀m,f m=g m) (h:Jaf m g r k b):Jaf m f r k b:=⟨h.1,fun hk hl=>by rw [hfg];exact h.2 hk hl⟩
theorem Jaf.map {f:M→Option (Value × M)} {r:Res} (h:(f m).map (fun (v,m')=>Res.val v m')=some r)
  (hf : ∀v m1,f m=some (v,m1)→Fr m m1∧(m1.get k=none→m1.nxt≤k→f (m.set k b)=some (v,m1.set k b))):Jaf m (fun m=>(f m).map fun (v,m')=>Res.val v m') r k b:=by
 simp only [Ja] at h;obtain ⟨⟨v,m1⟩,h1,rfl⟩:=h;obtain ⟨f1,f2⟩:=hf v m1 h1;exact ⟨f1,fun hk hl=>by dsimp only;rw [f2 hk hl];rfl⟩
theorem Jaf.mapv {f:M→Option Value} {r:Res} (h:(f m).map (fun v=>Res.val v m)=some r) (hf : ∀v,f m=some v→m.get k=none→f (m.set k b)=some v) :
  Jaf m (fun m=>(f m).map fun v=>Res.val v m) r k b:=by
 simp only [Ja] at h;obtain ⟨v,h1,rfl⟩:=h;exact ⟨Fr.refl _,fun hk _=>by dsimp only;rw [hf v h1 hk];rfl⟩
theorem Jaf.const {f:M→Option Res} {v:Value} (h : ∀m2,f m2=some (.val v m2)) {r:Res} (hr:f m=some r):Jaf m f r k b:=by
 rw [h] at hr;cases hr;exact ⟨Fr.refl _,fun _ _=>h _⟩
theorem Xt {i:Nat} {p:Array MapEntry × Nat} (hk:m.get k=none) (h:m.mapOf i=some p):(m.set k b).mapOf i=some p:=by
 obtain ⟨es,clock⟩:=p;obtain ⟨x,h1,h2⟩:=JbB h;unfold M.mapOf;rw [Xm hk h1];dsimp only;rw [h2]
theorem X6 {i:Nat} {o:Obj} (h:m.putObj i o=some m1):Fr m m1∧(m.get k=none→(m.set k b).putObj i o=some (m1.set k b)):=by
 unfold M.putObj at h ⊢;split at h
 ·rename_i x hx;split at h
  ·rename_i hc;cases h;obtain ⟨h1,h2,h5,h6⟩:=hc;refine ⟨JsR _ hx h5 h6,fun hk => ?_⟩;rw [Xm hk hx];dsimp only;rw [Jf ⟨h1,h2,h5,h6⟩];obtain ⟨rb,hrb,_⟩:=QB hx;rw [JoJ _ hk (Jcg hk (JO hx)) (Jcg hk hrb) ⟨rb,hrb⟩]
  ·cases h
 ·cases h
theorem Jdc {o:Obj} {n:Nat} (h:m.newO o=some (n,m1)):Fr m m1∧(m1.nxt≤k→(m.set k b).newO o=some (n,m1.set k b)):=by
 unfold M.newO at h ⊢;split at h
 ·rename_i hf;cases h;refine ⟨JsW _ hf,fun hl => ?_⟩;have hk:=JcG hl;rw [M.nxt_set,M.get_set,Jd hk.symm,hf];dsimp only;rw [Jo1 _ hk]
 ·cases h
theorem JkQ {t:TypeId} {x q v:Value} {ok:Bool} (hk:m.get k=none) (h:Q8 P t x q ok m=some v):Q8 P t x q ok (m.set k b)=some v:=by
 unfold Q8 at h ⊢;split at h
 ·rename_i h1;exact h
 ·rename_i h1;split at h
  ·rename_i h2;simp only [Xt hk h2];exact h
  ·cases h
 ·cases h
theorem Jec {t:TypeId} {x q v:Value} (h:Xf P t x q v m=some m1):Fr m m1∧(m.get k=none→Xf P t x q v (m.set k b)=some (m1.set k b)):=by
 unfold Xf at h ⊢;split at h
 ·rename_i h1;split at h
  ·rename_i h2;split at h
   ·rename_i h3;obtain ⟨f1,f2⟩:=X6 (k:=k) (b:=b) h;exact ⟨f1,fun hk=>by simp only [Xt hk h2,h3];exact f2 hk⟩
   ·rename_i h3;obtain ⟨f1,f2⟩:=X6 (k:=k) (b:=b) h;exact ⟨f1,fun hk=>by simp only [Xt hk h2,h3];exact f2 hk⟩
   ·cases h
  ·cases h
 ·cases h
theorem Ji4 {t:TypeId} {x q:Value} (h:X8 P t x q m=some m1):Fr m m1∧(m.get k=none→X8 P t x q (m.set k b)=some (m1.set k b)):=by
 unfold X8 at h ⊢;split at h
 ·rename_i h1;split at h
  ·rename_i h2;cases h;exact ⟨Fr.refl _,fun hk=>by simp only [Jf h2]⟩
  ·cases h
 ·rename_i h1;split at h
  ·rename_i h2;split at h
   ·rename_i h3;obtain ⟨f1,f2⟩:=X6 (k:=k) (b:=b) h;exact ⟨f1,fun hk=>by simp only [Xt hk h2,h3];exact f2 hk⟩
   ·rename_i h3;obtain ⟨f1,f2⟩:=X6 (k:=k) (b:=b) h;exact ⟨f1,fun hk=>by simp only [Xt hk h2,h3];exact f2 hk⟩
   ·cases h
  ·cases h
 ·cases h
theorem JiM {t:TypeId} {x:Value} {o:Obj} (hk:m.get k=none) (h:Jby P t x m=some o):Jby P t x (m.set k b)=some o:=by
 unfold Jby at h ⊢;split at h
 ·exact h
 ·exact h
 ·split at h
  ·rename_i h2;simp only [Xt hk h2];exact h
  ·cases h
 ·cases h
theorem JkN {t:TypeId} {x v:Value} (h:Jee P t x m=some (v,m1)):Fr m m1∧(m1.get k=none→m1.nxt≤k→Jee P t x (m.set k b)=some (v,m1.set k b)):=by
 unfold Jee at h ⊢;split at h
 ·rename_i o ho;split at h
  ·rename_i n m2 hn;cases h;obtain ⟨f1,f2⟩:=Jdc (k:=k) (b:=b) hn;exact ⟨f1,fun hk hl=>by simp only [JiM (f1.dom k hk) ho,f2 hl]⟩
  ·cases h
 ·cases h
theorem JhO {t:TypeId} {x:Option Value} {v:Value} (h:QF P t x m=some (v,m1)):Fr m m1∧(m1.get k=none→m1.nxt≤k→QF P t x (m.set k b)=some (v,m1.set k b)):=by
 unfold QF at h ⊢;split at h
 ·split at h
  ·rename_i n m2 hn;cases h;obtain ⟨f1,f2⟩:=Jdc (k:=k) (b:=b) hn;exact ⟨f1,fun hk hl=>by simp only [f2 hl]⟩
  ·cases h
 ·split at h
  ·rename_i n m2 hn;cases h;obtain ⟨f1,f2⟩:=Jdc (k:=k) (b:=b) hn;exact ⟨f1,fun hk hl=>by simp only [f2 hl]⟩
  ·cases h
 ·cases h
theorem JhM {i : Nat} {o : Obj} {v : Value} {s : Bool} (h : Xx m i s o = some (v, m1)) : Fr m m1 ∧ (m.get k = none → Xx (m.set k b) i s o = some (v, m1.set k b)) := by
 unfold Xx at h;split at h
 ·split at h
  ·rename_i hs;split at h
   ·rename_i hlt;simp only [Ja,Jm] at h;obtain ⟨m2,hp,rfl,rfl⟩:=h;obtain ⟨f1,f2⟩:=X6 (k:=k) (b:=b) hp;refine ⟨f1,fun hk => ?_⟩;unfold Xx;simp only [Jf hs,Jf hlt,f2 hk,JU]
   ·rename_i hlt;cases h;refine ⟨Fr.refl _,fun hk => ?_⟩;unfold Xx;simp only [Jf hs,Jd hlt]
  ·cases h
 ·split at h
  ·cases h
  ·rename_i hs;cases h;refine ⟨Fr.refl _,fun hk => ?_⟩;unfold Xx;simp only [Jd hs]
 ·split at h
  ·cases h
  ·rename_i hs;split at h
   ·rename_i hmo;split at h
    ·cases h
    ·rename_i hbad;split at h
     ·rename_i hc;simp only [Ja,Jm] at h;obtain ⟨m2,hp,rfl,rfl⟩:=h;obtain ⟨f1,f2⟩:=X6 (k:=k) (b:=b) hp;refine ⟨f1,fun hk => ?_⟩;unfold Xx;simp only [Jd hs,Xt hk hmo];rw [Jd hbad];simp only [hc,f2 hk,JU]
     ·rename_i hc;cases h;refine ⟨Fr.refl _,fun hk => ?_⟩;unfold Xx;simp only [Jd hs,Xt hk hmo];rw [Jd hbad];simp only [hc]
     ·cases h
   ·cases h
 ·cases h
theorem Jnp {it v:Value} {s:Bool} (h:JhN it s m=some (v,m1)):Fr m m1∧(m.get k=none→JhN it s (m.set k b)=some (v,m1.set k b)):=by
 unfold JhN at h ⊢;split at h
 ·split at h
  ·rename_i x hx;obtain ⟨f1,f2⟩:=JhM (k:=k) (b:=b) h;exact ⟨f1,fun hk=>by simp only [Xm hk hx];exact f2 hk⟩
  ·cases h
 ·cases h
theorem Jnr {it v : Value} (hk : m.get k = none) (h : Jef it m = some v) : Jef it (m.set k b) = some v := by
 unfold Jef at h ⊢;split at h
 ·split at h
  ·rename_i x hx;simp only [Xm hk hx];split at h
   ·rename_i j a seen st ho;split at h
    ·rename_i stamp es clock h1 h2;simp only [h1,Xt hk h2];exact h
    ·cases h
   ·cases h
  ·cases h
 ·cases h
theorem Ji3 {name : String} {v : Value} {args : Array Value} {r : Res} (h : JbC P name v args m = some r) : Jaf m (JbC P name v args) r k b := by
 unfold JbC at h ⊢;split at h
 ·split at h
  ·rename_i him;cases h;exact ⟨Fr.refl _,fun _ _=>by simp only [him];rfl⟩
  ·rename_i him;simp only [Ja] at h;obtain ⟨x,hx,rfl⟩:=h;exact ⟨Fr.refl _,fun hk _=>by
    have hx':=Jfs (b:=b) (show m.get k=none from hk) hx
    simp only [him];rw [hx'];rfl⟩
  ·cases h
 ·cases h
theorem JkR {args:Array Value} {r:Res} (h:Jbm args m=some r):Jaf m (Jbm args) r k b:=by
 unfold Jbm at h ⊢;split at h
 ·split at h
  ·rename_i hmo;split at h
   ·rename_i hn;cases h;obtain ⟨f1,f2⟩:=Jdc (k:=k) (b:=b) hn;refine ⟨f1,fun hk hl => ?_⟩;simp only [Xt (f1.dom k hk) hmo,f2 hl];rfl
   ·cases h
  ·cases h
 ·cases h
theorem Jnt {ev : Operand → Value} {o : Oper} {c : Call} {r : Res} (h : JaT P ev o c m = some r) : Jaf m (JaT P ev o c) r k b := by
 unfold JaT at h ⊢;split at h
 ·split at h
  ·split at h
   ·rename_i h1 _ _ _ _ h2 _ _ h3;split at h
    ·rename_i h4;cases h;exact ⟨Fr.refl _,fun _ _=>by dsimp only;rw [Jf h4];rfl⟩
    ·rename_i h4;split at h
     ·rename_i h5;have:=JkR (k:=k) (b:=b) h
      refine ⟨this.1,fun hk hl => ?_⟩;dsimp only;rw [Jd h4,Jf h5];exact this.2 hk hl
     ·rename_i h5;have:=Jaf.flat (k:=k) (b:=b) h
      refine ⟨this.1,fun hk hl => ?_⟩;dsimp only;rw [Jd h4,Jd h5];exact this.2 hk hl
   ·cases h
  ·cases h
 ·split at h
  ·rename_i h1 h2;cases h;exact ⟨Fr.refl _,fun _ _=>by simp only [h1,h2];rfl⟩
  ·rename_i h1;have:=Jaf.flat (k:=k) (b:=b) h
   refine ⟨this.1,fun hk hl => ?_⟩;dsimp only;exact this.2 hk hl
 ·split at h
  ·rename_i h1 h2 h3;split at h
   ·rename_i h4;refine Jaf.of_eq (g:=fun m=>(Xh P _ _ _ _ m).map fun (v,m')=>Res.val v m') (fun m => ?_) (Jaf.map h fun v m1 ha=>Ji6 ha);simp only [h1,h2,h3];rw [Jf h4]
   ·cases h
  ·cases h
 ·split at h
  ·rename_i h1 h2 h3;split at h
   ·rename_i h4;refine Jaf.of_eq (g:=fun m=>(Jfx P _ _ _ m).map fun (v,m')=>Res.val v m') (fun m => ?_) (Jaf.map h fun v m1 ha=>let ⟨a,b⟩:=Jns ha;⟨a,fun hk _=>b hk⟩)
    simp only [h1,h2,h3];rw [Jf h4]
   ·cases h
  ·cases h
 ·split at h
  ·rename_i h1 h2 h3;split at h
   ·rename_i h4;simp only [Ja] at h;obtain ⟨m1,hd,rfl⟩:=h;obtain ⟨f1,f2⟩:=Ji4 (k:=k) (b:=b) hd;refine ⟨f1,fun hk _ => ?_⟩;simp only [h1,h2,h3];rw [Jf h4,f2 (f1.dom k hk)];rfl
   ·cases h
  ·cases h
 ·cases h
 ·cases h
 ·exact Jaf.flat h
 ·rename_i hcal;exact Jaf.of_eq (g:=JbC P _ _ _) (fun m=>by simp only [hcal]) (Ji3 h)
theorem JhP {ev : Operand → Value} {o : Oper} {src dst : TypeId} {x : Value} {r : Res} (h : Q9 P ev o src dst x m = some r) : Jaf m (Q9 P ev o src dst x) r k b := by
 unfold Q9 at h ⊢;split at h
 ·split at h
  ·rename_i h1;split at h
   ·rename_i h2;refine Jaf.of_eq (g:=fun m=>(Jav _ _ m).map fun (v,m')=>Res.val v m') (fun m => ?_) (Jaf.map h fun v m1 ha => ?_)
    ·simp only [h1];rw [Jf h2]
    ·unfold Jav at ha;split at ha
     ·rename_i hn;cases ha;obtain ⟨f1,rfl,f2,rfl⟩:=JaP hn;refine ⟨f1,fun hk hl => ?_⟩;unfold Jav;rw [JbA (JcG hl) hn]
     ·cases ha
   ·cases h
  ·cases h
 ·split at h
  ·rename_i h1;refine Jaf.of_eq (g:=fun m=>(QO _ m).map fun v=>Res.val v m) (fun m => ?_) (Jaf.mapv h fun v ha hk=>JhG hk ha);simp only [h1]
  ·cases h
 ·split at h
  ·rename_i h1 h2 h3;split at h
   ·rename_i h4;split at h
    ·cases h
    ·rename_i h5;cases h;refine ⟨Fr.refl _,fun hk _ => ?_⟩;have hal:=Xm (b:=b) (show m.get k=none from hk) h3;simp only [h1,h2,Res.mem,hal,h4];rw [Jd h5];rfl
   ·cases h
  ·cases h
 ·exact Jaf.flat h
theorem Jpq {ev:Operand→Value} {o:Oper} {op:BinOp} {t u:TypeId} {x y:Operand} (ho:o.op = .binOp op t x y u) (h1 : ¬op = .eql) (h2 : ¬op = .neq):iop P ev o m=QT P ev o m:=by
 unfold iop;rw [ho];cases op <;> first | rfl | (exact absurd rfl h1) | (exact absurd rfl h2)
theorem Jad {ev : Operand → Value} {o : Oper} {r : Res} (h : iop P ev o m = some r) : Jaf m (iop P ev o) r k b := by
 have eq : ∀m,iop P ev o m=iop P ev o m:=fun _=>rfl
 unfold iop at h;split at h
 all_goals rename_i ho
 all_goals first | refine Jaf.of_eq (fun m=>by unfold iop;rw [ho]) ?_ | (exact absurd h (by simp))
 ·exact Jaf.const (fun _=>rfl) h
 ·exact Jaf.const (fun _=>rfl) h
 ·dsimp only;split at h
  ·exact Jaf.const (fun _=>rfl) h
  ·cases h
 ·dsimp only;split at h
  ·rename_i z hz;simp only [Ja] at h;obtain ⟨⟨a,m1⟩,hn,rfl⟩:=h;obtain ⟨f1,rfl,f2,rfl⟩:=JaP hn;exact ⟨f1,fun hk hl=>by dsimp only;rw [JbA (JcG hl) hn];rfl⟩
  ·cases h
 ·simp only [Ja] at h;obtain ⟨⟨a,m1⟩,hn,rfl⟩:=h;obtain ⟨f1,rfl,f2,rfl⟩:=JaP hn;exact ⟨f1,fun hk hl=>by dsimp only;rw [JbA (JcG hl) hn];rfl⟩
 ·simp only [Jp] at h;obtain ⟨v,hb,h⟩:=h;dsimp only;split at h
  ·rename_i z hz;cases h;exact ⟨Fr.refl _,fun _ _=>by simp only [hb];rfl⟩
  ·cases h
 ·refine Jaf.map h fun v m1 hb => ?_
  unfold XB at hb ⊢;split at hb
  ·split at hb
   ·split at hb
    ·rename_i h1;split at hb
     ·rename_i h2;split at hb
      ·rename_i a m2 hn;split at hb
       ·rename_i h3;cases hb;obtain ⟨f1,rfl,f2,rfl⟩:=JaP hn;refine ⟨f1,fun hk hl => ?_⟩;rw [Jf h1];rw [JbA (JcG hl) hn];dsimp only;rw [Jf h3]
       ·cases hb
      ·cases hb
     ·cases hb
    ·cases hb
   ·cases hb
  ·cases hb
 ·exact Jaf.mapv h fun v hv hk=>Jfs hk hv
 ·simp only [Ja] at h;obtain ⟨m1,hs,rfl⟩:=h;obtain ⟨f1,f2⟩:=JkM (k:=k) (b:=b) hs;exact ⟨f1,fun hk _=>by dsimp only;rw [f2 (f1.dom k hk)];rfl⟩
 ·split at h
  ·cases h
  ·cases h
  ·cases h
  ·cases h
  ·rename_i n1 n2 n3 n4;cases h;exact ⟨Fr.refl _,fun _ _=>by simp only [Res.ins]⟩
 ·dsimp only;split at h
  ·exact Jaf.const (fun _=>rfl) h
  ·exact Jaf.flat h
 ·dsimp only;split at h
  ·exact Jaf.const (fun _=>rfl) h
  ·exact Jaf.flat h
 ·exact JhP h
 ·dsimp only;split at h
  ·cases h
  ·cases h
  ·rename_i d h1 h2;cases h;exact ⟨Fr.refl _,fun _ _=>by simp only [Res.ins]⟩
 ·dsimp only;split at h
  ·rename_i h1;cases h;exact ⟨Fr.refl _,fun _ _=>by dsimp only;rw [Jf h1];rfl⟩
  ·cases h
 ·refine Jaf.map h fun v m1 hb => ?_
  unfold Xn at hb ⊢;split at hb
  ·split at hb
   ·split at hb
    ·rename_i h1;split at hb
     ·rename_i a m2 hn;cases hb;obtain ⟨f1,rfl,f2,rfl⟩:=JaP hn;refine ⟨f1,fun hk hl => ?_⟩;rw [Jf h1,JbA (JcG hl) hn]
     ·cases hb
    ·cases hb
   ·cases hb
  ·cases hb
 ·dsimp only;split at h
  ·rename_i v hv;cases h;exact ⟨Fr.refl _,fun hk _=>by dsimp only;rw [Jnn (show m.get k=none from hk) hv];rfl⟩
  ·rename_i hv;have hfl:=h;have:=Jaf.flat (k:=k) (b:=b) h
   refine ⟨this.1,fun hk hl => ?_⟩;unfold QT at hfl;split at hfl
   ·rename_i hop;unfold XW at hop;rw [Array.all_eq_true'] at hop;dsimp only;rw [Jfl m _ (hop _ (by rw [ho];simp [Op.operands])),hv]
    exact this.2 hk hl
   ·cases hfl
 ·exact Jaf.mapv (f:=fun _=>Q1 P _ _ _) h fun v hv _=>hv
 ·exact Jaf.mapv (f:=fun _=>Jfv P _ _ _) h fun v hv _=>hv
 ·exact Jaf.mapv (f:=fun _=>Ql P _ _ _) h fun v hv _=>hv
 ·exact Jaf.mapv (f:=fun _=>Jft P _ _ _) h fun v hv _=>hv
 ·dsimp only;split at h
  ·cases h
  ·rename_i h1 h2 h3;split at h
   ·rename_i h4;cases h;exact ⟨Fr.refl _,fun _ _=>by dsimp only;rw [Jf h4];rfl⟩
   ·rename_i h4;split at h
    ·rename_i h5;simp only [Ja] at h;obtain ⟨z,hz,rfl⟩:=h;exact ⟨Fr.refl _,fun _ _=>by dsimp only;rw [Jd h4,Jf h5,hz];rfl⟩
    ·cases h
  ·rename_i h1 h2 h3;split at h
   ·rename_i h5;simp only [Ja] at h;obtain ⟨z,hz,rfl⟩:=h;exact ⟨Fr.refl _,fun _ _=>by dsimp only;rw [Jf h5,hz];rfl⟩
   ·cases h
  ·cases h
 ·dsimp only;split at h
  ·rename_i vs h1;simp only [Ja] at h;obtain ⟨v,hv,rfl⟩:=h;exact ⟨Fr.refl _,fun _ _=>by dsimp only;rw [hv];rfl⟩
  ·cases h
 ·exact Jnt h
 ·dsimp only;unfold Jfw at h ⊢;split at h
  ·split at h
   ·cases h;exact ⟨Fr.refl _,fun _ _=>rfl⟩
   ·cases h
  ·cases h
 ·dsimp only;split at h
  ·cases h;exact ⟨Fr.refl _,fun _ _=>rfl⟩
  ·cases h
 ·rename_i h1 h2;exact Jaf.of_eq (g:=QT P ev o) (fun m=>by have:=Jpq (P:=P) (m:=m) (ev:=ev) ho (by assumption) (by assumption);unfold iop at this;rw [ho] at this;exact this) (Jaf.flat h)
 ·exact Jaf.of_eq (g:=QT P ev o) (fun m=>rfl) (Jaf.flat h)
 ·exact Jaf.map h fun v m1 hb=>JhO hb
 ·exact Jaf.mapv h fun v hv hk=>JkQ hk hv
 ·simp only [Ja] at h;obtain ⟨m1,hs,rfl⟩:=h;obtain ⟨f1,f2⟩:=Jec (k:=k) (b:=b) hs;exact ⟨f1,fun hk _=>by dsimp only;rw [f2 (f1.dom k hk)];rfl⟩
 ·simp only [Ja] at h;obtain ⟨m1,hs,rfl⟩:=h;obtain ⟨f1,f2⟩:=Jec (k:=k) (b:=b) hs;exact ⟨f1,fun hk _=>by dsimp only;rw [f2 (f1.dom k hk)];rfl⟩
 ·exact Jaf.map h fun v m1 hb=>JkN hb
 ·exact Jaf.map h fun v m1 hb=>let ⟨a,b⟩:=Jnp hb;⟨a,fun hk _=>b (a.dom k hk)⟩
 ·exact Jaf.mapv h fun v hv hk=>Jnr hk hv
end Go.IM
namespace Go.IM
open Go Go.RowKit
inductive Out where
 | normal
 | exit (id:Nat)
 | ret
 | pnc (v:Value)
inductive Jn4 where
 | ret (v:Value)
 | pnc (v:Value)
inductive DM where
 | ret
 | pan (v:Value) (rec:Bool)
def Jak:Operand→Bool
 | .tmp _ | .func _=>true
 | .const v=>flat 4 v
 | .global _=>false
def JjL (o:Oper):Bool:=o.op.operands.all Jak
abbrev JbL:=FuncId→Array Value→M→Option (Jn4 × M)
def Q5 (P : Program) (C : JbL) (ops : Array Oper) : List Nat → Act → M → Option (Out × Act × M)
 | [],a,m=>some (.normal,a,m)
 | i :: rest, a, m =>
  match ops[i]? with
  | none=>none
  | some o =>
   if Region.wanted o (yielded ops a.tmps) then
    if JjL o then
     match iop P a.eval o m with
     | some (.val v m1)=>Q5 P C ops rest (a.put o.dst v) m1
     | some (.skip m1)=>Q5 P C ops rest (a.put o.dst undef) m1
     | some (.dfr d m1)=>Q5 P C ops rest (({ a with defers:=d::a.defers }:Act).put o.dst undef) m1
     | some (.call f args m1)=>match C f args m1 with
      | some (.ret v,m2)=>Q5 P C ops rest (a.put o.dst v) m2
      | some (.pnc v,m2)=>some (.pnc v,a,m2)
      | none=>none
     | some (.pnc v m1)=>some (.pnc v,a,m1)
     | none=>none
    else none
   else Q5 P C ops rest (a.put o.dst undef) m
abbrev Ev:=Code→Act→M→Option (Out × Act × M)
def JcX (P:Program) (tmps:Array Value) (m:M):ResultVar→Option Value
 | .tmp t=>some (tmps.getD t undef)
 | .cell a t=>Ja5 P t (tmps.getD a undef) m
def Xg (P:Program) (tmps:Array Value) (m:M):List ResultVar→Option (List Value)
 | []=>some []
 | r::l=>match JcX P tmps m r,Xg P tmps m l with
  | some v,some vs=>some (v::vs)
  | _,_=>none
def Qq (P:Program) (fn:Func) (tmps:Array Value) (m:M):Option Value:=
 match Xg P tmps m fn.results.toList with
 | some [v]=>some v
 | some l=>some (.tuple l.toArray)
 | none=>none
def JaL : Code → Option (Tmp × Code)
 | .seq (.region _ ops false) rest=>match ops.toList with
  | [o]=>match o.dst,o.op,o.guard with
   | some d,.call c,none=>match c.callee with
    | .builtin .recover=>if c.args.size=0 then some (d,rest) else none
    | _=>none
   | _,_,_=>none
  | _=>none
 | _=>none
def frame (fn:Func) (args:Array Value):Act := { tmps:=args++Array.replicate (fn.ntmps - args.size) undef,defers := [] }
def XJ:DM→DM
 | .pan _ true => .ret
 | u=>u
def Q6:DM→Value × DM
 | .pan v false=>(v,.pan v true)
 | u=>(.nilIface,u)
def Jji (P : Program) (ev : Ev) (f : FuncId) (args : Array Value) (u : DM) (m : M) : Option (DM × M) :=
 match P.funcs[f]? with
 | some fn=>match fn.body with
  | some c=>
   if fn.name == "runtime.NumGoroutine" then none else
   match (match JaL c with
    | some (d,rest)=>(ev rest ((frame fn args).put (some d) (Q6 u).1) m,(Q6 u).2)
    | none=>(ev c (frame fn args) m,u)) with
   | (some (.normal,a,m1),u1) | (some (.ret,a,m1),u1)=>match a.defers,Qq P fn a.tmps m1 with
    | [],some _=>some (XJ u1,m1)
    | _,_=>none
   | _=>none
  | none=>none
 | none=>none
def Xu (P:Program) (ev:Ev) (fn:Func) (tmps:Array Value):List Deferred→DM→M→Option (Jn4 × M)
 | [],.ret,m=>(Qq P fn tmps m).map (.ret ·, m)
 | [],.pan v false,m=>some (.pnc v,m)
 | [],.pan _ true,_=>none
 | d::ds,u,m=>match d.target with
  | .fn (.func k) cap=>match Jji P ev k (d.args++cap) u m with
   | some (u1,m1)=>Xu P ev fn tmps ds u1 m1
   | none=>none
  | _=>none
class Orc (P:Program) where
 O:FuncId→Array Value→Option Value
 ok : ∀f args v,O f args=some v→(∀x∈args.toList,flat 4 x=true)∧flat 4 v=true ∧ ∀w,Calls P f args w fun e w'=>e = .returned v∧Below w.heap.size w w'
@[reducible] def Orc.none (P:Program):Orc P:=⟨fun _ _=>Option.none,fun _ _ _ h=>by cases h⟩
def Ja8 (P:Program) [Orc P] (ev:Ev):JbL:=fun f args m=>
 match Orc.O P f args with
 | some v=>some (.ret v,m)
 | none=>
 match P.funcs[f]? with
 | some fn=>match fn.body with
  | some c=>match ev c (frame fn args) m with
   | some (.normal,a,m1) | some (.ret,a,m1)=>Xu P ev fn a.tmps a.defers .ret m1
   | some (.pnc v,a,m1)=>Xu P ev fn a.tmps a.defers (.pan v false) m1
   | _=>none
  | none=>none
 | none=>none
inductive JsB where
 | p | l | a | x | s
def JS (P:Program) (o:Oper):JsB:=
 match o.op with
 | .alloc _ | .box .. | .buildSlice .. | .makeSlice .. => .a
 | .load .. | .slice .. | .lookup .. => .l
 | .convert src dst _=>match P.underlying src,P.underlying dst with
  | some .string,some (.slice _) => .a
  | some (.slice _),_ => .l
  | _,_ => .p
 | .call c=>match c.callee with
  | .builtin .len | .builtin .max | .builtin .min => .p
  | _ => .x
 | .store .. => .s
 | .move _ | .assign _ | .pick .. | .build .. | .nilCheck _ | .binOp .. | .unOp .. | .makeInterface .. | .makeFunc .. | .fieldAddr .. | .field .. | .indexAddr .. | .index .. | .typeAssert .. | .extract .. => .p
 | _ => .x
def Jah (ev:Operand→Value) (o:Oper):Option Nat:=
 match o.op with
 | .load _ a=>match ev a with | .pointer (some q)=>some q.block | _=>none
 | .slice _ x _ _ _=>match ev x with | .slice (some q) _ c=>if c=0 then none else some q.block | _=>none
 | .convert _ _ x=>match ev x with | .slice (some q) n c=>if n=0∧c=0 then none else some q.block | _=>none
 | .lookup _ x _ _=>match ev x with | .map (some i)=>some i | _=>none
 | _=>none
def JbX (ev:Operand→Value) (o:Oper) (n0:Nat):Bool:=
 match Jah ev o with | some i=>decide (i<n0) | none=>true
def Jm6 (acc:List Nat):List Edge→Nat
 | []=>0
 | e::r=>if Region.binds .any e then (1 <<< e.on) ||| acc.getD e.on 0 ||| Jm6 acc r else Jm6 acc r
def QH:List Oper→List Nat→List Nat
 | [],acc=>acc
 | o::r,acc=>QH r (acc ++ [Jm6 acc o.after.toList])
def JeK (i:Nat):List Edge→Bool
 | []=>true
 | e::r=>(!Region.binds .any e || decide (e.on<i)) && JeK i r
def JbU (ms:List Nat) (i j:Nat):Bool:=if i<j then !(Nat.testBit (ms.getD j 0) i) else if j<i then !(Nat.testBit (ms.getD i 0) j) else false
def JhF:JsB→JsB→Bool
 | .p,_ | .l,_=>true
 | .s,.l=>false
 | _,.p | _,.l | _,.a=>true
 | _,_=>false
def JsU (P:Program) (ops:Array Oper) (ms:List Nat) (i j:Nat):Bool:=
 if JbU ms i j then match ops[i]?, ops[j]? with
  | some x,some y=>x.apart ops y && JhF (JS P x) (JS P y)
  | _,_=>false
 else true
def Jet:JsB→JsB→Bool
 | .x,.l=>true
 | .l,.a | .l,.x=>true
 | _,_=>false
def Jch (P:Program) (ops:Array Oper) (ms:List Nat) (i:Nat):Bool:=
 (List.range ops.size).any fun j=>JbU ms i j && match ops[i]?, ops[j]? with
  | some x,some y=>Jet (JS P x) (JS P y)
  | _,_=>false
def Jfe (P:Program) (ops:Array Oper):Bool:=
 let ms:=QH ops.toList []
 (List.range ops.size).all fun j=>(match ops[j]? with | some o=>JeK j o.after.toList | none=>false) && (List.range j).all fun i=>JsU P ops ms i j
def isAX:JsB→Bool
 | .a | .x=>true
 | _=>false
def XQ (P:Program) (ops:Array Oper) (ms:List Nat) (i:Nat):Option Nat:=
 match ops[i]? with
 | some x=>match JS P x with
  | .l=>(List.range i).find? fun j=>JbU ms j i && match ops[j]? with
   | some y=>isAX (JS P y)
   | none=>false
  | _=>none
 | none=>none
def isL:JsB→Bool
 | .l=>true
 | _=>false
def Jcc (P:Program) (ops:Array Oper) (ms:List Nat) (j:Nat):List Nat:=
 match ops[j]? with
 | some y=>match JS P y with
  | .s=>(List.range j).filter fun i=>JbU ms i j && match ops[i]? with
   | some x=>isL (JS P x)
   | none=>false
  | _ => []
 | none => []
def JmU (t:Tr) (b:Nat):Bool:=
 match (⟨t,0,0⟩:M).get b with
 | some x=>Nat.beq x.root b
 | none=>false
def JjJ (av:List Nat) (ev:Operand→Value) (o:Oper) (t:Tr):Bool:=
 av.isEmpty || (match o.op with
  | .store _ a _=>match ev a with
   | .pointer (some q) => !(av.contains q.block) && JmU t q.block
   | _=>false
  | _=>true)
def JcD (ops:Array Oper) (a:Act) (o:Oper):Option Nat:=if Region.wanted o (yielded ops a.tmps) then Jah a.eval o else none
def opD (P : Program) (C : JbL) (av : List Nat) (n0 β : Nat) (fl wanted : Bool) (o : Oper) (ev : Operand → Value) (k : Nat) (t : Tr) : Option (Value × Tr × Nat) :=
 if wanted then
  if JjL o && (!fl || JbX ev o n0) && JjJ av ev o t then
   match iop P ev o ⟨t,k,if fl then k else β⟩ with
   | some (.val v m1)=>some (v,m1.tr,m1.nxt)
   | some (.skip m1)=>some (undef,m1.tr,m1.nxt)
   | some (.call f args m1)=>match C f args m1 with
    | some (.ret v,m2)=>some (v,m2.tr,m2.nxt)
    | _=>none
   | _=>none
  else none
 else some (undef,t,k)
def Jes (ff:Nat→Option Nat) (ss:Nat→Nat) (i k:Nat):Nat:=
 match ff i with
 | some j=>ss j
 | none=>k
def Jox (ss:Nat→Nat) (i k:Nat):Nat→Nat:=fun q=>bif Nat.beq q i then k else ss q
def setT (tt:Nat→Option Nat) (i:Nat) (x:Option Nat):Nat→Option Nat:=fun q=>bif Nat.beq q i then x else tt q
def JjK (P:Program) (C:JbL) (ops:Array Oper) (β:Nat) (fl:Nat→Bool) (ff:Nat→Option Nat) (lf:Nat→List Nat):List Nat→(Nat→Nat)→(Nat→Option Nat)→Act→Nat→Tr→Option (Act × Nat × Tr)
 | [],_,_,a,k,t=>some (a,k,t)
 | i::rest,ss,tt,a,k,t=>
  match ops[i]? with
  | none=>none
  | some o=>match opD P C ((lf i).filterMap tt) (Jes ff ss i k) β (fl i) (Region.wanted o (yielded ops a.tmps)) o a.eval k t with
   | some (v,t1,k1)=>JjK P C ops β fl ff lf rest (Jox ss i k) (setT tt i (JcD ops a o)) (a.put o.dst v) k1 t1
   | none=>none
def Jb0 (P:Program) (C:JbL) (ops:Array Oper) (a:Act) (m:M):Option (Out × Act × M):=
 if Jfe P ops && P.follows .mixedOrders && decide (m.bar≤m.nxt) then
  let ms:=QH ops.toList []
  match JjK P C ops m.bar (Jch P ops ms) (XQ P ops ms) (Jcc P ops ms) (List.range ops.size) (fun _=>0) (fun _=>none) a m.nxt m.tr with
  | some (a1,k1,t1)=>some (.normal,a1,⟨t1,k1,m.bar⟩)
  | none=>none
 else none
def E (P:Program) [Orc P]:Nat→Ev
 | 0,_,_,_=>none
 | n+1,c,a,m=>
  match c with
  | .skip | .label _=>some (.normal,a,m)
  | .region _ ops draw=>if draw then Jb0 P (Ja8 P (E P n)) ops a m else Q5 P (Ja8 P (E P n)) ops (List.range ops.size) a m
  | .seq x y=>match E P n x a m with
   | some (.normal,a1,m1)=>E P n y a1 m1
   | r=>r
  | .cond c x y=>if Jak c then match a.eval c with
   | .bool b=>E P n (if b then x else y) a m
   | _=>none
   else none
  | .block id b=>match E P n b a m with
   | some (.exit id',a1,m1)=>if id'=id then some (.normal,a1,m1) else some (.exit id',a1,m1)
   | r=>r
  | .loop b=>match E P n b a m with
   | some (.normal,a1,m1)=>E P n (.loop b) a1 m1
   | r=>r
  | .exit id=>some (.exit id,a,m)
  | .ret=>some (.ret,a,m)
  | _=>none
end Go.IM
namespace Go.IM
open Go Go.RowKit
variable {P:Program}
def Jd2 (C:JbL):Prop := ∀(f:FuncId) (args:Array Value) (m:M) (out:Jn4) (m1:M),C f args m=some (out,m1) →
 Fr m m1 ∧ ∀(k:Nat) (b:Blk),m1.get k=none→m1.nxt≤k→C f args (m.set k b)=some (out,m1.set k b)
def JgR (ev:Ev):Prop := ∀(c:Code) (a:Act) (m:M) (e:Out) (a1:Act) (m1:M),ev c a m=some (e,a1,m1) →
 Fr m m1 ∧ ∀(k:Nat) (b:Blk),m1.get k=none→m1.nxt≤k→ev c a (m.set k b)=some (e,a1,m1.set k b)
def Tr.put (t:Tr) (k:Nat) (b:Blk):Tr:=Tr.set b (k+1) k t
theorem Jkn {C : JbL} (hC : Jd2 C) (ops : Array Oper) : ∀ (l : List Nat) {a : Act} {m : M} {e : Out} {a1 : Act} {m1 : M}, Q5 P C ops l a m = some (e, a1, m1) →
  Fr m m1 ∧ ∀(k:Nat) (b:Blk),m1.get k=none→m1.nxt≤k→Q5 P C ops l a (m.set k b)=some (e,a1,m1.set k b):=by
 intro l;induction l with
 | nil=>
  intro a m e a1 m1 h;simp only [Q5,Jg,Jm] at h;obtain ⟨rfl,rfl,rfl⟩:=h;exact ⟨Fr.refl _,fun k b _ _=>rfl⟩
 | cons i rest ih =>
  intro a m e a1 m1 h;simp only [Q5] at h ⊢;cases ho:ops[i]? with
  | none=>rw [ho] at h;cases h
  | some o =>
   rw [ho] at h;dsimp only at h ⊢;split at h
   ·rename_i hw;split at h
    ·rename_i hok;have step : ∀ {r : Res} (hi : iop P a.eval o m = some r) {a2 : Act}, Q5 P C ops rest a2 r.mem = some (e, a1, m1) →
       Fr m m1 ∧ ∀(k:Nat) (b:Blk),m1.get k=none→m1.nxt≤k→iop P a.eval o (m.set k b)=some (r.ins k b)∧Q5 P C ops rest a2 (r.mem.set k b)=some (e,a1,m1.set k b):=by
      intro r hi a2 hr;obtain ⟨f1,f2⟩:=ih hr;refine ⟨(Jad (k:=0) (b:=⟨.cells #[] 0,0,false,false,false⟩) hi).1.trans f1,fun k b hk hl=>⟨(Jad hi).2 (f1.dom k hk) (Jy f1.nxt hl),f2 k b hk hl⟩⟩
     cases hi:iop P a.eval o m with
     | none=>rw [hi] at h;cases h
     | some r=>
      rw [hi] at h;cases r with
      | val v m2=>
       obtain ⟨f1,f2⟩:=step hi h;refine ⟨f1,fun k b hk hl => ?_⟩;obtain ⟨g1,g2⟩:=f2 k b hk hl;rw [Jf hw,Jf hok,g1];exact g2
      | skip m2=>
       obtain ⟨f1,f2⟩:=step hi h;refine ⟨f1,fun k b hk hl => ?_⟩;obtain ⟨g1,g2⟩:=f2 k b hk hl;rw [Jf hw,Jf hok,g1];exact g2
      | dfr d m2=>
       obtain ⟨f1,f2⟩:=step hi h;refine ⟨f1,fun k b hk hl => ?_⟩;obtain ⟨g1,g2⟩:=f2 k b hk hl;rw [Jf hw,Jf hok,g1];exact g2
      | call f args m2=>
       dsimp only at h;have g0:=fun k b=>Jad (k:=k) (b:=b) hi
       split at h
       ·rename_i v m3 hc;obtain ⟨f1,f2⟩:=hC _ _ _ _ _ hc;obtain ⟨f3,f4⟩:=ih h;refine ⟨((g0 0 ⟨.cells #[] 0,0,false,false,false⟩).1.trans f1).trans f3,fun k b hk hl => ?_⟩;have k3:=f3.dom k hk;have l3:=Jy f3.nxt hl;rw [Jf hw,Jf hok,(g0 k b).2 (f1.dom k k3) (Jy f1.nxt l3)];simp only [Res.ins];rw [f2 k b k3 l3];exact f4 k b hk hl
       ·rename_i v m3 hc;obtain ⟨f1,f2⟩:=hC _ _ _ _ _ hc;cases h;refine ⟨((g0 0 ⟨.cells #[] 0,0,false,false,false⟩).1.trans f1),fun k b hk hl => ?_⟩;rw [Jf hw,Jf hok,(g0 k b).2 (f1.dom k hk) (Jy f1.nxt hl)];simp only [Res.ins];rw [f2 k b hk hl]
       ·cases h
      | pnc v m2=>
       cases h;have g0:=fun k b=>Jad (k:=k) (b:=b) hi
       refine ⟨(g0 0 ⟨.cells #[] 0,0,false,false,false⟩).1,fun k b hk hl => ?_⟩;rw [Jf hw,Jf hok,(g0 k b).2 hk hl];simp only [Res.ins]
    ·cases h
   ·rename_i hw;obtain ⟨f1,f2⟩:=ih h;refine ⟨f1,fun k b hk hl => ?_⟩;rw [Jd hw];exact f2 k b hk hl
theorem JoB {t:Tr} {k b:Nat} {x:Blk} (hk:Tr.get t (k+1) k=none) (h:JmU t b=true):JmU (t.put k x) b=true:=by
 unfold JmU at h ⊢;have hne:b≠k:=by
  intro e;subst e;have:(⟨t,0,0⟩:M).get b=none:=hk
  rw [this] at h;cases h
 have:(⟨t.put k x,0,0⟩:M).get b=(⟨t,0,0⟩:M).get b:=by
  change ((⟨t,0,0⟩:M).set k x).get b=_
  rw [M.get_set,Jd (Ne.symm hne)]
 rw [this];exact h
theorem Jq3 {av:List Nat} {ev:Operand→Value} {o:Oper} {t:Tr} {k:Nat} {x:Blk} (hk:Tr.get t (k+1) k=none) (h:JjJ av ev o t=true):JjJ av ev o (t.put k x)=true:=by
 unfold JjJ at h ⊢;cases hav:av.isEmpty with
 | true=>rfl
 | false=>
  rw [hav] at h;simp only [Bool.false_or] at h ⊢;split at h
  ·split at h
   ·rw [Jh] at h ⊢;exact ⟨h.1,JoB hk h.2⟩
   ·cases h
  ·rfl
theorem Jdb {C : JbL} (hC : Jd2 C) {av : List Nat} {n0 β : Nat} {fl wd : Bool} {o : Oper} {ev : Operand → Value} {k : Nat} {t t' : Tr} {v : Value} {e : Nat} (h : opD P C av n0 β fl wd o ev k t = some (v, t', e)) :
  Fr ⟨t,k,if fl then k else β⟩ ⟨t',e,if fl then k else β⟩ ∧ ∀(k':Nat) (b:Blk),Tr.get t' (k'+1) k'=none→e≤k'→opD P C av n0 β fl wd o ev k (t.put k' b)=some (v,t'.put k' b,e):=by
 unfold opD at h ⊢;split at h
 ·rename_i hw;split at h
  ·rename_i hok;have hst : ∀{t1:Tr} {k1:Nat},Fr ⟨t,k,if fl then k else β⟩ ⟨t1,k1,if fl then k else β⟩ → ∀(k':Nat) (b:Blk),Tr.get t1 (k'+1) k'=none→(JjL o && (!fl || JbX ev o n0) && JjJ av ev o (t.put k' b))=true:=by
    intro t1 k1 hf k' b hk;rw [Jh] at hok ⊢;exact ⟨hok.1,Jq3 (hf.dom k' hk) hok.2⟩
   have g0:=fun {r:Res} (hi:iop P ev o ⟨t,k,if fl then k else β⟩=some r) k b=>Jad (k:=k) (b:=b) hi
   have mk : ∀{m1:M},Fr ⟨t,k,if fl then k else β⟩ m1→Fr ⟨t,k,if fl then k else β⟩ ⟨m1.tr,m1.nxt,if fl then k else β⟩:=by
    intro m1 hf;have:=hf.bar
    dsimp only at this;rw [←this];rw [this];exact ⟨rfl,hf.nxt,hf.dom,hf.wf,hf.look⟩
   split at h
   ·rename_i v2 m1 hi;cases h;refine ⟨mk (g0 hi 0 ⟨.cells #[] 0,0,false,false,false⟩).1,fun k' b hk hl => ?_⟩;rw [Jf hw,Jf (hst (mk (g0 hi 0 ⟨.cells #[] 0,0,false,false,false⟩).1) k' b hk)];have:=(g0 hi k' b).2 hk hl
    change iop P ev o ⟨t.put k' b,k,if fl then k else β⟩=_ at this
    rw [this];rfl
   ·rename_i m1 hi;cases h;refine ⟨mk (g0 hi 0 ⟨.cells #[] 0,0,false,false,false⟩).1,fun k' b hk hl => ?_⟩;rw [Jf hw,Jf (hst (mk (g0 hi 0 ⟨.cells #[] 0,0,false,false,false⟩).1) k' b hk)];have:=(g0 hi k' b).2 hk hl
    change iop P ev o ⟨t.put k' b,k,if fl then k else β⟩=_ at this
    rw [this];rfl
   ·rename_i f args m1 hi;split at h
    ·rename_i v2 m2 hc;cases h;obtain ⟨f1,f2⟩:=hC _ _ _ _ _ hc;refine ⟨mk ((g0 hi 0 ⟨.cells #[] 0,0,false,false,false⟩).1.trans f1),fun k' b hk hl => ?_⟩;rw [Jf hw,Jf (hst (mk ((g0 hi 0 ⟨.cells #[] 0,0,false,false,false⟩).1.trans f1)) k' b hk)];have:=(g0 hi k' b).2 (f1.dom k' hk) (Jy f1.nxt hl)
     change iop P ev o ⟨t.put k' b,k,if fl then k else β⟩=_ at this
     rw [this];simp only [Res.ins];rw [f2 k' b hk hl];rfl
    ·cases h
   ·cases h
  ·cases h
 ·rename_i hw;cases h;exact ⟨Fr.refl _,fun k' b _ _=>by rw [Jd hw]⟩
theorem Fr.bars {t t':Tr} {k e β γ:Nat} (h:Fr ⟨t,k,γ⟩ ⟨t',e,γ⟩) (hle:β≤γ) (hk:γ≤k):Fr ⟨t,k,β⟩ ⟨t',e,β⟩:=
 ⟨rfl,h.nxt,h.dom,h.wf,fun w _ i hi=>h.look w hk i (Jt hi hle)⟩
theorem JoE {C : JbL} (hC : Jd2 C) (ops : Array Oper) {β : Nat} {fl : Nat → Bool} {ff : Nat → Option Nat} {lf : Nat → List Nat} : ∀ (l : List Nat) {ss : Nat → Nat} {tt : Nat → Option Nat} {a : Act} {k : Nat} {t : Tr} {a1 : Act} {k1 : Nat} {t1 : Tr}, β ≤ k → JjK P C ops β fl ff lf l ss tt a k t = some (a1, k1, t1) →
  Fr ⟨t,k,β⟩ ⟨t1,k1,β⟩ ∧ ∀(k':Nat) (b:Blk),Tr.get t1 (k'+1) k'=none→k1≤k'→JjK P C ops β fl ff lf l ss tt a k (t.put k' b)=some (a1,k1,t1.put k' b):=by
 intro l;induction l with
 | nil=>
  intro ss tt a k t a1 k1 t1 hk h;simp only [JjK,Jg,Jm] at h;obtain ⟨rfl,rfl,rfl⟩:=h;exact ⟨Fr.refl _,fun k b _ _=>rfl⟩
 | cons i rest ih=>
  intro ss tt a k t a1 k1 t1 hk h;simp only [JjK] at h ⊢;cases ho:ops[i]? with
  | none=>rw [ho] at h;cases h
  | some o=>
   rw [ho] at h;dsimp only at h ⊢;split at h
   ·rename_i v t2 k2 hd;obtain ⟨g1,g2⟩:=Jdb hC hd;have hn:k≤k2:=g1.nxt;obtain ⟨f1,f2⟩:=ih (Jy hk hn) h;have g1':Fr ⟨t,k,β⟩ ⟨t2,k2,β⟩:=g1.bars (by split <;> omega) (by split <;> omega)
    refine ⟨g1'.trans f1,fun k' b hk' hl => ?_⟩;have f1n:k2≤k1:=f1.nxt;rw [g2 k' b (f1.dom k' hk') (by omega)];exact f2 k' b hk' hl
   ·cases h
theorem JiF {C:JbL} (hC:Jd2 C) (ops:Array Oper) {a:Act} {m:M} {e:Out} {a1:Act} {m1:M} (h:Jb0 P C ops a m=some (e,a1,m1)) :
  Fr m m1 ∧ ∀(k:Nat) (b:Blk),m1.get k=none→m1.nxt≤k→Jb0 P C ops a (m.set k b)=some (e,a1,m1.set k b):=by
 unfold Jb0 at h ⊢;split at h
 ·rename_i hok;dsimp only at h ⊢;split at h
  ·rename_i a2 k1 t1 hr;cases h;have hb:m.bar≤m.nxt:=by simp only [Jh,decide_eq_true_eq] at hok;exact hok.2
   obtain ⟨f1,f2⟩:=JoE hC ops _ hb hr;refine ⟨f1,fun k b hk hl => ?_⟩;have:=f2 k b hk hl
   change JjK P C ops m.bar (Jch P ops (QH ops.toList [])) (XQ P ops (QH ops.toList [])) (Jcc P ops (QH ops.toList [])) (List.range ops.size) (fun _=>0) (fun _=>none) a m.nxt (m.set k b).tr=_ at this
   rw [Jf (by exact hok)];simp only [M.nxt_set,M.bar_set];rw [this];rfl
  ·cases h
 ·cases h
theorem Ji0 {tmps:Array Value} {m:M} {r:ResultVar} {v:Value} {k:Nat} {b:Blk} (hk:m.get k=none) (h:JcX P tmps m r=some v):JcX P tmps (m.set k b) r=some v:=by
 cases r with
 | tmp t=>exact h
 | cell a t=>exact Jfs hk h
theorem JcI {tmps:Array Value} {m:M} {k:Nat} {b:Blk} (hk:m.get k=none) : ∀(l:List ResultVar) {vs:List Value},Xg P tmps m l=some vs→Xg P tmps (m.set k b) l=some vs:=by
 intro l;induction l with
 | nil=>intro vs h;exact h
 | cons r l ih=>
  intro vs h;simp only [Xg] at h ⊢;split at h
  ·rename_i v vs0 h1 h2;cases h;rw [Ji0 hk h1,ih h2]
  ·cases h
theorem Jdl {fn:Func} {tmps:Array Value} {m:M} {v:Value} {k:Nat} {b:Blk} (hk:m.get k=none) (h:Qq P fn tmps m=some v):Qq P fn tmps (m.set k b)=some v:=by
 unfold Qq at h ⊢;split at h
 ·rename_i v2 h1;rw [JcI hk _ h1];exact h
 ·rename_i l hne h1;rw [JcI hk _ h1];cases h;split
  ·rename_i v3 h3;cases h3;exact absurd rfl (hne v3)
  ·rename_i h3;cases h3;rfl
  ·rename_i h3;cases h3
 ·cases h
theorem Jgx {ev : Ev} (hev : JgR ev) {f : FuncId} {args : Array Value} {u u1 : DM} {m m1 : M} (h : Jji P ev f args u m = some (u1, m1)) :
  Fr m m1 ∧ ∀(k:Nat) (b:Blk),m1.get k=none→m1.nxt≤k→Jji P ev f args u (m.set k b)=some (u1,m1.set k b):=by
 unfold Jji at h ⊢;split at h
 ·rename_i fn hfn;split at h
  ·rename_i c hc;split at h
   ·cases h
   ·rename_i hname;have key : ∀ (c2 : Code) (a0 : Act) (u2 : DM), (match (ev c2 a0 m, u2) with
      | (some (.normal,a,m1),u1) | (some (.ret,a,m1),u1)=>match a.defers,Qq P fn a.tmps m1 with
       | [],some _=>some (XJ u1,m1)
       | _,_=>none
      | _=>none)=some (u1,m1)→Fr m m1 ∧ ∀(k:Nat) (b:Blk),m1.get k=none→m1.nxt≤k→(match (ev c2 a0 (m.set k b),u2) with
      | (some (.normal,a,m1),u1) | (some (.ret,a,m1),u1)=>match a.defers,Qq P fn a.tmps m1 with
       | [],some _=>some (XJ u1,m1)
       | _,_=>none
      | _=>none)=some (u1,m1.set k b):=by
     intro c2 a0 u2 h;cases hr:ev c2 a0 m with
     | none=>rw [hr] at h;cases h
     | some p=>
      obtain ⟨e,a,m2⟩:=p;rw [hr] at h;obtain ⟨f1,f2⟩:=hev _ _ _ _ _ _ hr;have fin:(match a.defers,Qq P fn a.tmps m2 with
       | [],some _=>some (XJ u2,m2)
       | _,_=>none)=some (u1,m1)→Fr m m1 ∧ ∀(k:Nat) (b:Blk),m1.get k=none→m1.nxt≤k→m2=m1∧(match a.defers,Qq P fn a.tmps (m1.set k b) with
       | [],some _=>some (XJ u2,m1.set k b)
       | _,_=>none)=some (u1,m1.set k b):=by
       intro h;split at h
       ·rename_i v hd hv;cases h;exact ⟨f1,fun k b hk hl=>⟨rfl,by rw [hd,Jdl hk hv]⟩⟩
       ·cases h
      cases e with
      | normal=>
       obtain ⟨g1,g2⟩:=fin h;refine ⟨g1,fun k b hk hl => ?_⟩;obtain ⟨rfl,g3⟩:=g2 k b hk hl;rw [f2 k b hk hl];exact g3
      | ret=>
       obtain ⟨g1,g2⟩:=fin h;refine ⟨g1,fun k b hk hl => ?_⟩;obtain ⟨rfl,g3⟩:=g2 k b hk hl;rw [f2 k b hk hl];exact g3
      | exit id=>cases h
      | pnc v=>cases h
    cases hrec:JaL c with
    | some p=>
     obtain ⟨d,rest⟩:=p;rw [hrec] at h;obtain ⟨g1,g2⟩:=key _ _ _ h;refine ⟨g1,fun k b hk hl => ?_⟩;rw [Jd hname];exact g2 k b hk hl
    | none=>
     rw [hrec] at h;obtain ⟨g1,g2⟩:=key _ _ _ h;refine ⟨g1,fun k b hk hl => ?_⟩;rw [Jd hname];exact g2 k b hk hl
  ·cases h
 ·cases h
theorem Jnj {ev : Ev} (hev : JgR ev) {fn : Func} {tmps : Array Value} : ∀ (ds : List Deferred) {u : DM} {m m1 : M} {out : Jn4}, Xu P ev fn tmps ds u m = some (out, m1) →
  Fr m m1 ∧ ∀(k:Nat) (b:Blk),m1.get k=none→m1.nxt≤k→Xu P ev fn tmps ds u (m.set k b)=some (out,m1.set k b):=by
 intro ds;induction ds with
 | nil=>
  intro u m m1 out h;cases u with
  | ret=>
   simp only [Xu,Ja,Jm] at h ⊢;obtain ⟨v,hv,rfl,rfl⟩:=h;exact ⟨Fr.refl _,fun k b hk hl=>⟨v,Jdl hk hv,rfl,rfl⟩⟩
  | pan v r=>
   cases r with
   | true=>simp [Xu] at h
   | false=>
    simp only [Xu,Jg,Jm] at h;obtain ⟨rfl,rfl⟩:=h;exact ⟨Fr.refl _,fun k b hk hl=>rfl⟩
 | cons d ds ih=>
  intro u m m1 out h;simp only [Xu] at h ⊢;split at h
  ·rename_i q cap ht;split at h
   ·rename_i u1 m2 hc;obtain ⟨f1,f2⟩:=Jgx hev hc;obtain ⟨f3,f4⟩:=ih h;refine ⟨f1.trans f3,fun k b hk hl => ?_⟩;rw [f2 k b (f3.dom k hk) (Jy f3.nxt hl)];exact f4 k b hk hl
   ·cases h
  ·cases h
variable [Orc P]
theorem Jbs {ev : Ev} (hev : JgR ev) : Jd2 (Ja8 P ev) := by
 intro f args m out m1 h;unfold Ja8 at h ⊢;split at h
 ·cases h;exact ⟨Fr.refl _,fun _ _ _ _=>rfl⟩
 split at h
 ·rename_i fn hfn;split at h
  ·rename_i c hc;cases hr:ev c (frame fn args) m with
   | none=>rw [hr] at h;cases h
   | some p=>
    obtain ⟨e,a,m2⟩:=p;rw [hr] at h;obtain ⟨f1,f2⟩:=hev _ _ _ _ _ _ hr;cases e with
    | normal | ret | pnc=>
     obtain ⟨f3,f4⟩:=Jnj hev _ h;refine ⟨f1.trans f3,fun k b hk hl => ?_⟩;rw [f2 k b (f3.dom k hk) (Jy f3.nxt hl)];exact f4 k b hk hl
    | exit=>cases h
  ·cases h
 ·cases h
theorem Jel : ∀ (n : Nat), JgR (E P n) := by
 intro n;induction n with
 | zero=>intro c a m e a1 m1 h;simp [E] at h
 | succ n ih=>
  have two : ∀{c1 c2:Code} {a a2:Act} {m m2 m1:M} {e e2:Out} {a1:Act},E P n c1 a m=some (e2,a2,m2)→E P n c2 a2 m2=some (e,a1,m1) →
    Fr m m1 ∧ ∀(k:Nat) (b:Blk),m1.get k=none→m1.nxt≤k→E P n c1 a (m.set k b)=some (e2,a2,m2.set k b)∧E P n c2 a2 (m2.set k b)=some (e,a1,m1.set k b):=by
   intro c1 c2 a a2 m m2 m1 e e2 a1 h1 h2;obtain ⟨f1,f2⟩:=ih _ _ _ _ _ _ h1;obtain ⟨f3,f4⟩:=ih _ _ _ _ _ _ h2;exact ⟨f1.trans f3,fun k b hk hl=>⟨f2 k b (f3.dom k hk) (Jy f3.nxt hl),f4 k b hk hl⟩⟩
  intro c a m e a1 m1 h;cases c with
  | skip=>simp only [E,Jg,Jm] at h ⊢;obtain ⟨rfl,rfl,rfl⟩:=h;exact ⟨Fr.refl _,fun k b _ _=>⟨rfl,rfl,rfl⟩⟩
  | label l=>simp only [E,Jg,Jm] at h ⊢;obtain ⟨rfl,rfl,rfl⟩:=h;exact ⟨Fr.refl _,fun k b _ _=>⟨rfl,rfl,rfl⟩⟩
  | exit id=>simp only [E,Jg,Jm] at h ⊢;obtain ⟨rfl,rfl,rfl⟩:=h;exact ⟨Fr.refl _,fun k b _ _=>⟨rfl,rfl,rfl⟩⟩
  | ret=>simp only [E,Jg,Jm] at h ⊢;obtain ⟨rfl,rfl,rfl⟩:=h;exact ⟨Fr.refl _,fun k b _ _=>⟨rfl,rfl,rfl⟩⟩
  | region id ops draw=>
   simp only [E] at h ⊢;cases draw with
   | true=>exact JiF (Jbs ih) ops h
   | false=>exact Jkn (Jbs ih) ops _ h
  | seq x y=>
   simp only [E] at h ⊢;split at h
   ·rename_i a2 m2 hb;obtain ⟨f1,f2⟩:=two hb h;refine ⟨f1,fun k b hk hl => ?_⟩;obtain ⟨g1,g2⟩:=f2 k b hk hl;rw [g1];exact g2
   ·rename_i hn;obtain ⟨f1,f2⟩:=ih _ _ _ _ _ _ h;refine ⟨f1,fun k b hk hl => ?_⟩;rw [f2 k b hk hl];cases e with
    | normal=>exact absurd h (hn a1 m1)
    | _=>rfl
  | loop y=>
   simp only [E] at h ⊢;split at h
   ·rename_i a2 m2 hb;obtain ⟨f1,f2⟩:=two hb h;refine ⟨f1,fun k b hk hl => ?_⟩;obtain ⟨g1,g2⟩:=f2 k b hk hl;rw [g1];exact g2
   ·rename_i hn;obtain ⟨f1,f2⟩:=ih _ _ _ _ _ _ h;refine ⟨f1,fun k b hk hl => ?_⟩;rw [f2 k b hk hl];cases e with
    | normal=>exact absurd h (hn a1 m1)
    | _=>rfl
  | cond c x y=>
   simp only [E] at h ⊢;split at h
   ·rename_i hok;simp only [hok,if_true];split at h
    ·rename_i bb hb;exact ih _ _ _ _ _ _ h
    ·cases h
   ·cases h
  | block id y=>
   simp only [E] at h ⊢;split at h
   ·rename_i id' a2 m2 hb;obtain ⟨f1,f2⟩:=ih _ _ _ _ _ _ hb;split at h
    ·rename_i hid;cases h;exact ⟨f1,fun k b hk hl=>by rw [f2 k b hk hl];dsimp only;rw [Jf hid]⟩
    ·rename_i hid;cases h;exact ⟨f1,fun k b hk hl=>by rw [f2 k b hk hl];dsimp only;rw [Jd hid]⟩
   ·rename_i hn;obtain ⟨f1,f2⟩:=ih _ _ _ _ _ _ h;refine ⟨f1,fun k b hk hl => ?_⟩;rw [f2 k b hk hl];cases e with
    | exit id'=>exact absurd h (hn id' a1 m1)
    | _=>rfl
  | _=>simp [E] at h
end Go.IM