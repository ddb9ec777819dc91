/- The ideal machine, part N: every operation, there and here. -/
import Derived.Test.YtoejiaciaafbmaaImL
namespace Go.IM
open Go Go.RowKit

variable {P : Program} {B : Nat} {w0 : World} {ρ : Ren} {m m' : M} {w : World}

theorem opt_args {ev ev' : Operand → Value} {l : Option Operand} (h : ∀ x, l = some x → VRel ρ (ev x) (ev' x)) : (∀ v v', l.map ev = some v → l.map ev' = some v' → VRel ρ v v') ∧ (l.map ev).isSome = (l.map ev').isSome := by
  cases l with
  | none => exact ⟨fun v v' h1 => by simp at h1, rfl⟩
  | some x => exact ⟨fun v v' h1 h2 => by simp at h1 h2; subst h1; subst h2; exact h x rfl, rfl⟩

theorem eqNil_guard {op : BinOp} {xo yo : Operand} {t : TypeId} {x y x' y' : Value} {b : Bool} (hx : VRel ρ x x') (hy : VRel ρ y y') (h : ieqNil P t x y = some b) : eqGuard op t xo yo x' y' = pure () := by
  unfold ieqNil at h
  split at h <;> cases h <;> cases hx <;> (try cases hy) <;> cases op <;> rfl

theorem binOp_eq_nil {op : BinOp} (hop : op = .eql ∨ op = .neq) {t : TypeId} {x y x' y' : Value} {b : Bool} (hx : VRel ρ x x') (hy : VRel ρ y y') (h : ieqNil P t x y = some b) (w : World) :
    (binOp op t x' y').run P w = .ok (.bool (if op = .eql then b else !b)) w := by
  have hr := eqNil_sound (w := w) hx hy h
  have hb : binOp op t x' y' = if op = .eql then (do pure (.bool (← Op.equal t x' y'))) else (do pure (.bool (!(← Op.equal t x' y')))) := by
    unfold ieqNil at h
    rcases hop with rfl | rfl <;> split at h <;> cases h <;> cases hx <;> (try cases hy) <;> rfl
  rw [hb]
  rcases hop with rfl | rfl <;> simp [hr]

theorem mark_sound (h : Inv P B w0 ρ m w) {i o : Nat} {b : Blk} {c : Array Value} {e : TypeId} {fr : Nat × Nat} {r : RE} (ha : m.alive i = some b) (hobj : b.obj = .cells c e fr) (hro : b.ro = false) (hr : ρ i = some r) :
    ∃ w', (markStringish ⟨r.g, o, none⟩).run P w = .ok () w' ∧ Inv P B w0 ρ m w' := by
  have hh := h.holds i b r ha hr
  unfold Holds at hh
  rw [hobj] at hh
  obtain ⟨_, _, c', e', fr', h3, _, _, _, h7⟩ := hh
  obtain ⟨k1, k2, k3, k4⟩ := h7 hro
  have hlt : r.g < w.heap.size := (Array.getElem?_eq_some_iff.1 h3).1
  have hrun : (markStringish ⟨r.g, o, none⟩).run P w = .ok () (w.freeze ⟨r.g, c'.size, none⟩ 1) := by
    have : w.shape? r.g = some (e', c'.size) := by simp [World.shape?, h3]
    simp [markStringish, this]
  have hoth : ∀ k, k ≠ r.g → (w.freeze ⟨r.g, c'.size, none⟩ 1).heap[k]? = w.heap[k]? := by
    intro k hk
    simp [World.freeze, Array.getElem?_modify, Ne.symm hk]
  have hself : ∃ fr2 : Nat × Nat, (w.freeze ⟨r.g, c'.size, none⟩ 1).heap[r.g]? = some (.cells c' e' fr2) ∧ c'.size ≤ fr2.1 := by
    obtain ⟨lo, hi⟩ := fr'
    refine ⟨if lo == hi then (c'.size, c'.size + 1) else (min lo c'.size, max hi (c'.size + 1)), ?_, ?_⟩
    · simp [World.freeze, Array.getElem?_modify, h3]
    · rcases k4 with k4 | k4
      · cases k4; simp
      · dsimp only at k4
        split
        · exact Nat.le_refl _
        · dsimp only; omega
  obtain ⟨fr2, hs1, hs2⟩ := hself
  refine ⟨_, hrun, ⟨h.below.trans ⟨rfl, rfl, rfl, by simp [World.freeze], fun k hk => hoth k (by omega)⟩, h.size, h.dom, h.blk, ?_, h.roots, h.tip, h.sep, h.top, h.rosup⟩⟩
  intro j bj rj hj hrj
  have hh := h.holds j bj rj hj hrj
  by_cases hg : rj.g = r.g
  · unfold Holds at hh ⊢
    rw [hg] at hh ⊢
    rw [h3] at hh
    rw [hs1]
    split at hh
    · obtain ⟨p1, p2, cj, ej, frj, p3, p4, p5, p6, p7⟩ := hh
      cases p3
      exact ⟨p1, p2, c', e', fr2, rfl, p4, p5, p6, fun q => let ⟨s1, s2, s3, s4⟩ := p7 q; ⟨s1, s2, s3, .inr hs2⟩⟩
    · obtain ⟨_, _, es', p, _⟩ := hh; cases p
    · obtain ⟨_, _, p⟩ := hh; cases p
    · exact hh.elim
  · exact hh.of_block (hoth _ hg)

theorem convert_sound (h : Inv P B w0 ρ m w) {ev ev' : Operand → Value} {o : Oper} {src dst : TypeId} {x : Operand} {r : Res} (ho : o.op = .convert src dst x) (hev : ∀ x ∈ o.op.operands, VRel ρ (ev x) (ev' x))
    (hc : iconvert P ev o src dst (ev x) m = some r) : ResRel P B w0 ρ w ((execOp ev' o).run P w) r := by
  have hsel : ∀ cs b, o.op ≠ .select cs b := by rw [ho]; intro cs b; simp
  have hx : VRel ρ (ev x) (ev' x) := hev x (by rw [ho]; simp [Op.operands])
  unfold iconvert at hc
  split at hc
  · rename_i e s hs hd hxe
    split at hc
    · rename_i he
      split at hc
      · rename_i he1
        simp only [Option.map_eq_some_iff] at hc
        obtain ⟨⟨v, m1⟩, hb, rfl⟩ := hc
        rw [hxe] at hx
        obtain ⟨v', w', ρ', h1, h2, h3, h4⟩ := bytesOfStr_sound h hs hd he he1 hb
        refine ⟨v', w', ρ', ?_, h2, h3, h4⟩
        have : ev' x = .string s := by generalize ev' x = q at hx; cases hx; rfl
        simp [execOp, ho, this, h1]
      · cases hc
    · cases hc
  · rename_i e hs hd
    split at hc
    · rename_i he
      simp only [Option.map_eq_some_iff] at hc
      obtain ⟨v, hb, rfl⟩ := hc
      obtain ⟨v', h1, h2⟩ := stringOf_sound h hx hb
      refine ⟨v', w, ρ, ?_, Ren.le_refl _, h, h2⟩
      have hconv : (convert src dst (ev' x)).run P w = (Conv.bytesToString (ev' x)).run P w := by
        have : ∃ a l c, ev' x = .slice a l c := by
          unfold istringOf at hb
          split at hb
          · rename_i hq
            rw [hq] at hx
            generalize ev' x = q at hx
            cases hx; exact ⟨_, _, _, rfl⟩
          · rename_i hq
            rw [hq] at hx
            generalize ev' x = q at hx
            cases hx <;> exact ⟨_, _, _, rfl⟩
          · cases hb
        obtain ⟨a, l, c, hq⟩ := this
        rw [hq]
        exact run_convert_bytes_string w src dst e a l c hs he hd
      simp [execOp, ho, hconv, h1]
    · cases hc
  · rename_i e0 e a n c hs hd hxe
    split at hc
    · rename_i b hsd he hal
      split at hc
      · rename_i cc ce cfr hobj
        split at hc
        · cases hc
        · rename_i hcond
          cases hc
          obtain ⟨hro, hc0, hsp⟩ : b.ro = false ∧ c ≠ 0 ∧ a.spot = none := by
            refine ⟨?_, fun e => hcond (.inr (.inl e)), ?_⟩
            · cases q : b.ro with
              | false => rfl
              | true => exact absurd (.inl q) hcond
            · cases q : a.spot with
              | none => rfl
              | some => exact absurd (.inr (.inr (by rw [q]; rfl))) hcond
          obtain ⟨i, o, sp⟩ := a
          dsimp only at hsp hal
          subst hsp
          rw [hxe] at hx
          have hsd : src = dst := by simpa using hsd
          subst hsd
          rcases hx.slice_inv with ⟨r, c', hxe', hr, hl, hb, hcc⟩ | ⟨_, hz, _⟩
          · obtain ⟨w', hrun, hinv⟩ := mark_sound (o := r.base + o) h hal hobj hro hr
            refine ⟨.slice (some ⟨r.g, r.base + o, none⟩) n c', w', ρ, ?_, Ren.le_refl _, hinv, .slice hr hl hb hcc⟩
            have hconv : (convert src src (.slice (some ⟨r.g, r.base + o, none⟩) n c')).run P w = .ok (.slice (some ⟨r.g, r.base + o, none⟩) n c') w' := by
              rw [hs] at hd
              cases hd
              simp [convert, run_underlying hs, run_underlying he, hrun]
            simp [execOp, ho, hxe', hconv]
          · exact absurd hz hc0
      · cases hc
    · cases hc
  · exact flat_sound h hev hsel hc

theorem VRel.tuple_inv {a : Array Value} {x' : Value} (h : VRel ρ (.tuple a) x') : ∃ a', x' = .tuple a' ∧ VsRel ρ a a' := by
  generalize hx : Value.tuple a = x at h
  cases h <;> simp at hx
  obtain rfl := hx
  exact ⟨_, rfl, ⟨‹_›, ‹_›⟩⟩

/-- AN OPERATION: what the ideal machine comes to, the machine comes to. -/
theorem iop_sound (h : Inv P B w0 ρ m w) {ev ev' : Operand → Value} {o : Oper} {r : Res} (hev : ∀ x ∈ o.op.operands, VRel ρ (ev x) (ev' x)) (hi : iop P ev o m = some r) :
    ResRel P B w0 ρ w ((execOp ev' o).run P w) r := by
  unfold iop at hi
  split at hi
  · rename_i x ho
    cases hi
    exact ⟨ev' x, w, ρ, by simp [execOp, ho], Ren.le_refl _, h, hev x (by rw [ho]; simp [Op.operands])⟩
  · rename_i x ho
    cases hi
    exact ⟨ev' x, w, ρ, by simp [execOp, ho], Ren.le_refl _, h, hev x (by rw [ho]; simp [Op.operands])⟩
  · rename_i c a b ho
    have hc := hev c (by rw [ho]; simp [Op.operands])
    have ha := hev a (by rw [ho]; simp [Op.operands])
    have hb := hev b (by rw [ho]; simp [Op.operands])
    split at hi
    · rename_i t hct
      cases hi
      rw [hct] at hc
      have hct' : ev' c = .bool t := by generalize ev' c = q at hc; cases hc; rfl
      refine ⟨if t then ev' a else ev' b, w, ρ, by simp [execOp, ho, hct', asBool], Ren.le_refl _, h, ?_⟩
      cases t <;> assumption
    · cases hi
  · rename_i t ho
    split at hi
    · rename_i z hz
      simp only [Option.map_eq_some_iff] at hi
      obtain ⟨⟨a, m1⟩, hn, rfl⟩ := hi
      obtain ⟨v', w', ρ', h1, h2, h3, h4⟩ := alloc_sound h hz hn
      exact ⟨v', w', ρ', by simp [execOp, ho, h1], h2, h3, h4⟩
    · cases hi
  · rename_i t x ho
    simp only [Option.map_eq_some_iff] at hi
    obtain ⟨⟨a, m1⟩, hn, rfl⟩ := hi
    obtain ⟨v', w', ρ', h1, h2, h3, h4⟩ := box_sound (t := t) h (hev x (by rw [ho]; simp [Op.operands])) hn
    exact ⟨v', w', ρ', by simp [execOp, ho, h1], h2, h3, h4⟩
  · rename_i t parts ho
    simp only [Option.bind_eq_some_iff] at hi
    obtain ⟨v, hb, hi⟩ := hi
    split at hi
    · rename_i z hz
      cases hi
      have hp : PsRel ρ (parts.map fun (i, x) => (i, ev x)).toList (parts.map fun (i, x) => (i, ev' x)).toList := by
        simp only [Array.toList_map]
        exact PsRel.map_parts _ fun x hx => hev x.2 (by rw [ho]; simp only [Op.operands]; simp; exact ⟨x.1, by simpa using hx⟩)
      obtain ⟨v', h1, h2⟩ := build_sound (w := w) hp hz hb
      exact ⟨v', w, ρ, by simp only [execOp, ho, Sem.run_bind, h1]; rfl, Ren.le_refl _, h, h2⟩
    · cases hi
  · rename_i t len parts ho
    simp only [Option.map_eq_some_iff] at hi
    obtain ⟨⟨v, m1⟩, hb, rfl⟩ := hi
    have hp : PsRel ρ (parts.map fun (i, x) => (i, ev x)).toList (parts.map fun (i, x) => (i, ev' x)).toList := by
      simp only [Array.toList_map]
      exact PsRel.map_parts _ fun x hx => hev x.2 (by rw [ho]; simp only [Op.operands]; simp; exact ⟨x.1, by simpa using hx⟩)
    obtain ⟨v', w', ρ', h1, h2, h3, h4⟩ := buildSlice_sound h hp hb
    exact ⟨v', w', ρ', by simp only [execOp, ho, Sem.run_bind, h1]; rfl, h2, h3, h4⟩
  · rename_i t a ho
    simp only [Option.map_eq_some_iff] at hi
    obtain ⟨v, hl, rfl⟩ := hi
    obtain ⟨v', h1, h2⟩ := load_sound h (hev a (by rw [ho]; simp [Op.operands])) hl
    exact ⟨v', w, ρ, by simp [execOp, ho, h1], Ren.le_refl _, h, h2⟩
  · rename_i t a x ho
    simp only [Option.map_eq_some_iff] at hi
    obtain ⟨m1, hl, rfl⟩ := hi
    obtain ⟨w', h1, h2⟩ := store_sound h (hev a (by rw [ho]; simp [Op.operands])) (hev x (by rw [ho]; simp [Op.operands])) hl
    exact ⟨w', ρ, by simp [execOp, ho, h1], Ren.le_refl _, h2⟩
  · rename_i x ho
    have hx := hev x (by rw [ho]; simp [Op.operands])
    split at hi
    · cases hi
    · cases hi
    · cases hi
    · cases hi
    · rename_i n1 n2 n3 n4
      cases hi
      refine ⟨ev' x, w, ρ, ?_, Ren.le_refl _, h, hx⟩
      have key : ∀ v v', VRel ρ v v' → v ≠ .pointer none → v ≠ .nilIface → v ≠ .nilFunc → (∀ n a c, v ≠ .func (.method n) a c) →
          ((match v' with
            | .pointer none | .nilIface | .nilFunc => runtimePanic .nilDeref
            | .func (.method name) first captured =>
              match (first[0]? : Option Value) with
              | some .nilIface => runtimePanic .nilDeref
              | some (.iface t w) => do
                if (← nilAhead ((← program).types.size + Made.depth) t w name) != some false then
                  unsupported (.noEntry "op/nilCheck.the method's receiver behind this interface value is a nil pointer, or cannot be seen to be none, and the arguments act or may panic (ledger 612)")
                pure (.value (.func (.method name) first captured))
              | _ => pure (.value (.func (.method name) first captured))
            | x => pure (.value x) : Sem Next)).run P w = .ok (.value v') w := by
        intro v v' hv m1 m2 m3 m4
        cases hv <;> first | rfl | exact absurd rfl m1 | exact absurd rfl m2 | exact absurd rfl m3 | skip
        rename_i fn _ _ _ _ _ _ _ _ _
        cases fn <;> first | rfl | exact absurd rfl (m4 _ _ _)
      have := key (ev x) (ev' x) hx (by simpa using n1) (by simpa using n2) (by simpa using n3) (fun n a c => n4 n a c)
      simp only [execOp, ho]
      exact this
  · rename_i t x y yt ho
    have hx := hev x (by rw [ho]; simp [Op.operands])
    have hy := hev y (by rw [ho]; simp [Op.operands])
    split at hi
    · rename_i b hb
      cases hi
      have hr := binOp_eq_nil (.inl rfl) hx hy hb w
      have hg := eqNil_guard (op := .eql) (xo := x) (yo := y) hx hy hb
      exact ⟨.bool b, w, ρ, by simp [execOp, ho, hg, hr], Ren.le_refl _, h, .bool _⟩
    · exact flat_sound h hev (by rw [ho]; intro cs b; simp) hi
  · rename_i t x y yt ho
    have hx := hev x (by rw [ho]; simp [Op.operands])
    have hy := hev y (by rw [ho]; simp [Op.operands])
    split at hi
    · rename_i b hb
      cases hi
      have hr := binOp_eq_nil (.inr rfl) hx hy hb w
      have hg := eqNil_guard (op := .neq) (xo := x) (yo := y) hx hy hb
      exact ⟨.bool (!b), w, ρ, by simp [execOp, ho, hg, hr], Ren.le_refl _, h, .bool _⟩
    · exact flat_sound h hev (by rw [ho]; intro cs b; simp) hi
  · rename_i src dst x ho
    exact convert_sound h ho hev hi
  · rename_i t x ho
    split at hi
    · cases hi
    · cases hi
    · rename_i d hni hd
      cases hi
      refine ⟨.iface t (ev' x), w, ρ, ?_, Ren.le_refl _, h, .iface t (hev x (by rw [ho]; simp [Op.operands]))⟩
      have : (Instr.makeInterface t (ev' x)).run P w = .ok (.iface t (ev' x)) w := by
        simp only [Instr.makeInterface, Sem.run_bind, run_underlying hd, Result.andThen_ok]
        cases d <;> first | rfl | exact absurd hd (by simpa using hni _)
      simp [execOp, ho, this]
  · rename_i fn first captured ho
    split at hi
    · rename_i hst
      cases hi
      have h1 : VsRel ρ (first.map ev) (first.map ev') := VsRel.map_args _ fun x hx => hev x (by rw [ho]; simp [Op.operands, hx])
      have h2 : VsRel ρ (captured.map ev) (captured.map ev') := VsRel.map_args _ fun x hx => hev x (by rw [ho]; simp [Op.operands, hx])
      exact ⟨.func fn (first.map ev') (captured.map ev'), w, ρ, by simp [execOp, ho, Instr.makeFunc], Ren.le_refl _, h, .func fn hst h1.1 h2.1 h1.2 h2.2⟩
    · cases hi
  · rename_i t l c ho
    simp only [Option.map_eq_some_iff] at hi
    obtain ⟨⟨v, m1⟩, hb, rfl⟩ := hi
    obtain ⟨v', w', ρ', h1, h2, h3, h4⟩ := makeSlice_sound h (hev l (by rw [ho]; simp [Op.operands])) (hev c (by rw [ho]; simp [Op.operands])) hb
    exact ⟨v', w', ρ', by simp [execOp, ho, h1], h2, h3, h4⟩
  · rename_i t x lo hi' mx ho
    split at hi
    · rename_i v hs
      cases hi
      obtain ⟨a1, a2⟩ := opt_args (ρ := ρ) (ev := ev) (ev' := ev') (l := lo) fun y hy => hev y (by rw [ho]; simp [Op.operands, hy])
      obtain ⟨b1, b2⟩ := opt_args (ρ := ρ) (ev := ev) (ev' := ev') (l := hi') fun y hy => hev y (by rw [ho]; simp [Op.operands, hy])
      obtain ⟨c1, c2⟩ := opt_args (ρ := ρ) (ev := ev) (ev' := ev') (l := mx) fun y hy => hev y (by rw [ho]; simp [Op.operands, hy])
      obtain ⟨v', h1, h2⟩ := slice_sound h (hev x (by rw [ho]; simp [Op.operands])) a1 a2 b1 b2 c1 c2 hs
      exact ⟨v', w, ρ, by simp [execOp, ho, h1], Ren.le_refl _, h, h2⟩
    · exact flat_sound h hev (by rw [ho]; intro cs b; simp) hi
  · rename_i s x f ho
    simp only [Option.map_eq_some_iff] at hi
    obtain ⟨v, hl, rfl⟩ := hi
    obtain ⟨v', h1, h2⟩ := fieldAddr_sound (w := w) (hev x (by rw [ho]; simp [Op.operands])) hl
    exact ⟨v', w, ρ, by simp [execOp, ho, h1], Ren.le_refl _, h, h2⟩
  · rename_i s x f ho
    simp only [Option.map_eq_some_iff] at hi
    obtain ⟨v, hl, rfl⟩ := hi
    obtain ⟨v', h1, h2⟩ := field_sound (w := w) (hev x (by rw [ho]; simp [Op.operands])) hl
    exact ⟨v', w, ρ, by simp [execOp, ho, h1], Ren.le_refl _, h, h2⟩
  · rename_i t x ix ho
    simp only [Option.map_eq_some_iff] at hi
    obtain ⟨v, hl, rfl⟩ := hi
    obtain ⟨v', h1, h2⟩ := indexAddr_sound (w := w) (hev x (by rw [ho]; simp [Op.operands])) (hev ix (by rw [ho]; simp [Op.operands])) hl
    exact ⟨v', w, ρ, by simp [execOp, ho, h1], Ren.le_refl _, h, h2⟩
  · rename_i t x ix ho
    simp only [Option.map_eq_some_iff] at hi
    obtain ⟨v, hl, rfl⟩ := hi
    obtain ⟨v', h1, h2⟩ := index_sound (w := w) (hev x (by rw [ho]; simp [Op.operands])) (hev ix (by rw [ho]; simp [Op.operands])) hl
    exact ⟨v', w, ρ, by simp [execOp, ho, h1], Ren.le_refl _, h, h2⟩
  · rename_i x xt t ok ho
    have hx := hev x (by rw [ho]; simp [Op.operands])
    have ht : ∀ v v', VRel ρ v v' → VRel ρ (if ok = true then .tuple #[v, .bool true] else v) (if ok = true then .tuple #[v', .bool true] else v') := by
      intro v v' hv
      split
      · exact .tuple (VsRel.append (VsRel.one hv) (VsRel.one (.bool true))).1 (VsRel.append (VsRel.one hv) (VsRel.one (.bool true))).2
      · exact hv
    have hz : ∀ z, zeroOf P t = some z → (zeroValue t).run P w = .ok z w ∧ VRel ρ (.tuple #[z, .bool false]) (.tuple #[z, .bool false]) := by
      intro z hz
      obtain ⟨h1, h2, _⟩ := zeroOf_run hz w
      have := VsRel.append (VsRel.one (flat_rel ρ 3 z h2)) (VsRel.one (VRel.bool false))
      exact ⟨h1, .tuple this.1 this.2⟩
    split at hi
    · cases hi
    · rename_i d u v hni hd hxe
      rw [hxe] at hx
      obtain ⟨v', hxe', hv⟩ : ∃ v', ev' x = .iface u v' ∧ VRel ρ v v' := by
        generalize ev' x = q at hx
        cases hx; exact ⟨_, rfl, ‹_›⟩
      split at hi
      · rename_i hut
        cases hi
        subst hut
        refine ⟨_, w, ρ, ?_, Ren.le_refl _, h, ht v v' hv⟩
        have : (Instr.typeAssert (.iface u v') xt u ok).run P w = .ok (if ok = true then .tuple #[v', .bool true] else v') w := by
          simp only [Instr.typeAssert, Sem.run_bind, run_underlying hd, Result.andThen_ok]
          cases d <;> first | (simp; done) | exact (hni _ rfl).elim
        simp [execOp, ho, hxe', this]
      · rename_i hut
        split at hi
        · rename_i hok
          simp only [Option.map_eq_some_iff] at hi
          obtain ⟨z, hz0, rfl⟩ := hi
          obtain ⟨z1, z2⟩ := hz z hz0
          refine ⟨_, w, ρ, ?_, Ren.le_refl _, h, z2⟩
          have : (Instr.typeAssert (.iface u v') xt t ok).run P w = .ok (.tuple #[z, .bool false]) w := by
            simp only [Instr.typeAssert, Sem.run_bind, run_underlying hd, Result.andThen_ok]
            cases d <;> first | (simp [hut, hok, z1]; done) | exact (hni _ rfl).elim
          simp [execOp, ho, hxe', this]
        · cases hi
    · rename_i d hni hd hxe
      rw [hxe] at hx
      have hxe' : ev' x = .nilIface := by generalize ev' x = q at hx; cases hx; rfl
      split at hi
      · rename_i hok
        simp only [Option.map_eq_some_iff] at hi
        obtain ⟨z, hz0, rfl⟩ := hi
        obtain ⟨z1, z2⟩ := hz z hz0
        refine ⟨_, w, ρ, ?_, Ren.le_refl _, h, z2⟩
        have : (Instr.typeAssert .nilIface xt t ok).run P w = .ok (.tuple #[z, .bool false]) w := by
          simp only [Instr.typeAssert, Sem.run_bind, run_underlying hd, Result.andThen_ok]
          cases d <;> first | (simp [hok, z1]; done) | exact (hni _ rfl).elim
        simp [execOp, ho, hxe', this]
      · cases hi
    · cases hi
  · rename_i x ix ho
    have hx := hev x (by rw [ho]; simp [Op.operands])
    split at hi
    · rename_i vs hxe
      simp only [Option.map_eq_some_iff] at hi
      obtain ⟨v, hv, rfl⟩ := hi
      rw [hxe] at hx
      obtain ⟨vs', hxe', hvs⟩ := hx.tuple_inv
      obtain ⟨v', hv', hr⟩ := hvs.get hv
      exact ⟨v', w, ρ, by simp [execOp, ho, hxe', Instr.extract, hv'], Ren.le_refl _, h, hr⟩
    · cases hi
  · rename_i c ho
    exact call_sound h ho hev hi
  · rename_i c ho
    unfold idefer at hi
    split at hi
    · rename_i f hcal
      have hf : VRel ρ (ev f) (ev' f) := hev f (by rw [ho]; simp [Op.operands, Call.operands, hcal])
      split at hi
      · rename_i k first captured hfe
        cases hi
        rw [hfe] at hf
        obtain ⟨a', c', hfe', hva, hvc⟩ := hf.func_inv
        have hargs : VsRel ρ (c.args.map ev) (c.args.map ev') := VsRel.map_args _ fun x hx => hev x (by rw [ho]; simp [Op.operands, Call.operands, hx])
        exact ⟨{ target := .fn (.func k) c', args := a' ++ c.args.map ev' }, by simp [execOp, ho, resolve, hcal, hfe', Deferred.ofValue], h, ⟨k, captured, c', rfl, rfl, hvc, hva.append hargs⟩⟩
      · cases hi
    · cases hi
  · rename_i x ho
    have hx := hev x (by rw [ho]; simp [Op.operands])
    split at hi
    · rename_i t v hxe
      cases hi
      rw [hxe] at hx
      obtain ⟨v', hxe', hv⟩ : ∃ v', ev' x = .iface t v' ∧ VRel ρ v v' := by
        generalize ev' x = q at hx
        cases hx; exact ⟨_, rfl, ‹_›⟩
      exact ⟨.iface t v', by simp [execOp, ho, hxe', Instr.panic], h, .iface t hv⟩
    · cases hi
  · rename_i ho
    exact flat_sound h hev (by rw [ho]; intro cs b; simp) hi
  · rename_i ho
    exact flat_sound h hev (by rw [ho]; intro cs b; simp) hi
  · cases hi

end Go.IM
