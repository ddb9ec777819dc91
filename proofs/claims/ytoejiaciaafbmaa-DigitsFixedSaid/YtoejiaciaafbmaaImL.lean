/- The ideal machine, part L: every operation. -/
import Derived.Test.YtoejiaciaafbmaaImK
namespace Go.IM
open Go Go.RowKit

variable {P : Program} {B : Nat} {w0 : World} {ρ : Ren} {m m' : M} {w : World}

theorem copyLen_sound {x x' : Value} {n : Nat} (hx : VRel ρ x x') (hn : copyLen x = some n) : (Builtin.lenOf x').run P w = .ok n w := by
  cases x with
  | slice b l c =>
    simp [copyLen] at hn; subst hn
    cases b with
    | none => cases hx; simp [Builtin.lenOf]
    | some a => cases hx <;> simp [Builtin.lenOf]
  | string s => simp [copyLen] at hn; subst hn; cases hx; simp [Builtin.lenOf]
  | _ => simp [copyLen] at hn

theorem copyCells_sound (h : Inv P B w0 ρ m w) {size k n : Nat} {x x' : Value} {cs : Array Value} (hx : VRel ρ x x') (hn : copyLen x = some n) (hk : k ≤ n) (hc : copyCells size k m x = some cs) :
    ∃ cs', VsRel ρ cs cs' ∧ (Builtin.firstCells size k x').run P w = .ok cs' w ∧ (k = 0 → cs = #[]) := by
  unfold copyCells at hc
  split at hc
  · cases hc; cases hx; exact ⟨#[], VsRel.nil _, by simp [Builtin.firstCells], fun _ => rfl⟩
  · rename_i i o len cap
    split at hc
    · rename_i h0
      cases hc
      refine ⟨#[], VsRel.nil _, ?_, fun _ => rfl⟩
      rcases hx.slice_inv with ⟨r', cap', rfl, _⟩ | ⟨_, rfl, a', rfl⟩ <;> simp [Builtin.firstCells, h0, loadCells, loadCellsFrom]
    · rename_i h0
      obtain ⟨r, cs', hr, hle, hv, hsz, _, hrun⟩ := h.cells_sound hc
      refine ⟨cs', hv, ?_, fun e => absurd (by rw [e]; simp) h0⟩
      rcases hx.slice_inv with ⟨r', cap', rfl, hr', _⟩ | ⟨rfl, rfl, a', rfl⟩
      · rw [hr] at hr'; cases hr'; simp [Builtin.firstCells, hrun]
      · simp [copyLen] at hn; subst hn; exact absurd (by rw [show k = 0 by omega]; simp) h0
  · rename_i s
    split at hc
    · rename_i h1
      cases hc; cases hx
      exact ⟨_, VsRel.map _ _ _ (fun b => .int .u8 b.toNat), by simp [Builtin.firstCells], fun e => by rw [e]; simp⟩
    · cases hc
  · cases hc

theorem copy_sound (h : Inv P B w0 ρ m w) {ts : Array TypeId} {t ty : TypeId} {s s' x x' v : Value} (h0 : ts[0]? = some t) (hs : VRel ρ s s') (hx : VRel ρ x x') (ha : icopy P t s x m = some (v, m')) :
    ∃ v' w', (Builtin.copy_ ts ty #[s', x']).run P w = .ok v' w' ∧ Inv P B w0 ρ m' w' ∧ VRel ρ v v' := by
  unfold icopy at ha
  split at ha
  · rename_i e base dl cap hu
    split at ha
    · rename_i ti n hti hn
      split at ha
      · rename_i cs hcs
        have hlen := copyLen_sound (P := P) (w := w) hx hn
        obtain ⟨cs', hv, hfc, hz⟩ := copyCells_sound h hx hn (Nat.min_le_left n dl) hcs
        have hmm : Nat.min n dl = min n dl := rfl
        split at ha
        · rename_i hk
          cases ha
          have := hz hk
          subst this
          have hcs0 : cs' = #[] := Array.eq_empty_of_size_eq_zero (by rw [← hv.1]; rfl)
          subst hcs0
          obtain ⟨a', cap', rfl⟩ : ∃ a' cap', s' = .slice a' dl cap' := by
            cases hs <;> exact ⟨_, _, rfl⟩
          refine ⟨goInt 0, w, ?_, h, .int _ _⟩
          rw [hk] at hfc
          cases a' <;> simp [Builtin.copy_, h0, run_underlying hu, hlen, run_sizeOf hti, hmm, hfc, storeCells, hk]
        · rename_i hk
          split at ha
          · rename_i i o
            simp only [Option.map_eq_some_iff, Prod.mk.injEq] at ha
            obtain ⟨m1, hst, rfl, rfl⟩ := ha
            obtain ⟨r2, w', hr2, hb2, hrun, hinv, _⟩ := h.store_sound (vs' := cs'.toList) hst (by simpa using hv.1) (fun k x y hx hy => hv.2 k x y (by simpa using hx) (by simpa using hy))
            rcases hs.slice_inv with ⟨r', cap', rfl, hr', _⟩ | ⟨rfl, rfl, a', rfl⟩
            · rw [hr2] at hr'; cases hr'
              refine ⟨goInt (min n dl : Nat), w', ?_, hinv, .int _ _⟩
              rw [hb2, Nat.zero_add]
              simp [Builtin.copy_, h0, run_underlying hu, hlen, run_sizeOf hti, hmm, hfc, hrun]
            · exact absurd (by omega) hk
          · cases ha
      · cases ha
    · cases ha
  · cases ha

def DefRel (ρ : Ren) (d d' : Deferred) : Prop :=
  ∃ k c c', d.target = .fn (.func k) c ∧ d'.target = .fn (.func k) c' ∧ VsRel ρ c c' ∧ VsRel ρ d.args d'.args

theorem DefRel.mono {ρ ρ' : Ren} (hr : ρ.le ρ') {d d' : Deferred} (h : DefRel ρ d d') : DefRel ρ' d d' :=
  let ⟨k, c, c', h1, h2, h3, h4⟩ := h; ⟨k, c, c', h1, h2, h3.mono hr, h4.mono hr⟩

def ResRel (P : Program) (B : Nat) (w0 : World) (ρ : Ren) (w : World) (rr : Result Next) : Res → Prop
  | .val v m1 => ∃ v' w' ρ', rr = .ok (.value v') w' ∧ ρ.le ρ' ∧ Inv P B w0 ρ' m1 w' ∧ VRel ρ' v v'
  | .skip m1 => ∃ w' ρ', rr = .ok .skip w' ∧ ρ.le ρ' ∧ Inv P B w0 ρ' m1 w'
  | .dfr d m1 => ∃ d', rr = .ok (.defer d') w ∧ Inv P B w0 ρ m1 w ∧ DefRel ρ d d'
  | .call f args m1 => ∃ args', rr = .ok (.enter f args') w ∧ Inv P B w0 ρ m1 w ∧ VsRel ρ args args'
  | .pnc v m1 => ∃ v', rr = .halt (.panic v') w ∧ Inv P B w0 ρ m1 w ∧ VRel ρ v v'

theorem flat_sound (h : Inv P B w0 ρ m w) {ev ev' : Operand → Value} {o : Oper} {r : Res} (hev : ∀ x ∈ o.op.operands, VRel ρ (ev x) (ev' x)) (hsel : ∀ cs b, o.op ≠ .select cs b) (hf : iflat P ev o m = some r) :
    ResRel P B w0 ρ w ((execOp ev' o).run P w) r := by
  unfold iflat at hf
  split at hf
  · rename_i hfl
    split at hf
    · rename_i v hp
      split at hf
      · rename_i hv
        cases hf
        have e : execOp ev' o = execOp ev o := by
          refine execOp_congr o hsel fun x hx => ?_
          unfold opFlat at hfl
          rw [Array.all_eq_true'] at hfl
          exact flat_eq 4 (hfl x hx) (hev x hx)
        rw [e]
        exact ⟨v, w, ρ, pureSem_run _ _ hp w, Ren.le_refl _, h, flat_rel ρ 5 v hv⟩
      · cases hf
    · cases hf
  · cases hf

theorem VsRel.map_args {ρ : Ren} {ev ev' : Operand → Value} (l : Array Operand) (h : ∀ x ∈ l, VRel ρ (ev x) (ev' x)) : VsRel ρ (l.map ev) (l.map ev') := by
  refine ⟨by simp, fun i x y hx hy => ?_⟩
  rw [Array.getElem?_map] at hx hy
  cases hl : l[i]? with
  | none => rw [hl] at hx; cases hx
  | some z => rw [hl] at hx hy; cases hx; cases hy; exact h z (Array.mem_of_getElem? hl)

theorem PsRel.map_parts {ρ : Ren} {ev ev' : Operand → Value} : ∀ (l : List (Nat × Operand)), (∀ x ∈ l, VRel ρ (ev x.2) (ev' x.2)) → PsRel ρ (l.map fun (i, x) => (i, ev x)) (l.map fun (i, x) => (i, ev' x))
  | [], _ => trivial
  | (i, x) :: l, h => ⟨⟨rfl, h (i, x) (by simp)⟩, PsRel.map_parts l fun y hy => h y (by simp [hy])⟩

theorem run_builtin_val {b : Builtin} {ts : Array TypeId} {ty : TypeId} {cs : Array Bool} {args : Array Value} {s : Sem Value} {v : Value} {w' : World} (hb : builtin b ts ty cs args = (do pure (.value (← s)))) (hs : s.run P w = .ok v w') :
    (builtin b ts ty cs args).run P w = .ok (.value v) w' := by rw [hb]; simp [hs]

theorem VRel.func_inv {fn : Fn} {a c : Array Value} {x' : Value} (h : VRel ρ (.func fn a c) x') : ∃ a' c', x' = .func fn a' c' ∧ VsRel ρ a a' ∧ VsRel ρ c c' := by
  generalize hx : Value.func fn a c = x at h
  cases h <;> simp at hx
  rename_i h1 h2 h3 h4 h5
  obtain ⟨rfl, rfl, rfl⟩ := hx
  exact ⟨_, _, rfl, ⟨‹_›, ‹_›⟩, ⟨‹_›, ‹_›⟩⟩

theorem two_args {α : Type} {l : Array α} {f : α → Value} {a b : α} (h : l.size = 2) (h0 : l[0]? = some a) (h1 : l[1]? = some b) : l.map f = #[f a, f b] := by
  have e : l = #[a, b] := by
    refine Array.ext (by simp [h]) fun i h2 h3 => ?_
    rcases i with _ | _ | i
    · have := (Array.getElem?_eq_some_iff.1 h0).2; simpa using this
    · have := (Array.getElem?_eq_some_iff.1 h1).2; simpa using this
    · simp at h3; omega
  rw [e]; simp

theorem call_sound (h : Inv P B w0 ρ m w) {ev ev' : Operand → Value} {o : Oper} {c : Call} {r : Res} (ho : o.op = .call c) (hev : ∀ x ∈ o.op.operands, VRel ρ (ev x) (ev' x)) (hc : icall P ev o c m = some r) :
    ResRel P B w0 ρ w ((execOp ev' o).run P w) r := by
  have hsel : ∀ cs b, o.op ≠ .select cs b := by rw [ho]; intro cs b; simp
  have hargs : VsRel ρ (c.args.map ev) (c.args.map ev') := VsRel.map_args _ fun x hx => hev x (by rw [ho]; simp [Op.operands, Call.operands, hx])
  unfold icall at hc
  split at hc
  · rename_i f hcal
    have hf : VRel ρ (ev f) (ev' f) := hev f (by rw [ho]; simp [Op.operands, Call.operands, hcal])
    split at hc
    · rename_i k first captured hfe
      rw [hfe] at hf
      obtain ⟨a', c', hfe', hva, hvc⟩ := hf.func_inv
      split at hc
      · rename_i fn hfn
        split at hc
        · rename_i hb
          cases hc
          simp only [Bool.and_eq_true, Bool.not_eq_true'] at hb
          refine ⟨a' ++ c.args.map ev' ++ c', ?_, h, (hva.append hargs).append hvc⟩
          have hnb : fn.body.isNone = false := by cases hq : fn.body <;> simp_all
          have hnm : ¬ (fn.name = "runtime.NumGoroutine") := by simpa using hb.2
          have hbn : ¬ (fn.body = none) := by intro q; rw [q] at hnb; cases hnb
          simp [execOp, ho, resolve, hcal, hfe', Deferred.ofValue, invoke, callFunc, hfn, hnm, hbn]
        · exact flat_sound h hev hsel hc
      · cases hc
    · cases hc
  · rename_i hcal
    split at hc
    · rename_i b n cap e ha hu
      cases hc
      simp only [Option.map_eq_some_iff] at ha
      obtain ⟨x, hx, hxe⟩ := ha
      have hv : VRel ρ (ev x) (ev' x) := hev x (by rw [ho]; simp [Op.operands, Call.operands, Array.mem_of_getElem? hx])
      rw [hxe] at hv
      have hlen := copyLen_sound (P := P) (w := w) hv rfl
      obtain ⟨t, ht, hte⟩ : ∃ t, c.argTypes[0]? = some t ∧ P.underlying t = some (.slice e) := by
        cases hq : c.argTypes[0]? with
        | none => rw [hq] at hu; cases hu
        | some t => rw [hq] at hu; exact ⟨t, rfl, hu⟩
      have hx' : (c.args.map ev')[0]? = some (ev' x) := by simp [hx]
      obtain ⟨a', cap', he⟩ : ∃ a' cap', ev' x = .slice a' n cap' := by
        generalize ev' x = q at hv
        cases hv <;> exact ⟨_, _, rfl⟩
      refine ⟨goInt n, w, ρ, ?_, Ren.le_refl _, h, .int _ _⟩
      simp [execOp, ho, resolve, hcal, invoke, builtin, Builtin.len_, ht, hx, he, run_underlying hte]
    · exact flat_sound h hev hsel hc
  · rename_i hcal
    split at hc
    · rename_i s x t hs0 hx0 ht
      split at hc
      · rename_i hsz
        simp only [Option.map_eq_some_iff] at hc hs0 hx0
        obtain ⟨⟨v, m1⟩, happ, rfl⟩ := hc
        obtain ⟨xs, hxs, rfl⟩ := hs0
        obtain ⟨xx, hxx, rfl⟩ := hx0
        have hs := hev xs (by rw [ho]; simp [Op.operands, Call.operands, Array.mem_of_getElem? hxs])
        have hx := hev xx (by rw [ho]; simp [Op.operands, Call.operands, Array.mem_of_getElem? hxx])
        have hae : c.args.map ev' = #[ev' xs, ev' xx] := two_args hsz hxs hxx
        obtain ⟨v', w', ρ', h1, h2, h3, h4⟩ := append_sound (ty := o.type) h ht hs hx happ
        refine ⟨v', w', ρ', ?_, h2, h3, h4⟩
        simp [execOp, ho, resolve, hcal, invoke, hae, builtin, h1]
      · cases hc
    · cases hc
  · rename_i hcal
    split at hc
    · rename_i s x t hs0 hx0 ht
      split at hc
      · rename_i hsz
        simp only [Option.map_eq_some_iff] at hc hs0 hx0
        obtain ⟨⟨v, m1⟩, happ, rfl⟩ := hc
        obtain ⟨xs, hxs, rfl⟩ := hs0
        obtain ⟨xx, hxx, rfl⟩ := hx0
        have hs := hev xs (by rw [ho]; simp [Op.operands, Call.operands, Array.mem_of_getElem? hxs])
        have hx := hev xx (by rw [ho]; simp [Op.operands, Call.operands, Array.mem_of_getElem? hxx])
        have hae : c.args.map ev' = #[ev' xs, ev' xx] := two_args hsz hxs hxx
        obtain ⟨v', w', h1, h3, h4⟩ := copy_sound (ty := o.type) h ht hs hx happ
        refine ⟨v', w', ρ, ?_, Ren.le_refl _, h3, h4⟩
        simp [execOp, ho, resolve, hcal, invoke, hae, builtin, h1]
      · cases hc
    · cases hc
  · cases hc
  · cases hc
  · exact flat_sound h hev hsel hc
  · cases hc

end Go.IM
