/- The ideal machine: from what it answers to the row. -/
import Derived.Test.YtoejiaciaafbmaaImZb
set_option linter.unusedVariables false
set_option linter.unusedSimpArgs false
namespace Go.IM
open Go Go.RowKit Go.ChangeShapes Go.WideShapes Go.ChangeAt

variable {P : Program} {W : World} {H : Type} {enc : TypeId × Value → H}

/-- An argument, well formed. -/
def OkA (P : Program) (m : M) (f : Nat) (t : TypeId) (v : Value) : Prop :=
  match P.underlying t with
  | some (.struct _) | some (.array _ _) => ∃ cs, v = .agg cs ∧ OkV P m f t cs.toList
  | _ => OkV P m f t [v]
def OkArgs (P : Program) (m : M) (f : Nat) : List TypeId → List Value → Prop
  | [], [] => True
  | t :: ts, v :: vs => OkA P m f t v ∧ OkArgs P m f ts vs
  | _, _ => False

theorem OkA_ext {m m' : M} (he : Ext m m') {f : Nat} {t : TypeId} {v : Value} (h : OkA P m f t v) : OkA P m' f t v := by
  unfold OkA at h ⊢
  split at h
  · obtain ⟨cs, h1, h2⟩ := h; exact ⟨cs, h1, OkV_ext he f h2⟩
  · obtain ⟨cs, h1, h2⟩ := h; exact ⟨cs, h1, OkV_ext he f h2⟩
  · exact OkV_ext he f h

theorem plain_cells {base : Nat} {t : TypeId} {v : Value} (hs : ∀ fs, P.underlying t ≠ some (.struct fs)) (ha : ∀ n e, P.underlying t ≠ some (.array n e)) (h : Value.okWide P W .any base t v) : v.cells = #[v] := by
  unfold Value.okWide at h
  split at h
  · rename_i fs hu; exact absurd hu (hs fs)
  · rename_i n e hu; exact absurd hu (ha n e)
  · unfold Cell.okWide at h
    cases v with
    | agg cs => exfalso; split at h <;> first | (rename_i q; cases q; done) | (rename_i q _; cases q; done) | skip
                all_goals (unfold Cell.ok at h; split at h <;> first | (rename_i q; cases q; done) | (rename_i q _; cases q; done) | exact h)
    | tuple cs => exfalso; split at h <;> first | (rename_i q; cases q; done) | (rename_i q _; cases q; done) | skip
                  all_goals (unfold Cell.ok at h; split at h <;> first | (rename_i q; cases q; done) | (rename_i q _; cases q; done) | exact h)
    | _ => rfl

theorem opens_arg {f base : Nat} {t : TypeId} {v : Value} {d : DataW H} {ps : List MemPlace} (hd : DataW.Trod enc P W 0 (fun _ => true) true t v d ps) (hp : pureT P f t = true) (hv : Value.okWide P W .any base t v) (ρ : Ren) (m : M) (hI : Ini P W ρ m) :
    ∃ ρ' m' v0, ρ.le ρ' ∧ Ext m m' ∧ Ini P W ρ' m' ∧ VRel ρ' v0 v ∧ OkA P m' f t v0 := by
  obtain ⟨fuel, hd⟩ := hd
  obtain ⟨ρ', m', cs0, h1, h2, h3, h4, h5⟩ := (opens_of_trod fuel f hd hp).1 ρ m hI
  have agg : (∃ cs, v = .agg cs) → ∃ v0, v0 = Value.agg cs0.toArray ∧ VRel ρ' v0 v := by
    rintro ⟨cs, rfl⟩
    have := h4.vs
    have e : (Value.agg cs).cells.toList.toArray = cs := by simp [Value.cells]
    rw [e] at this
    exact ⟨_, rfl, .agg this.1 this.2⟩
  by_cases hagg : (∃ fs, P.underlying t = some (.struct fs)) ∨ (∃ n e, P.underlying t = some (.array n e))
  · have hv' : ∃ cs, v = .agg cs := by
      unfold Value.okWide at hv
      rcases hagg with ⟨fs, hu⟩ | ⟨n, e, hu⟩ <;> rw [hu] at hv <;> obtain ⟨cs, h, _⟩ := hv <;> exact ⟨cs, h⟩
    obtain ⟨v0, rfl, hrel⟩ := agg hv'
    refine ⟨ρ', m', _, h1, h2, h3, hrel, ?_⟩
    unfold OkA
    rcases hagg with ⟨fs, hu⟩ | ⟨n, e, hu⟩ <;> rw [hu] <;> exact ⟨_, rfl, by simpa using h5⟩
  · have hc := plain_cells (fun fs h => hagg (.inl ⟨fs, h⟩)) (fun n e h => hagg (.inr ⟨n, e, h⟩)) hv
    rw [hc] at h4
    cases cs0 with
    | nil => exact h4.elim
    | cons v0 r =>
      cases r with
      | cons => exact h4.2.elim
      | nil =>
        refine ⟨ρ', m', v0, h1, h2, h3, h4.1, ?_⟩
        unfold OkA
        split
        · rename_i fs hu; exact absurd (.inl ⟨fs, hu⟩) hagg
        · rename_i n e hu; exact absurd (.inr ⟨n, e, hu⟩) hagg
        · exact h5

theorem opens_args {f base : Nat} : ∀ {ts : List TypeId} {vs : List Value} {ds : List (DataW H)} {ps : List MemPlace}, DataW.TrodAll enc P W 0 (fun _ => true) true ts vs ds ps → (∀ (j : Nat) t v, ts[j]? = some t → vs[j]? = some v → Value.okWide P W .any base t v) → (∀ t ∈ ts, pureT P f t = true) →
    ∀ (ρ : Ren) (m : M), Ini P W ρ m → ∃ ρ' m' vs0, ρ.le ρ' ∧ Ext m m' ∧ Ini P W ρ' m' ∧ LRel ρ' vs0 vs ∧ OkArgs P m' f ts vs0 := by
  intro ts
  induction ts with
  | nil =>
    intro vs ds ps h _ _ ρ m hI
    cases vs with
    | nil => exact ⟨ρ, m, [], Ren.le_refl _, Ext.refl _, hI, trivial, trivial⟩
    | cons => cases ds <;> exact h.elim
  | cons t ts ih =>
    intro vs ds ps h hv hp ρ m hI
    cases vs with
    | nil => cases ds <;> exact h.elim
    | cons v vs =>
      cases ds with
      | nil => exact h.elim
      | cons d ds =>
        obtain ⟨p, q, hd, hA, _⟩ := h
        obtain ⟨ρ2, m2, vs0, b1, b2, b3, b4, b5⟩ := ih hA (fun j t' v' h1 h2 => hv (j + 1) t' v' (by simpa using h1) (by simpa using h2)) (fun t' ht => hp t' (by simp [ht])) ρ m hI
        obtain ⟨ρ1, m1, v0, a1, a2, a3, a4, a5⟩ := opens_arg hd (hp t (by simp)) (hv 0 t v rfl rfl) ρ2 m2 b3
        refine ⟨ρ1, m1, v0 :: vs0, Ren.le_trans b1 a1, b2.trans a2, a3, ⟨a4, b4.mono a1⟩, a5, ?_⟩
        have : ∀ {ts : List TypeId} {vs : List Value}, OkArgs P m2 f ts vs → OkArgs P m1 f ts vs := by
          intro ts
          induction ts with
          | nil => intro vs h; cases vs <;> exact h
          | cons t ts ih2 => intro vs h; cases vs with
            | nil => exact h
            | cons v vs => exact ⟨OkA_ext a2 h.1, ih2 h.2⟩
        exact this b5

theorem trodAll_below {W' : World} (hl : laidOutB P = true) (hb : Below W.heap.size W W') : ∀ {ts : List TypeId} {vs : List Value} {ds : List (DataW H)} {ps : List MemPlace}, DataW.TrodAll enc P W 0 (fun _ => true) true ts vs ds ps → (∀ t ∈ ts, P.readableRec t = true ∧ t < P.types.size) →
    (∀ x ∈ ps, x.block < W.heap.size) → DataW.TrodAll enc P W' 0 (fun b => decide (b < W.heap.size)) true ts vs ds ps := by
  intro ts
  induction ts with
  | nil => intro vs ds ps h _ _; cases vs <;> cases ds <;> exact h
  | cons t ts ih =>
    intro vs ds ps h hr hlt
    cases vs with
    | nil => cases ds <;> exact h.elim
    | cons v vs =>
      cases ds with
      | nil => exact h.elim
      | cons d ds =>
        obtain ⟨p, q, hd, hA, rfl⟩ := h
        exact ⟨p, q, Below.trod hl (hr t (by simp)).1 (hr t (by simp)).2 hd hb (fun x hx => hlt x (by simp [hx])), ih hA (fun t' ht => hr t' (by simp [ht])) (fun x hx => hlt x (by simp [hx])), rfl⟩

/-- What a law is to be shown: whatever it is handed, the ideal machine comes to 'true'. -/
def Law (P : Program) (f : FuncId) (fn : Func) (depth : Nat) : Prop :=
  ∀ (m : M) (vs : List Value), RoMem m → OkArgs P m depth fn.params.toList vs → ∃ n m1, callF P (E P n) f vs.toArray m = some (.ret (.bool true), m1)

theorem lifted {C : Checked} {os : Os} {f depth : Nat} {fn : Func} {s : ChangeSpec} {tb : TypeId} (own : ownKnob C.prog.godebug = none) (started : os.Started) (noInit : C.prog.inits.idxOf? f = none) (hfn : C.prog.funcs[f]? = some fn)
    (hl : laidOutB C.prog = true) (hvars : s.vars = []) (hs : ∀ (ds : List (DataW H)), ds.length = fn.params.size → s.fn H ds = { results := [.lit (.bool true)], args := ds })
    (hpure : (fn.params.toList.all fun t => pureT C.prog depth t && C.prog.readableRec t && decide (t < C.prog.types.size)) = true)
    (hres : fn.resultTypes = #[tb]) (htb : C.prog.underlying tb = some .bool)
    (witness : ∃ (w : World) (tape : Tape) (i : Input), w.os = os ∧ (w.forCall tape i).Shaped C.prog ∧ i.vars = [] ∧ Input.okWide C.prog (w.forCall tape i) .any w.heap.size f i ∧
      s.pre6 enc C.prog fn [] false (w.forCall tape i).memory i.args ∧ ({} : Assume).holds C.prog (lone (Frame.enter C.prog f i.args .normal) [] (w.forCall tape i)))
    (law : Law C.prog f fn depth) : ReturnsInHanded {} C os f .any (s.pre6 enc C.prog fn [] false) (s.post enc C.prog fn false true false false) := by
  refine returnsInHanded_of_change own started noInit hfn witness ?_
  intro W base args ds gs before hval hW hcnd _
  have hW' := hW
  obtain ⟨p, q, hA, hV, rfl, hfz, hnd⟩ := hW
  rw [hvars] at hV
  obtain ⟨rfl, rfl⟩ := trodVars_none hV
  simp only [List.all_eq_true, Bool.and_eq_true, decide_eq_true_eq] at hpure
  obtain ⟨ρ, m, vs0, h1, h2, h3, h4, h5⟩ := opens_args (f := depth) (base := base) hA (fun j t v ht hv => hval j t v (by simpa using ht) (by simpa using hv)) (fun t ht => (hpure t ht).1.1) (fun _ => none) ⟨.leaf, 0, 0⟩ Ini.nil
  obtain ⟨n, m1, hcall⟩ := law m vs0 h3.ro h5
  have hlen : ds.length = fn.params.size := by
    have : ∀ {ts : List TypeId} {vs : List Value} {ds : List (DataW H)} {ps : List MemPlace}, DataW.TrodAll enc C.prog W 0 (fun _ => true) true ts vs ds ps → ds.length = ts.length := by
      intro ts
      induction ts with
      | nil => intro vs ds ps h; cases vs <;> cases ds <;> first | rfl | exact h.elim
      | cons t ts ih =>
        intro vs ds ps h
        cases vs <;> cases ds <;> first | exact h.elim | skip
        obtain ⟨p, q, _, h, _⟩ := h
        simp [ih h]
    rw [this hA]; simp
  have hvs : VsRel ρ vs0.toArray args := by have := h4.vs; simpa using this
  refine (callE_sound n ρ m W f vs0.toArray args (.ret (.bool true)) m1 h3.inv h3.ro.wf hvs hcall).mono ?_
  rintro e W' ⟨ρ', hle, hI', he⟩
  cases he with
  | ret hv =>
    cases hv
    have hb := hI'.below
    refine ⟨.bool true, rfl, ds, [], p ++ [], [], p, [], hW', ?_, ?_, ?_, ?_, fun hq => (by cases hq)⟩
    · rw [List.append_nil, hs ds hlen, hres]
      exact trodAll_mk1 (shut_bool htb true)
    · rw [List.append_nil, hs ds hlen]
      exact trodAll_below hl hb hA (fun t ht => ⟨(hpure t ht).1.2, (hpure t ht).2⟩) hA.lt
    · rw [List.append_nil, hs ds hlen, hvars]; rfl
    · exact hb.frame _

end Go.IM
