/- An ideal machine, and a machine of values: part 4 of 4. Lemmas alone; no conditions. -/
import Derived.Test.YtoejiaciaafbmaaImM3
/- The value machine, part s: laws. -/
set_option linter.unusedVariables false
set_option linter.unusedSimpArgs false
set_option linter.constructorNameAsVariable false
namespace Go.IM.V
open Go Go.IM

variable {P : Program} {m : M}

/-- A datum, well formed. -/
def okE : (t : Ty) → t.El → Prop
  | .i k, n => (Lit.int k n).wf = true
  | .f k, n => (Lit.float k n).wf = true
  | .s, x => x.size ≤ maxLen
  | .l e, xs => xs.length ≤ maxLen ∧ ∀ x ∈ xs, okE e x
  | .p t1 t2, x => okE t1 x.1 ∧ okE t2 x.2
  | _, _ => True

theorem chunks_prod {ok : TypeId → List Value → Prop} {sz : TypeId → Nat} {S : Nat → Prop} : ∀ {ts : List TypeId} {l : List (Option Ty)} {tys : List Ty} {cs : List Value}, chunksOK ok sz ts cs → l.length = ts.length → optL l = some tys →
    (∀ (i : Nat) t ty, ts[i]? = some t → l[i]? = some (some ty) → ∀ cs, ok t cs → ∃ x : ty.El, repE P S m ty x cs ∧ okE ty x) → ∃ x : (prodT tys).El, repE P S m (prodT tys) x cs ∧ okE (prodT tys) x := by
  intro ts
  induction ts with
  | nil =>
    intro l tys cs hc hl ho hk
    cases l with
    | nil => cases ho; exact ⟨(), hc, trivial⟩
    | cons => simp at hl
  | cons t ts ih =>
    intro l tys cs hc hl ho hk
    cases l with
    | nil => simp at hl
    | cons o l =>
      cases o with
      | none => cases ho
      | some ty =>
        simp only [optL, Option.map_eq_some_iff] at ho
        obtain ⟨tys', h1, rfl⟩ := ho
        obtain ⟨x, h2, h3⟩ := hk 0 t ty rfl rfl _ hc.1
        obtain ⟨y, h4, h5⟩ := ih hc.2 (by simpa using hl) h1 (fun i t ty a b => hk (i + 1) t ty (by simpa using a) (by simpa using b))
        exact ⟨(x, y), ⟨_, _, (List.take_append_drop _ _).symm, h2, h4⟩, h3, h5⟩

theorem chunks_list {ok : TypeId → List Value → Prop} {sz : TypeId → Nat} {S : Nat → Prop} {e : TypeId} {ty : Ty} (he : sz e = ty.n) (hok : ∀ cs, ok e cs → ∃ x : ty.El, repE P S m ty x cs ∧ okE ty x) : ∀ {n : Nat} {cs : List Value}, chunksOK ok sz (List.replicate n e) cs →
    ∃ xs : List ty.El, xs.length = n ∧ cs.length = n * ty.n ∧ (∀ x ∈ xs, okE ty x) ∧ ∀ (k : Nat) (x : ty.El), xs[k]? = some x → repE P S m ty x ((cs.drop (k * ty.n)).take ty.n) := by
  intro n
  induction n with
  | zero => intro cs h; cases h; exact ⟨[], rfl, by simp, fun x hx => by simp at hx, fun k x hx => by simp at hx⟩
  | succ n ih =>
    intro cs h
    obtain ⟨h1, h2⟩ := h
    obtain ⟨x, h3, h4⟩ := hok _ h1
    obtain ⟨xs, h5, h6, h7, h8⟩ := ih h2
    rw [he] at h3 h6 h8
    have hl := repE_len h3
    rw [List.length_take] at hl
    rw [List.length_drop] at h6
    refine ⟨x :: xs, by simp [h5], by rw [Nat.add_mul, Nat.one_mul]; omega, fun y hy => ?_, fun k y hy => ?_⟩
    · rcases List.mem_cons.1 hy with rfl | hy
      · exact h4
      · exact h7 y hy
    · cases k with
      | zero => cases hy; rw [Nat.zero_mul, List.drop_zero]; exact h3
      | succ k =>
        have := h8 k y (by simpa using hy)
        rw [List.drop_drop] at this
        rw [Nat.add_mul, Nat.one_mul, Nat.add_comm]
        exact this

theorem okV_rep (hr : RoMem m) : ∀ (f : Nat) {n : Nat} {t : TypeId} {ty : Ty} {cs : List Value}, OkV P m f t cs → tyOf P n t = some ty → ∃ x : ty.El, repE P (fun _ => False) m ty x cs ∧ okE ty x := by
  intro f
  induction f with
  | zero => intro n t ty cs h; exact h.elim
  | succ f ih =>
    intro n t ty cs h ht
    cases n with
    | zero => cases ht
    | succ n =>
      unfold OkV at h
      unfold tyOf at ht
      split at h
      · rename_i hu; rw [hu] at ht; cases ht; obtain ⟨b, rfl⟩ := h; exact ⟨b, rfl, trivial⟩
      · rename_i k hu; rw [hu] at ht; cases ht; obtain ⟨b, rfl, hw⟩ := h; exact ⟨b, rfl, hw⟩
      · rename_i k hu; rw [hu] at ht; cases ht; obtain ⟨b, rfl, hw⟩ := h; exact ⟨b, rfl, hw⟩
      · rename_i hu; rw [hu] at ht; cases ht; obtain ⟨b, rfl, hw⟩ := h; exact ⟨b, rfl, hw⟩
      · rename_i e hu
        rw [hu] at ht
        simp only [Option.bind_eq_some_iff] at ht
        obtain ⟨te, h1, h2⟩ := ht
        split at h2
        · rename_i hc
          cases h2
          rcases h with rfl | ⟨i, rfl⟩ | ⟨i, len, cap, c, rfl, hc1, hc2, hc3, hc4, hc5⟩
          · exact ⟨([] : List te.El), ⟨_, rfl, .inl ⟨rfl, rfl⟩⟩, by simp, fun x hx => by simp at hx⟩
          · exact ⟨([] : List te.El), ⟨_, rfl, .inr ⟨i, 0, 0, rfl, Nat.le_refl _, .inl rfl⟩⟩, by simp, fun x hx => by simp at hx⟩
          · obtain ⟨xs, g1, g2, g3, g4⟩ := chunks_list (S := fun _ => False) hc.1 (fun cs hcs => ih hcs h1) hc5
            rw [Array.length_toList] at g2
            have hrow : m.row i = some (c, e) := by unfold M.row; rw [hr.alive hc4]; rfl
            have hlen : (xs.take len).length = len := by rw [List.length_take]; omega
            refine ⟨xs.take len, ⟨_, rfl, .inr ⟨i, 0, cap, by rw [hlen], by rw [hlen]; exact hc2, .inr ⟨c, e, hrow, fun w => w, hc.1, ?_, fun k x hx => ?_⟩⟩⟩, by rw [hlen]; omega, fun x hx => g3 x (List.mem_of_mem_take hx)⟩
            · rw [hlen, g2, Nat.zero_add]; exact Nat.mul_le_mul_right _ hc2
            · rw [List.getElem?_take] at hx
              split at hx
              · have := g4 k x hx
                rw [Nat.zero_add, ext_list, show k * te.n + te.n - k * te.n = te.n by omega]
                exact this
              · cases hx
        · cases h2
      · rename_i fs hu
        rw [hu] at ht
        simp only [Option.map_eq_some_iff] at ht
        obtain ⟨tys, h1, rfl⟩ := ht
        refine chunks_prod h (by simp) h1 (fun i t ty a b cs hcs => ?_)
        rw [List.getElem?_map] at a b
        cases hq : fs.toList[i]? with
        | none => rw [hq] at a; cases a
        | some fd =>
          rw [hq] at a b
          simp only [Option.map_some, Option.some.injEq] at a b
          subst a
          exact ih hcs b
      · rename_i k e hu
        rw [hu] at ht
        simp only [Option.map_eq_some_iff] at ht
        obtain ⟨te, h1, rfl⟩ := ht
        have hol : ∀ k, optL (List.replicate k (some te)) = some (List.replicate k te) := by
          intro k
          induction k with
          | zero => rfl
          | succ k ih => simp only [List.replicate_succ, optL]; rw [ih]; rfl
        refine chunks_prod h (l := List.replicate k (some te)) (by simp) (hol k) (fun i t ty a b cs hcs => ?_)
        rw [List.getElem?_replicate] at a b
        split at a
        · rename_i hi
          rw [if_pos hi] at b
          cases a; cases b
          exact ih hcs h1
        · cases a
      · exact h.elim

theorem okA_rep (hr : RoMem m) {f n : Nat} {t : TypeId} {ty : Ty} {v : Value} (h : OkA P m f t v) (ht : tyOf P n t = some ty) : ∃ x : ty.El, repS P ⟨fun _ => False, m, ⟨fun _ => none, fun _ => 0⟩, 0, []⟩ (s1Of ty x) v ∧ okE ty x := by
  have hag : (∃ fs, P.underlying t = some (.struct fs)) ∨ (∃ k e, P.underlying t = some (.array k e)) → ty.ag = true := by
    intro hu
    cases n with
    | zero => cases ht
    | succ n =>
      unfold tyOf at ht
      have hp : ∀ l : List Ty, (prodT l).ag = true := by intro l; cases l <;> rfl
      rcases hu with ⟨fs, hu⟩ | ⟨k, e, hu⟩ <;> rw [hu] at ht <;> simp only [Option.map_eq_some_iff] at ht
      · obtain ⟨_, _, rfl⟩ := ht; exact hp _
      · obtain ⟨_, _, rfl⟩ := ht; exact hp _
  have hnag : ty.ag = true → (∃ fs, P.underlying t = some (.struct fs)) ∨ (∃ k e, P.underlying t = some (.array k e)) := by
    intro hq
    cases n with
    | zero => cases ht
    | succ n =>
      unfold tyOf at ht
      split at ht
      · cases ht; cases hq
      · cases ht; cases hq
      · cases ht; cases hq
      · cases ht; cases hq
      · simp only [Option.bind_eq_some_iff] at ht
        obtain ⟨te, _, h2⟩ := ht
        split at h2
        · cases h2; cases hq
        · cases h2
      · rename_i fs hu; exact .inl ⟨fs, hu⟩
      · rename_i k e hu; exact .inr ⟨k, e, hu⟩
      · cases ht
  unfold OkA at h
  split at h
  · rename_i fs hu
    obtain ⟨cs, rfl, h1⟩ := h
    obtain ⟨x, h2, h3⟩ := okV_rep hr f h1 ht
    exact ⟨x, s1Of_rep (X := ⟨fun _ => False, m, ⟨fun _ => none, fun _ => 0⟩, 0, []⟩) h2 (fun _ => ⟨cs, rfl⟩) (fun q => by rw [hag (.inl ⟨fs, hu⟩)] at q; cases q), h3⟩
  · rename_i k e hu
    obtain ⟨cs, rfl, h1⟩ := h
    obtain ⟨x, h2, h3⟩ := okV_rep hr f h1 ht
    exact ⟨x, s1Of_rep (X := ⟨fun _ => False, m, ⟨fun _ => none, fun _ => 0⟩, 0, []⟩) h2 (fun _ => ⟨cs, rfl⟩) (fun q => by rw [hag (.inr ⟨k, e, hu⟩)] at q; cases q), h3⟩
  · rename_i hu1 hu2
    obtain ⟨x, h2, h3⟩ := okV_rep hr f h ht
    have hone := repE_one h2 v (by simp)
    have hc : v.cells = #[v] := by cases v <;> first | rfl | cases hone
    refine ⟨x, s1Of_rep (X := ⟨fun _ => False, m, ⟨fun _ => none, fun _ => 0⟩, 0, []⟩) (by rw [hc]; exact h2) (fun q => ?_) (fun _ => hone), h3⟩
    rcases hnag q with ⟨fs, hu⟩ | ⟨k, e, hu⟩
    · exact absurd hu (hu1 fs)
    · exact absurd hu (hu2 k e)

/-- The patterns of a law's arguments. -/
def argP : Nat → List Ty → List (Nat × Pt)
  | _, [] => []
  | k, t :: l => (k, .v t) :: argP (k + 1) l
def lawTm (tys : List Ty) : Tm := { sl := argP 0 tys }
def lawOut : OT := .ret { sl := [(0, .v .b)] }
def okArgs : (k : Nat) → (l : List Ty) → SlE (argP k l) → Prop
  | _, [], _ => True
  | k, t :: l, x => okE t x.1 ∧ okArgs (k + 1) l x.2

theorem args_rep (hr : RoMem m) {f n : Nat} : ∀ {ts : List TypeId} {vs : List Value} {tys : List Ty} {pre : List Value} {k : Nat}, k = pre.length → OkArgs P m f ts vs → optL (ts.map (tyOf P n)) = some tys →
    ∃ x : SlE (argP k tys), repSlots P ⟨fun _ => False, m, ⟨fun _ => none, fun _ => 0⟩, 0, []⟩ (fun i => (pre ++ vs).toArray.getD i undef) (slI id id (argP k tys) x) ∧ okArgs k tys x := by
  intro ts
  induction ts with
  | nil => intro vs tys pre k hk h ho; cases ho; exact ⟨(), trivial, trivial⟩
  | cons t ts ih =>
    intro vs tys pre k hk h ho
    cases vs with
    | nil => exact h.elim
    | cons v vs =>
      simp only [List.map_cons] at ho
      cases ht : tyOf P n t with
      | none => rw [ht] at ho; cases ho
      | some ty =>
        rw [ht] at ho
        simp only [optL, Option.map_eq_some_iff] at ho
        obtain ⟨tys', h1, rfl⟩ := ho
        obtain ⟨x, h2, h3⟩ := okA_rep hr h.1 ht
        obtain ⟨y, h4, h5⟩ := ih (pre := pre ++ [v]) (k := k + 1) (by simp [hk]) h.2 h1
        simp only [List.append_assoc, List.cons_append, List.nil_append] at h4
        refine ⟨(x, y), ⟨?_, h4⟩, h3, h5⟩
        have : (pre ++ v :: vs).toArray.getD k undef = v := by
          rw [Array.getD_eq_getD_getElem?, hk]; simp
        show repS P _ (s1Of ty x) ((pre ++ v :: vs).toArray.getD k undef)
        rw [this]
        exact h2

/-- A law: what is known of its function, and that it answers true. -/
theorem law_of {k : FuncId} {fn : Func} {depth n : Nat} {tys : List Ty} (ht : optL (fn.params.toList.map (tyOf P n)) = some tys) {F : (lawTm tys).E → Option lawOut.E} (hok : Con.OK P k ⟨lawTm tys, lawOut, F⟩)
    (law : ∀ x : SlE (argP 0 tys), okArgs 0 tys x → F (x, (), ()) = some ((true, ()), (), ())) : Law P k fn depth := by
  intro m vs hr hargs
  obtain ⟨x, h1, h2⟩ := args_rep hr (pre := []) rfl hargs ht
  have hS : ((lawTm tys).cx (x, (), ()) (fun _ => False) ⟨fun _ => none, fun _ => 0⟩ m) = ⟨fun i => False ∨ ∃ j, j < 0 ∧ 0 = i, m, ⟨fun _ => none, fun _ => 0⟩, 0, []⟩ := rfl
  have hle : CxLe ⟨fun _ => False, m, ⟨fun _ => none, fun _ => 0⟩, 0, []⟩ ((lawTm tys).cx (x, (), ()) (fun _ => False) ⟨fun _ => none, fun _ => 0⟩ m) := by
    rw [hS]
    refine ⟨fun i r hr hn => ⟨hr, fun w => ?_⟩, Nat.le_refl _, fun _ _ => rfl, fun j b hb => ⟨b, hb, rfl, rfl⟩⟩
    rcases w with w | ⟨j, hj, _⟩
    · exact w
    · omega
  have hsl : ∀ {l : List (Nat × S1)} {av : Nat → Value}, repSlots P ⟨fun _ => False, m, ⟨fun _ => none, fun _ => 0⟩, 0, []⟩ av l → repSlots P ((lawTm tys).cx (x, (), ()) (fun _ => False) ⟨fun _ => none, fun _ => 0⟩ m) av l := by
    intro l av
    induction l with
    | nil => intro _; trivial
    | cons p l ih => intro h; exact ⟨h.1.le hle, ih h.2⟩
  obtain ⟨c, m1, env1, hcal, hend, hret⟩ := hok (x, (), ()) _ (law x h2) (fun _ => False) ⟨fun _ => none, fun _ => 0⟩ m vs.toArray (by
    rw [hS]
    refine ⟨hr.free, by rw [hr.bar]; exact Nat.zero_le _, rfl, fun j hj => absurd hj (Nat.not_lt_zero _), fun i w => ?_, fun j b hb => (by cases hb), fun j j' b b' i h1 => (by cases h1), fun j cs hcs => (by cases hcs), fun j j' hj => absurd hj (Nat.not_lt_zero _)⟩
    rcases w with w | ⟨j, hj, _⟩
    · exact w.elim
    · omega) (by
    intro i w
    obtain ⟨j, hj, _⟩ := w
    exact absurd hj (Nat.not_lt_zero _)) (hsl h1)
  obtain ⟨v, rfl, hv⟩ := hret
  have hv' : v = .bool true := hv.1
  subst hv'
  obtain ⟨n, hn⟩ := hcal
  exact ⟨n, m1, hn n (Nat.le_refl _)⟩
end Go.IM.V

/- The value machine: words for what it prints. -/
set_option linter.unusedVariables false
set_option linter.constructorNameAsVariable false
namespace Go.IM.V
open Go Go.IM

/-- One result. -/
abbrev r1 {α : Type} (x : α) : (α × Unit) × Unit × Unit := ((x, ()), (), ())
/-- A buffer that is handed back. -/
abbrev ro {α : Type} (x : α) : (Unit × Unit) × Unit × (α × Unit) := (((), ()), (), (x, ()))

section
variable {ρ : Type}
theorem cif {p : Prop} [Decidable p] (a b : ρ) : (bif decide p then a else b) = if p then a else b := by by_cases h : p <;> simp [h]
theorem nilBr_of {n : Nat} {a b : Option ρ} {r : ρ} (hb : b = some r) (ha : n = 0 → a = some r) : nilBr n a b = some r := by
  unfold nilBr
  by_cases h : 0 < n
  · rw [cif, if_pos h]; exact hb
  · rw [cif, if_neg h]
    unfold both
    rw [ha (by omega), hb, if_pos rfl]
end

theorem w64 {n : Int} (h0 : -9223372036854775808 ≤ n) (h1 : n ≤ 9223372036854775807) : IntKind.wrap .i64 n = n := wrap_i64 h0 h1
theorem wu64 {n : Int} (h0 : 0 ≤ n) (h1 : n < 18446744073709551616) : IntKind.wrap .u64 n = n := by
  simp [IntKind.wrap, IntKind.signed, IntKind.bits]
  omega
theorem wu64_mod (n : Int) : IntKind.wrap .u64 n = n % 18446744073709551616 := by
  simp [IntKind.wrap, IntKind.signed, IntKind.bits]
theorem wu32_mod (n : Int) : IntKind.wrap .u32 n = n % 4294967296 := by
  simp [IntKind.wrap, IntKind.signed, IntKind.bits]
theorem wu8_mod (n : Int) : IntKind.wrap .u8 n = n % 256 := by
  simp [IntKind.wrap, IntKind.signed, IntKind.bits]
theorem ok_u64 {n : Int} (h : okE (.i .u64) n) : 0 ≤ n ∧ n < 18446744073709551616 := by
  have h2 : (Lit.int .u64 n).wf = true := h
  simp [Lit.wf, IntKind.min, IntKind.max, IntKind.signed, IntKind.bits] at h2
  omega
theorem ok_u32 {n : Int} (h : okE (.i .u32) n) : 0 ≤ n ∧ n < 4294967296 := by
  have h2 : (Lit.int .u32 n).wf = true := h
  simp [Lit.wf, IntKind.min, IntKind.max, IntKind.signed, IntKind.bits] at h2
  omega
theorem ok_u16 {n : Int} (h : okE (.i .u16) n) : 0 ≤ n ∧ n < 65536 := by
  have h2 : (Lit.int .u16 n).wf = true := h
  simp [Lit.wf, IntKind.min, IntKind.max, IntKind.signed, IntKind.bits] at h2
  omega
theorem ok_u8 {n : Int} (h : okE (.i .u8) n) : 0 ≤ n ∧ n < 256 := by
  have h2 : (Lit.int .u8 n).wf = true := h
  simp [Lit.wf, IntKind.min, IntKind.max, IntKind.signed, IntKind.bits] at h2
  omega
theorem ok_i64 {n : Int} (h : okE (.i .i64) n) : -9223372036854775808 ≤ n ∧ n ≤ 9223372036854775807 := by
  have h2 : (Lit.int .i64 n).wf = true := h
  simp [Lit.wf, IntKind.min, IntKind.max, IntKind.signed, IntKind.bits] at h2
  omega
end Go.IM.V
