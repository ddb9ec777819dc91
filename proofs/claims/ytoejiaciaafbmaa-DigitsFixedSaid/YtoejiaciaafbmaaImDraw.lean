/- The ideal machine: guided runs through regions whose order is drawn. -/
import Derived.Test.YtoejiaciaafbmaaImPath
set_option linter.unusedVariables false
set_option linter.unusedSimpArgs false
namespace Go.IM
open Go Go.RowKit

/-- One operation that neither panics nor defers. -/
def stepV (P : Program) (e : Option Ent) (a : Act) (o : Oper) (m : M) (K : Act → M → GR) : GR :=
  match e with
  | none => match iop P a.eval o m with
    | some (.val v m1) => K (a.put o.dst v) m1
    | some (.skip m1) => K (a.put o.dst undef) m1
    | _ => none
  | some (.norm v) => match iop P a.eval o m with
    | some (.val v0 m1) => addO (v0 = v) (K (a.put o.dst v) m1)
    | _ => none
  | some (.op v m1) => addO (iop P a.eval o m = some (.val v m1)) (K (a.put o.dst v) m1)
  | some (.skp m1) => addO (iop P a.eval o m = some (.skip m1)) (K (a.put o.dst undef) m1)
  | some (.load v) => match o.op with
    | .load t x => match a.eval x, isAggT P t, P.info? t with
      | .pointer (some ⟨i, off, none⟩), some false, some _ => addO (m.cell i off = some v) (K (a.put o.dst v) m)
      | _, _, _ => none
    | _ => none
  | some .idx => match o.op with
    | .indexAddr t x y => match P.underlying t, a.eval x, a.eval y with
      | some (.slice e), .slice (some ⟨i, off, none⟩) len _, .int _ k => match P.info? e with
        | some ti => addO (0 ≤ k ∧ k < (len : Int)) (K (a.put o.dst (.pointer (some ⟨i, off + k.toNat * ti.size, none⟩))) m)
        | none => none
      | _, _, _ => none
    | _ => none
  | some .shift => match o.op with
    | .binOp .shl _ x y _ => match a.eval x, a.eval y with
      | .int k n, .int _ b => addO (0 ≤ b) (K (a.put o.dst (.int k (iShl k n b))) m)
      | _, _ => none
    | .binOp .shr _ x y _ => match a.eval x, a.eval y with
      | .int k n, .int _ b => addO (0 ≤ b) (K (a.put o.dst (.int k (iShr k n b))) m)
      | _, _ => none
    | _ => none
  | some (.call v m1) => match iop P a.eval o m with
    | some (.call f args m0) => addO (Cal P f args m0 (.ret v) m1) (K (a.put o.dst v) m1)
    | _ => none
  | some (.pnc _ _) => none

variable {P : Program} {gd : List (Nat × Nat × Ent)} {gl : List (Nat × Lp)}

/-- What an operation comes to. -/
def Comes (P : Program) (a : Act) (o : Oper) (m : M) (v : Value) (m1 : M) : Prop :=
  iop P a.eval o m = some (.val v m1) ∨ (iop P a.eval o m = some (.skip m1) ∧ v = undef) ∨ ∃ f args m0, iop P a.eval o m = some (.call f args m0) ∧ Cal P f args m0 (.ret v) m1

theorem stepV_sound {e : Option Ent} {a a1 : Act} {o : Oper} {m m1 : M} {K : Act → M → GR} {x : Out} {p : Prop} (h : stepV P e a o m K = some (x, a1, m1, p)) (hp : p) :
    ∃ v m2 p2, Comes P a o m v m2 ∧ K (a.put o.dst v) m2 = some (x, a1, m1, p2) ∧ p2 := by
  unfold stepV at h
  split at h
  · split at h
    · rename_i v m2 hi; exact ⟨v, m2, p, .inl hi, h, hp⟩
    · rename_i m2 hi; exact ⟨undef, m2, p, .inr (.inl ⟨hi, rfl⟩), h, hp⟩
    · cases h
  · split at h
    · rename_i v0 m2 hi
      obtain ⟨o1, h1, h2⟩ := addO_some h
      obtain ⟨h3, h4⟩ := h2 hp
      rw [h3] at hi
      exact ⟨_, m2, o1, .inl hi, h1, h4⟩
    · cases h
  · obtain ⟨o1, h1, h2⟩ := addO_some h
    obtain ⟨h3, h4⟩ := h2 hp
    exact ⟨_, _, o1, .inl h3, h1, h4⟩
  · obtain ⟨o1, h1, h2⟩ := addO_some h
    obtain ⟨h3, h4⟩ := h2 hp
    exact ⟨_, _, o1, .inr (.inl ⟨h3, rfl⟩), h1, h4⟩
  · split at h
    · rename_i t x hop
      split at h
      · rename_i i2 off ti hx ht hi
        obtain ⟨o1, h1, h2⟩ := addO_some h
        obtain ⟨h3, h4⟩ := h2 hp
        exact ⟨_, _, o1, .inl (iop_load hop hx ht (by rw [hi]; rfl) h3), h1, h4⟩
      · cases h
    · cases h
  · split at h
    · rename_i t x y hop
      split at h
      · rename_i e2 i2 off len cap kd k hu hx hy
        split at h
        · rename_i ti hi
          obtain ⟨o1, h1, h2⟩ := addO_some h
          obtain ⟨h3, h4⟩ := h2 hp
          exact ⟨_, _, o1, .inl (iop_indexAddr hop hx hy hu hi h3.1 h3.2), h1, h4⟩
        · cases h
      · cases h
    · cases h
  · split at h
    · rename_i t x y u hop
      split at h
      · rename_i k n k' b hx hy
        obtain ⟨o1, h1, h2⟩ := addO_some h
        obtain ⟨h3, h4⟩ := h2 hp
        exact ⟨_, _, o1, .inl (iop_shl hop hx hy h3), h1, h4⟩
      · cases h
    · rename_i t x y u hop
      split at h
      · rename_i k n k' b hx hy
        obtain ⟨o1, h1, h2⟩ := addO_some h
        obtain ⟨h3, h4⟩ := h2 hp
        exact ⟨_, _, o1, .inl (iop_shr hop hx hy h3), h1, h4⟩
      · cases h
    · cases h
  · split at h
    · rename_i f args m0 hi
      obtain ⟨o1, h1, h2⟩ := addO_some h
      obtain ⟨h3, h4⟩ := h2 hp
      exact ⟨_, _, o1, .inr (.inr ⟨f, args, m0, hi, h3⟩), h1, h4⟩
    · cases h
  · cases h

def M.rebar (β : Nat) (m : M) : M := ⟨m.tr, m.nxt, β⟩

def runGd (P : Program) (gd : List (Nat × Nat × Ent)) (r : Nat) (ops : Array Oper) (β : Nat) (fl : Nat → Bool) (ff : Nat → Option Nat) : List Nat → (Nat → Nat) → Act → M → GR
  | [], _, a, m => some (.normal, a, m, True)
  | i :: rest, ss, a, m =>
    match ops[i]? with
    | none => none
    | some o =>
      if Region.wanted o (yielded ops a.tmps) then
        if okOp o then
          match fl i with
          | false => stepV P (lookE gd r i) a o m fun a1 m1 => runGd P gd r ops β fl ff rest (setN ss i m.nxt) a1 (m1.rebar β)
          | true => match touch a.eval o with
            | some j => addO (j < limOf ff ss i m.nxt) (stepV P (lookE gd r i) a o (m.rebar m.nxt) fun a1 m1 => runGd P gd r ops β fl ff rest (setN ss i m.nxt) a1 (m1.rebar β))
            | none => stepV P (lookE gd r i) a o (m.rebar m.nxt) fun a1 m1 => runGd P gd r ops β fl ff rest (setN ss i m.nxt) a1 (m1.rebar β)
        else none
      else runGd P gd r ops β fl ff rest (setN ss i m.nxt) (a.put o.dst undef) m

theorem opD_comes {n0 β : Nat} {f : Bool} {a : Act} {o : Oper} {m m1 : M} {v : Value} (hb : m.bar = β) (hok : okOp o = true) (ht : f = true → touchOK a.eval o n0 = true) (h : Comes P a o (if f then m.rebar m.nxt else m) v m1) :
    ∃ n, ∀ k, n ≤ k → opD P (callF P (E P k)) n0 β f true o a.eval m.nxt m.tr = some (v, m1.tr, m1.nxt) := by
  have hm : (⟨m.tr, m.nxt, if f then m.nxt else β⟩ : M) = (if f then m.rebar m.nxt else m) := by
    cases f
    · subst hb; rfl
    · rfl
  have hc : (okOp o && (!f || touchOK a.eval o n0)) = true := by
    rw [hok]
    cases f
    · rfl
    · simpa using ht rfl
  rcases h with h | ⟨h, rfl⟩ | ⟨g, args, m0, h, n, hcal⟩
  · exact ⟨0, fun k _ => by unfold opD; rw [if_pos rfl, if_pos hc, hm, h]⟩
  · exact ⟨0, fun k _ => by unfold opD; rw [if_pos rfl, if_pos hc, hm, h]⟩
  · exact ⟨n, fun k hk => by unfold opD; rw [if_pos rfl, if_pos hc, hm, h]; dsimp only; rw [hcal k hk]⟩

theorem runGd_sound {r : Nat} {ops : Array Oper} {β : Nat} {fl : Nat → Bool} {ff : Nat → Option Nat} : ∀ (l : List Nat) {ss : Nat → Nat} {a a1 : Act} {m m1 : M} {x : Out} {p : Prop}, m.bar = β → runGd P gd r ops β fl ff l ss a m = some (x, a1, m1, p) → p →
    x = .normal ∧ m1.bar = β ∧ ∃ n, ∀ k, n ≤ k → runD P (callF P (E P k)) ops β fl ff l ss a m.nxt m.tr = some (a1, m1.nxt, m1.tr) := by
  intro l
  induction l with
  | nil =>
    intro ss a a1 m m1 x p hb h hp
    simp only [runGd, Option.some.injEq, Prod.mk.injEq] at h
    obtain ⟨rfl, rfl, rfl, _⟩ := h
    exact ⟨rfl, hb, 0, fun k _ => rfl⟩
  | cons i rest ih =>
    intro ss a a1 m m1 x p hb h hp
    simp only [runGd] at h
    split at h
    · cases h
    · rename_i o ho
      have fin : ∀ {f : Bool} {m' : M} {p : Prop}, fl i = f → m' = (if f then m.rebar m.nxt else m) → Region.wanted o (yielded ops a.tmps) = true → okOp o = true → (f = true → touchOK a.eval o (limOf ff ss i m.nxt) = true) →
          stepV P (lookE gd r i) a o m' (fun a1 m1 => runGd P gd r ops β fl ff rest (setN ss i m.nxt) a1 (m1.rebar β)) = some (x, a1, m1, p) → p →
          x = .normal ∧ m1.bar = β ∧ ∃ n, ∀ k, n ≤ k → runD P (callF P (E P k)) ops β fl ff (i :: rest) ss a m.nxt m.tr = some (a1, m1.nxt, m1.tr) := by
        intro f m' p hf hm' hw hok ht hs hp
        obtain ⟨v, m2, p2, hc, hK, hp2⟩ := stepV_sound hs hp
        obtain ⟨h1, h2, n2, h3⟩ := ih rfl hK hp2
        rw [hm'] at hc
        obtain ⟨n1, h4⟩ := opD_comes hb hok ht hc
        refine ⟨h1, h2, n1 + n2, fun k hk => ?_⟩
        simp only [runD, ho, hw, hf]
        rw [h4 k (by omega)]
        exact h3 k (by omega)
      split at h
      · rename_i hw
        split at h
        · rename_i hok
          split at h
          · rename_i hf
            exact fin hf rfl hw hok (by intro q; cases q) h hp
          · rename_i hf
            split at h
            · rename_i j hj
              obtain ⟨o1, h1, h2⟩ := addO_some h
              obtain ⟨h3, h4⟩ := h2 hp
              exact fin hf rfl hw hok (fun _ => by unfold touchOK; rw [hj]; simpa using h3) h1 h4
            · rename_i hj
              exact fin hf rfl hw hok (fun _ => by unfold touchOK; rw [hj]) h hp
        · cases h
      · rename_i hw
        obtain ⟨h1, h2, n, h3⟩ := ih hb h hp
        refine ⟨h1, h2, n, fun k hk => ?_⟩
        have hw' : Region.wanted o (yielded ops a.tmps) = false := by simpa using hw
        simp only [runD, ho, hw', opD]
        exact h3 k hk

def runDrawG (P : Program) (gd : List (Nat × Nat × Ent)) (r : Nat) (ops : Array Oper) (a : Act) (m : M) : GR :=
  if okDraw P ops && P.follows .mixedOrders then
    addO (m.bar ≤ m.nxt) (runGd P gd r ops m.bar (flagOf P ops (amasks ops.toList [])) (firstFree P ops (amasks ops.toList [])) (List.range ops.size) (fun _ => 0) a m)
  else none

theorem runDrawG_sound {id : Nat} {ops : Array Oper} {a a1 : Act} {m m1 : M} {x : Out} {p : Prop} (h : runDrawG P gd id ops a m = some (x, a1, m1, p)) (hp : p) : Ev.To P (.region id ops true) a m x a1 m1 := by
  unfold runDrawG at h
  split at h
  · rename_i hok
    obtain ⟨o1, h1, h2⟩ := addO_some h
    obtain ⟨h3, h4⟩ := h2 hp
    obtain ⟨rfl, hb, n, h5⟩ := runGd_sound _ rfl h1 h4
    refine ⟨n + 1, fun k hk => ?_⟩
    obtain ⟨k, rfl⟩ : ∃ j, k = j + 1 := ⟨k - 1, by omega⟩
    simp only [E, if_true]
    unfold runDraw
    rw [if_pos (by rw [hok]; simpa using h3)]
    dsimp only
    rw [h5 k (by omega)]
    dsimp only
    rw [← hb]
  · cases h

/-- A guided run, drawn regions among it. -/
def GD (P : Program) (gd : List (Nat × Nat × Ent)) (gl : List (Nat × Lp)) : Nat → Code → Act → M → GR
  | 0, _, _, _ => none
  | n + 1, c, a, m =>
    match c with
    | .skip | .label _ => some (.normal, a, m, True)
    | .exit id => some (.exit id, a, m, True)
    | .ret => some (.ret, a, m, True)
    | .region id ops false => runG P gd id ops (List.range ops.size) a m
    | .region id ops true => runDrawG P gd id ops a m
    | .seq x y => match GD P gd gl n x a m with
      | some (.normal, a1, m1, o) => match GD P gd gl n y a1 m1 with
        | some (e, a2, m2, o2) => some (e, a2, m2, o ∧ o2)
        | none => none
      | r => r
    | .cond c x y => if okOperand c then match a.eval c with
      | .bool true => GD P gd gl n x a m
      | .bool false => GD P gd gl n y a m
      | _ => none
      else none
    | .block id b => match GD P gd gl n b a m with
      | some (.exit id', a1, m1, o) => bif Nat.beq id' id then some (.normal, a1, m1, o) else some (.exit id', a1, m1, o)
      | r => r
    | .loop b => match lookL gl (headReg b) with
      | some (e, a1, m1) => some (e, a1, m1, Ev.To P (.loop b) a m e a1 m1)
      | none => none
    | _ => none

theorem GD_sound : ∀ (n : Nat) {c : Code} {a a1 : Act} {m m1 : M} {e : Out} {o : Prop}, GD P gd gl n c a m = some (e, a1, m1, o) → o → Ev.To P c a m e a1 m1 := by
  intro n
  induction n with
  | zero => intro c a a1 m m1 e o h; cases h
  | succ n ih =>
    intro c a a1 m m1 e o h hp
    cases c with
    | skip => simp only [GD, Option.some.injEq, Prod.mk.injEq] at h; obtain ⟨rfl, rfl, rfl, _⟩ := h; exact To.skip
    | label => simp only [GD, Option.some.injEq, Prod.mk.injEq] at h; obtain ⟨rfl, rfl, rfl, _⟩ := h; exact To.label
    | exit => simp only [GD, Option.some.injEq, Prod.mk.injEq] at h; obtain ⟨rfl, rfl, rfl, _⟩ := h; exact To.exit
    | ret => simp only [GD, Option.some.injEq, Prod.mk.injEq] at h; obtain ⟨rfl, rfl, rfl, _⟩ := h; exact To.ret
    | region id ops draw =>
      cases draw with
      | true => simp only [GD] at h; exact runDrawG_sound h hp
      | false => simp only [GD] at h; exact To.region rfl (runG_sound _ h hp)
    | seq x y =>
      simp only [GD] at h
      split at h
      · rename_i a2 m2 o1 h1
        split at h
        · rename_i e3 a3 m3 o3 h3
          cases h
          exact To.seq (ih h1 hp.1) (ih h3 hp.2)
        · cases h
      · rename_i hn
        exact To.seq_out (ih h hp) (by intro he; subst he; exact hn _ _ _ h)
    | cond c x y =>
      simp only [GD] at h
      split at h
      · rename_i hok
        split at h
        · rename_i hb; exact To.cond hok hb (ih h hp)
        · rename_i hb; exact To.cond hok hb (ih h hp)
        · cases h
      · cases h
    | block id b =>
      simp only [GD] at h
      split at h
      · rename_i id' a2 m2 o1 h1
        cases hq : Nat.beq id' id with
        | true =>
          rw [hq] at h
          simp only [cond_true] at h
          cases h
          have : id' = id := Nat.eq_of_beq_eq_true hq
          subst this
          exact To.block (ih h1 hp)
        | false =>
          rw [hq] at h
          simp only [cond_false] at h
          cases h
          exact To.block_out (ih h1 hp) (by intro he; cases he; exact Nat.ne_of_beq_eq_false hq rfl)
      · rename_i hn
        exact To.block_out (ih h hp) (by intro he; subst he; exact hn _ _ _ _ h)
    | loop b =>
      simp only [GD] at h
      split at h
      · cases h; exact hp
      · cases h
    | _ => simp [GD] at h

end Go.IM
