/- The ideal machine, part Y: regions whose order is drawn are sound. -/
import Derived.Test.YtoejiaciaafbmaaImR
set_option linter.unusedVariables false
set_option linter.unusedSimpArgs false
namespace Go.IM
open Go Go.RowKit

variable {P : Program} {B : Nat} {w0 : World} {C : CallF} {n0 β : Nat} {ops : Array Oper}

/-- What is listed is closed: what comes before is listed too. -/
def ClosedL (ops : Array Oper) (listed : Array Bool) : Prop := ∀ d o, ops[d]? = some o → listed.getD d false = true → ∀ e ∈ o.after, Region.binds .any e = true → listed.getD e.on false = true

theorem omask_spec {acc : List Nat} {i : Nat} : ∀ {l : List Edge}, (omask acc l).testBit i = true → ∃ e ∈ l, Region.binds .any e = true ∧ (i = e.on ∨ (acc.getD e.on 0).testBit i = true) := by
  intro l
  induction l with
  | nil => intro h; simp [omask] at h
  | cons e l ih =>
    intro h
    simp only [omask] at h
    split at h
    · rename_i hb
      simp only [Nat.testBit_or, Bool.or_eq_true] at h
      rcases h with (h | h) | h
      · refine ⟨e, by simp, hb, .inl ?_⟩
        rw [Nat.one_shiftLeft, Nat.testBit_two_pow] at h
        exact (by simpa using h : e.on = i).symm
      · exact ⟨e, by simp, hb, .inr h⟩
      · obtain ⟨e2, h1, h2⟩ := ih h
        exact ⟨e2, by simp [h1], h2⟩
    · obtain ⟨e2, h1, h2⟩ := ih h
      exact ⟨e2, by simp [h1], h2⟩

/-- The masks are right. -/
def MaskOK (ops : Array Oper) (acc : List Nat) : Prop := ∀ j o, j < acc.length → ops[j]? = some o → ∀ listed, ClosedL ops listed → (∀ e ∈ o.after, Region.binds .any e = true → listed.getD e.on false = true) →
  ∀ i, (acc.getD j 0).testBit i = true → listed.getD i false = true

theorem amasks_ok : ∀ (rest pre : List Oper) (acc : List Nat), ops.toList = pre ++ rest → acc.length = pre.length → MaskOK ops acc → MaskOK ops (amasks rest acc) ∧ (amasks rest acc).length = ops.size := by
  intro rest
  induction rest with
  | nil =>
    intro pre acc he hl h
    refine ⟨h, ?_⟩
    have := congrArg List.length he
    simp at this
    simp [amasks, hl, this]
  | cons o rest ih =>
    intro pre acc he hl h
    simp only [amasks]
    refine ih (pre ++ [o]) _ (by simp [he]) (by simp [hl]) ?_
    intro j o' hj ho' listed hc hd i hb
    rcases Nat.lt_or_ge j acc.length with hlt | hge
    · refine h j o' hlt ho' listed hc hd i ?_
      rw [List.getD_eq_getElem?_getD, List.getElem?_append_left hlt] at hb
      rw [List.getD_eq_getElem?_getD]; exact hb
    · have hjl : j = acc.length := by simp at hj; omega
      subst hjl
      have ho : ops[acc.length]? = some o := by
        rw [← Array.getElem?_toList, he, hl]; simp
      rw [ho] at ho'; cases ho'
      rw [List.getD_eq_getElem?_getD, List.getElem?_append_right (Nat.le_refl _)] at hb
      simp only [Nat.sub_self, List.getElem?_cons_zero, Option.getD_some] at hb
      obtain ⟨e, he1, he2, he3⟩ := omask_spec hb
      have hle := hd e (by simpa using he1) he2
      rcases he3 with rfl | he3
      · exact hle
      · rcases Nat.lt_or_ge e.on acc.length with hlt | hge2
        · have hex : ∃ o2, ops[e.on]? = some o2 := by
            have : e.on < ops.size := by
              have h1 := congrArg List.length he
              simp at h1
              omega
            exact ⟨ops[e.on], by simp [this]⟩
          obtain ⟨o2, ho2⟩ := hex
          exact h e.on o2 hlt ho2 listed hc (fun e' h1 h2 => hc e.on o2 ho2 hle e' h1 h2) i he3
        · rw [List.getD_eq_getElem?_getD, List.getElem?_eq_none hge2] at he3
          simp at he3

theorem backward_spec {i : Nat} : ∀ {l : List Edge}, backward i l = true → ∀ e ∈ l, Region.binds .any e = true → e.on < i := by
  intro l
  induction l with
  | nil => intro _ e he; cases he
  | cons x l ih =>
    intro h e he hb
    simp only [backward, Bool.and_eq_true, Bool.or_eq_true, Bool.not_eq_true', decide_eq_true_eq] at h
    rcases List.mem_cons.1 he with rfl | he
    · rcases h.1 with h1 | h1
      · rw [hb] at h1; cases h1
      · exact h1
    · exact ih h.2 e he hb

theorem flagOf_mk {ms : List Nat} {i j : Nat} {x y : Oper} (hx : ops[i]? = some x) (hy : ops[j]? = some y) (hu : unord ms i j = true) (hf : flagK (kindOf P x) (kindOf P y) = true) : flagOf P ops ms i = true := by
  unfold flagOf
  rw [List.any_eq_true]
  refine ⟨j, List.mem_range.2 (Array.getElem?_eq_some_iff.1 hy).1, ?_⟩
  rw [hu, hx, hy]
  simpa using hf

theorem okDraw_pair (h : okDraw P ops = true) {i j : Nat} (hij : i < j) {x y : Oper} (hx : ops[i]? = some x) (hy : ops[j]? = some y) (hm : ((amasks ops.toList []).getD j 0).testBit i = false) :
    x.apart ops y = true ∧ kindsOK (kindOf P x) (kindOf P y) = true ∧ (flagK (kindOf P x) (kindOf P y) = true → flagOf P ops (amasks ops.toList []) i = true) ∧ (flagK (kindOf P y) (kindOf P x) = true → flagOf P ops (amasks ops.toList []) j = true) := by
  unfold okDraw at h
  simp only [List.all_eq_true, List.mem_range, Bool.and_eq_true] at h
  have h1 := (h j (Array.getElem?_eq_some_iff.1 hy).1).2 i hij
  have hu : unord (amasks ops.toList []) i j = true := by unfold unord; rw [if_pos hij, hm]; rfl
  have hu2 : unord (amasks ops.toList []) j i = true := by unfold unord; rw [if_neg (by omega), if_pos hij, hm]; rfl
  unfold pairOK at h1
  rw [if_pos hu, hx, hy] at h1
  simp only [Bool.and_eq_true] at h1
  exact ⟨h1.1, h1.2, flagOf_mk hx hy hu, flagOf_mk hy hx hu2⟩

theorem okDraw_back (h : okDraw P ops = true) {j : Nat} {y : Oper} (hy : ops[j]? = some y) : ∀ e ∈ y.after, Region.binds .any e = true → e.on < j := by
  unfold okDraw at h
  simp only [List.all_eq_true, List.mem_range, Bool.and_eq_true] at h
  have h1 := (h j (Array.getElem?_eq_some_iff.1 hy).1).1
  rw [hy] at h1
  exact fun e he hb => backward_spec h1 e (by simpa using he) hb

theorem Inv.tr {ρ : Ren} {m : M} {w : World} (h : Inv P B w0 ρ m w) (k γ : Nat) : Inv P B w0 ρ ⟨m.tr, k, γ⟩ w :=
  ⟨h.below, h.size, h.dom, h.blk, h.holds, h.roots, h.tip, h.sep, h.top, h.rosup⟩

/-- One step. -/
theorem opD_sound (hC : CallOK P B w0 C) {fl : Bool} {ρ : Ren} {w : World} {a a' : Act} {t t1 : Tr} {j k e : Nat} {o : Oper} {v : Value} {Q : Exit → Act → World → Prop} {K : Act → World → Prop}
    (hI : Inv P B w0 ρ ⟨t, 0, 0⟩ w) (hW : Wf ⟨t, 0, 0⟩) (hA : ActRel ρ a a') (ho : ops[j]? = some o) (h : opD P C n0 β fl (Region.wanted o (yielded ops a.tmps)) o a.eval k t = some (v, t1, e))
    (hK : ∀ ρ' a2' w', ρ.le ρ' → Inv P B w0 ρ' ⟨t1, 0, 0⟩ w' → ActRel ρ' (a.put o.dst v) a2' → K a2' w') : wpOp P ops Q j K a' w := by
  unfold wpOp
  rw [ho]
  dsimp only
  rw [yielded_rel hA]
  unfold opD at h
  split at h
  · rename_i hw
    rw [if_pos hw]
    left
    split at h
    · rename_i hok
      have hev : ∀ x ∈ o.op.operands, VRel ρ (a.eval x) (a'.eval x) := by
        intro x hx
        simp only [Bool.and_eq_true] at hok
        have := hok.1
        unfold okOp at this
        rw [Array.all_eq_true'] at this
        exact hA.eval (this x hx)
      cases hi : iop P a.eval o ⟨t, k, if fl then k else β⟩ with
      | none => rw [hi] at h; cases h
      | some r =>
        rw [hi] at h
        have hs := iop_sound (hI.tr k (if fl then k else β)) hev hi
        have hW1 : Wf r.mem := (iop_good (k := 0) (b := ⟨.cells #[] 0, 0, false, false, false⟩) hi).1.wf hW
        unfold Oper.wp
        cases r with
        | val v2 m2 =>
          cases h
          obtain ⟨v', w', ρ', h1, h2, h3, h4⟩ := hs
          rw [h1, Oper.upon_value]
          exact hK ρ' _ w' h2 (h3.tr 0 0) ((hA.mono h2).put _ h4)
        | skip m2 =>
          cases h
          obtain ⟨w', ρ', h1, h2, h3⟩ := hs
          rw [h1, Oper.upon_skip]
          exact hK ρ' _ w' h2 (h3.tr 0 0) ((hA.mono h2).put _ (VRel.undef _))
        | dfr d m2 => cases h
        | call f args m2 =>
          obtain ⟨args', h1, h3, h4⟩ := hs
          rw [h1, Oper.upon_enter]
          dsimp only at h
          split at h
          · rename_i v2 m3 hc
            cases h
            refine (hC ρ m2 w f args args' _ m3 h3 hW1 h4 hc).mono ?_
            rintro en w' ⟨ρ', k1, k2, k3⟩
            cases k3
            exact hK ρ' _ w' k1 (k2.tr 0 0) ((hA.mono k1).put _ ‹_›)
          · cases h
        | pnc v m2 => cases h
    · cases h
  · rename_i hw
    rw [if_neg hw]
    cases h
    exact hK ρ _ w (Ren.le_refl _) hI (hA.put _ (VRel.undef _))

theorem getD_of_size {listed : Array Bool} {i : Nat} (hi : i < listed.size) (d : Bool) : listed.getD i d = listed.getD i true := by
  simp [hi]

theorem find_first {p : Nat → Bool} : ∀ {l : List Nat}, l.Pairwise (· < ·) → ∀ {i : Nat}, i ∈ l → p i = true → ∃ q, l.find? p = some q ∧ q ≤ i := by
  intro l
  induction l with
  | nil => intro _ i hi; cases hi
  | cons a l ih =>
    intro hp i hi hpi
    obtain ⟨h1, h2⟩ := List.pairwise_cons.1 hp
    rw [List.find?_cons]
    cases ha : p a with
    | true =>
      refine ⟨a, rfl, ?_⟩
      rcases List.mem_cons.1 hi with h | h
      · omega
      · exact Nat.le_of_lt (h1 i h)
    | false =>
      rcases List.mem_cons.1 hi with h | h
      · rw [h, ha] at hpi; cases hpi
      · exact ih h2 h hpi

theorem firstFree_lt {ms : List Nat} {i j : Nat} (h : firstFree P ops ms i = some j) : j < i := by
  unfold firstFree at h
  split at h
  · split at h
    · have := List.mem_of_find?_eq_some h
      exact List.mem_range.1 this
    · cases h
  · cases h
theorem firstFree_le {ms : List Nat} {i j : Nat} {x y : Oper} (hx : ops[i]? = some x) (hy : ops[j]? = some y) (hij : i < j) (hu : unord ms i j = true) (hk : kindOf P y = .l) (hax : isAX (kindOf P x) = true) : ∃ q, firstFree P ops ms j = some q ∧ q ≤ i := by
  unfold firstFree
  rw [hy]
  dsimp only
  rw [hk]
  dsimp only
  refine find_first List.pairwise_lt_range (List.mem_range.2 hij) ?_
  rw [hu, hx]
  simpa using hax

theorem any_sound (hok : okDraw P ops = true) (hC : CallOK P B w0 C) (hCg : CGood C) {lim st en : Nat → Nat} {Q : Exit → Act → World → Prop} {a1 : Act} {t1 : Tr}
    (H1 : ∀ i x, ops[i]? = some x → kindOf P x = .l → lim i ≤ st i)
    (H2 : ∀ i j x y, ops[i]? = some x → ops[j]? = some y → i < j → unord (amasks ops.toList []) i j = true → flagK (kindOf P y) (kindOf P x) = true → kindOf P y = .l → lim j ≤ st i) :
    ∀ (fuel : Nat) (l : List Nat) (listed : Array Bool) {ρ : Ren} {w : World} {a a' : Act} {t : Tr}, l.length = fuel → l.Pairwise (· < ·) → listed.size = ops.size → (∀ i, i ∈ l ↔ (i < ops.size ∧ listed.getD i true = false)) → ClosedL ops listed →
      seqS P C ops β (flagOf P ops (amasks ops.toList [])) lim st en l a t = some (a1, t1) → (∀ i ∈ l, ∀ j ∈ l, i < j → en i ≤ st j) → Wf ⟨t, 0, 0⟩ → Inv P B w0 ρ ⟨t, 0, 0⟩ w → ActRel ρ a a' →
      (∀ ρ' a1' w', ρ.le ρ' → Inv P B w0 ρ' ⟨t1, 0, 0⟩ w' → ActRel ρ' a1 a1' → Q .normal a1' w') → wpAny P .any ops Q fuel listed a' w := by
  obtain ⟨hmask, hmlen⟩ := amasks_ok (ops := ops) ops.toList [] [] rfl rfl (fun j o hj => absurd hj (by simp))
  intro fuel
  induction fuel with
  | zero =>
    intro l listed ρ w a a' t hlen hp hsz hmem hcl hseq hen hwf hI hA hQ
    have hl : l = [] := List.eq_nil_of_length_eq_zero hlen
    subst hl
    simp only [seqS, Option.some.injEq, Prod.mk.injEq] at hseq
    obtain ⟨rfl, rfl⟩ := hseq
    refine ⟨?_, hQ ρ a' w (Ren.le_refl _) hI hA⟩
    rw [List.eq_nil_iff_forall_not_mem]
    intro j hj
    obtain ⟨h0, o, ho, _⟩ := mem_ready.1 hj
    have := (hmem j).2 ⟨(Array.getElem?_eq_some_iff.1 ho).1, h0⟩
    cases this
  | succ fuel ih =>
    intro l listed ρ w a a' t hlen hp hsz hmem hcl hseq hen hwf hI hA hQ
    refine ⟨fun hr => ?_, fun j hj => ?_⟩
    · -- the least one is ready
      exfalso
      cases l with
      | nil => simp at hlen
      | cons i l =>
        obtain ⟨hi, hun⟩ := (hmem i).1 (by simp)
        have : i ∈ Region.ready .any ops listed := by
          refine mem_ready.2 ⟨hun, ops[i], by simp [hi], fun e he hb => ?_⟩
          have hlt := okDraw_back hok (j := i) (y := ops[i]) (by simp [hi]) e he hb
          rw [getD_of_size (by omega)]
          cases hq : listed.getD e.on true with
          | true => rfl
          | false =>
            have := (hmem e.on).2 ⟨by omega, hq⟩
            rcases List.mem_cons.1 this with h1 | h1
            · omega
            · have := (List.pairwise_cons.1 hp).1 _ h1; omega
        rw [hr] at this; cases this
    · obtain ⟨hun, o, ho, hdeps⟩ := mem_ready.1 hj
      have hjlt := (Array.getElem?_eq_some_iff.1 ho).1
      have hjl : j ∈ l := (hmem j).2 ⟨hjlt, hun⟩
      obtain ⟨l1, l2, rfl⟩ := List.append_of_mem hjl
      have hp' := List.pairwise_append.1 hp
      have hsw : ∀ i ∈ l1, Sw P ops (flagOf P ops (amasks ops.toList [])) lim st en i j := by
        intro i hi
        have hij : i < j := hp'.2.2 i hi j (by simp)
        have hbit : ((amasks ops.toList []).getD j 0).testBit i = false := by
          cases hb : ((amasks ops.toList []).getD j 0).testBit i with
          | false => rfl
          | true =>
            have h1 := hmask j o (by rw [hmlen]; exact hjlt) ho listed hcl hdeps i hb
            have h2 := ((hmem i).1 (by simp [hi])).2
            rw [getD_of_size (by rw [hsz]; omega)] at h1
            rw [h1] at h2; cases h2
        have hu : unord (amasks ops.toList []) i j = true := by unfold unord; rw [if_pos hij, hbit]; rfl
        exact ⟨fun x y hx hy => okDraw_pair hok hij hx hy hbit, hen i (by simp [hi]) j (by simp) hij, H1 i, fun x y hx hy hf hk => H2 i j x y hx hy hij hu hf hk⟩
      have hfront := seqS_front hCg l1 l2 hwf hsw hseq
      simp only [seqS] at hfront
      split at hfront
      · rename_i a2 t2 hstep
        have hwf2 := stepS_wf hCg hwf hstep
        obtain ⟨o', v, ho', hd, rfl⟩ := stepS_some hstep
        rw [ho] at ho'; cases ho'
        refine opD_sound hC hI hwf hA ho hd fun ρ' a2' w' hle hI' hA' => ?_
        have hpw : (l1 ++ l2).Pairwise (· < ·) := by
          refine List.pairwise_append.2 ⟨hp'.1, (List.pairwise_cons.1 hp'.2.1).2, fun x hx y hy => hp'.2.2 x hx y (by simp [hy])⟩
        have hnj1 : j ∉ l1 ++ l2 := by
          intro hq
          rcases List.mem_append.1 hq with hq | hq
          · have := hp'.2.2 j hq j (by simp); omega
          · have := (List.pairwise_cons.1 hp'.2.1).1 j hq; omega
        refine ih (l1 ++ l2) (listed.setIfInBounds j true) (by simp at hlen ⊢; omega) hpw (by simp [hsz]) (fun i => ?_) ?_ hfront
          (fun i hi k hk => hen i (by simp at hi ⊢; rcases hi with h | h <;> simp [h]) k (by simp at hk ⊢; rcases hk with h | h <;> simp [h])) hwf2 hI' hA' (fun ρ2 b w2 h1 => hQ ρ2 b w2 (Ren.le_trans hle h1))
        · by_cases hij : j = i
          · subst hij
            refine ⟨fun h => absurd h hnj1, fun h => ?_⟩
            have := h.2
            simp [hsz, hjlt] at this
          · rw [getD_set_ne true hij, ← hmem i]
            simp [Ne.symm hij]
        · intro d o2 hd2 hl2 e he hb
          by_cases hdj : j = d
          · subst hdj
            rw [ho] at hd2; cases hd2
            exact getD_set_true (hdeps e he hb)
          · rw [getD_set_ne false hdj] at hl2
            exact getD_set_true (hcl d o2 hd2 hl2 e he hb)
      · cases hfront

theorem draw_sound (hC : CallOK P B w0 C) (hCg : CGood C) {id : Nat} {ρ : Ren} {m m1 : M} {w : World} {a a' a1 : Act} {e : Out} {Q : Exit → Act → World → Prop} (hI : Inv P B w0 ρ m w) (hW : Wf m) (hA : ActRel ρ a a')
    (h : runDraw P C ops a m = some (e, a1, m1)) (hQ : Meets P B w0 ρ e a1 m1 Q) : (Code.region id ops true).wp P Q a' w := by
  unfold runDraw at h
  split at h
  · rename_i hok
    simp only [Bool.and_eq_true, decide_eq_true_eq] at hok
    obtain ⟨⟨hok, hmix⟩, hbar⟩ := hok
    dsimp only at h
    split at h
    · rename_i a2 k1 t1 hr
      cases h
      have hpw : (List.range ops.size).Pairwise (· < ·) := List.pairwise_lt_range
      obtain ⟨lim, st, en, h1, _, h3, h4, h5, h6⟩ := seqS_of_runD hCg (fun i j => firstFree_lt) _ hpw hr
      have inR : ∀ {i : Nat} {x : Oper}, ops[i]? = some x → i ∈ List.range ops.size := fun hx => List.mem_range.2 (Array.getElem?_eq_some_iff.1 hx).1
      have H1 : ∀ i x, ops[i]? = some x → kindOf P x = .l → lim i ≤ st i := by
        intro i x hx _
        cases hf : firstFree P ops (amasks ops.toList []) i with
        | none => rw [h6 i (inR hx) hf]; exact Nat.le_refl _
        | some q =>
          have hqi := firstFree_lt hf
          have hq : q ∈ List.range ops.size := List.mem_range.2 (by have := List.mem_range.1 (inR hx); omega)
          rw [(h5 i (inR hx) q hf).1 hq]
          exact Nat.le_trans (h3 q hq) (h4 q hq i (inR hx) hqi)
      have H2 : ∀ i j x y, ops[i]? = some x → ops[j]? = some y → i < j → unord (amasks ops.toList []) i j = true → flagK (kindOf P y) (kindOf P x) = true → kindOf P y = .l → lim j ≤ st i := by
        intro i j x y hx hy hij hu hf hk
        have hax : isAX (kindOf P x) = true := by
          rw [hk] at hf
          cases hkx : kindOf P x <;> rw [hkx] at hf <;> first | rfl | (cases hf)
        obtain ⟨q, hq1, hq2⟩ := firstFree_le hx hy hij hu hk hax
        have hq : q ∈ List.range ops.size := List.mem_range.2 (by have := List.mem_range.1 (inR hx); omega)
        rw [(h5 j (inR hy) q hq1).1 hq]
        rcases Nat.lt_or_ge q i with hlt | hge
        · exact Nat.le_trans (h3 q hq) (h4 q hq i (inR hx) hlt)
        · have : q = i := by omega
          rw [this]; exact Nat.le_refl _
      refine wp_region_any hmix ?_
      refine any_sound hok hC hCg H1 H2 ops.size (List.range ops.size) _ (by simp) hpw (by simp) (fun i => ?_) ?_ h1 h4 hW ((hI.tr 0 0).drew) hA fun ρ' b w' hle hI' hA' => ?_
      · simp only [List.mem_range]
        constructor
        · intro hi; exact ⟨hi, by simp [hi]⟩
        · exact fun h => h.1
      · intro d o hd hl
        have hdlt := (Array.getElem?_eq_some_iff.1 hd).1
        simp [hdlt] at hl
      · exact hQ ρ' _ b w' hle (hI'.tr _ _) hA' .normal
    · cases h
  · cases h

end Go.IM
