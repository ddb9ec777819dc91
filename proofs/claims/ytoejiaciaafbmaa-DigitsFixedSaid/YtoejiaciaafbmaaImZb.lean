/- The ideal machine, part Zb: what a call is handed, opened by its types. -/
import Derived.Test.YtoejiaciaafbmaaImZ
set_option linter.unusedVariables false
set_option linter.unusedSimpArgs false
namespace Go.IM
open Go Go.RowKit

variable {P : Program} {W : World} {H : Type} {enc : TypeId × Value → H}

theorem LRel.one {ρ : Ren} {x y : Value} (h : VRel ρ x y) : LRel ρ [x] [y] := ⟨h, trivial⟩

theorem trod_bool {fuel : Nat} {t : TypeId} {cs : List Value} {x : DataW H × List MemPlace} (hu : P.underlying t = some .bool) (h : DataW.trod enc P W 0 (fun _ => true) true (fuel + 1) t cs = some x) : ∃ b, cs = [.bool b] := by
  unfold DataW.trod at h
  rw [hu] at h
  split at h <;> first | (rename_i q _; cases q; done) | (rename_i q; cases q; done) | (cases h; done) | skip
  all_goals exact ⟨_, rfl⟩
theorem trod_int {fuel : Nat} {t : TypeId} {k : IntKind} {cs : List Value} {x : DataW H × List MemPlace} (hu : P.underlying t = some (.int k)) (h : DataW.trod enc P W 0 (fun _ => true) true (fuel + 1) t cs = some x) : ∃ n, cs = [.int k n] ∧ (Lit.int k n).wf = true := by
  unfold DataW.trod at h
  rw [hu] at h
  split at h <;> first | (rename_i q _; cases q; done) | (rename_i q; cases q; done) | (cases h; done) | skip
  all_goals rename_i q
  all_goals cases q
  all_goals split at h
  all_goals first | (cases h; done) | skip
  all_goals rename_i q
  all_goals obtain ⟨rfl, q2⟩ := q
  all_goals exact ⟨_, rfl, q2⟩
theorem trod_float {fuel : Nat} {t : TypeId} {k : FloatKind} {cs : List Value} {x : DataW H × List MemPlace} (hu : P.underlying t = some (.float k)) (h : DataW.trod enc P W 0 (fun _ => true) true (fuel + 1) t cs = some x) : ∃ n, cs = [.float k n] := by
  unfold DataW.trod at h
  rw [hu] at h
  split at h <;> first | (rename_i q _; cases q; done) | (rename_i q; cases q; done) | (cases h; done) | skip
  all_goals rename_i q
  all_goals cases q
  all_goals split at h
  all_goals first | (cases h; done) | skip
  all_goals rename_i q
  all_goals obtain ⟨rfl, q2⟩ := q
  all_goals exact ⟨_, rfl⟩
theorem trod_string {fuel : Nat} {t : TypeId} {cs : List Value} {x : DataW H × List MemPlace} (hu : P.underlying t = some .string) (h : DataW.trod enc P W 0 (fun _ => true) true (fuel + 1) t cs = some x) : ∃ s, cs = [.string s] ∧ s.size ≤ maxLen := by
  unfold DataW.trod at h
  rw [hu] at h
  split at h <;> first | (rename_i q _; cases q; done) | (rename_i q; cases q; done) | (cases h; done) | skip
  all_goals split at h
  all_goals first | (cases h; done) | skip
  all_goals rename_i q
  all_goals exact ⟨_, rfl, q⟩
theorem trod_struct {fuel : Nat} {t : TypeId} {fs : Array Field} {cs : List Value} {x : DataW H × List MemPlace} (hu : P.underlying t = some (.struct fs)) (h : DataW.trod enc P W 0 (fun _ => true) true (fuel + 1) t cs = some x) :
    cs.length = P.cellsOf t ∧ ∀ fd ∈ fs.toList, ∃ y, DataW.trod enc P W 0 (fun _ => true) true fuel fd.type ((cs.drop fd.offset).take (P.cellsOf fd.type)) = some y := by
  unfold DataW.trod at h
  rw [hu] at h
  split at h <;> first | (rename_i q _; cases q; done) | (rename_i q; cases q; done) | (cases h; done) | skip
  all_goals try (rename_i q; cases q)
  all_goals split at h
  all_goals first | (cases h; done) | skip
  all_goals rename_i q
  all_goals simp only [Option.map_eq_some_iff] at h
  all_goals obtain ⟨r, hr, _⟩ := h
  all_goals exact ⟨q, mapM_mem hr⟩
theorem trod_array {fuel : Nat} {t : TypeId} {n : Nat} {e : TypeId} {cs : List Value} {x : DataW H × List MemPlace} (hu : P.underlying t = some (.array n e)) (h : DataW.trod enc P W 0 (fun _ => true) true (fuel + 1) t cs = some x) :
    cs.length = P.cellsOf t ∧ ∀ i ∈ List.range n, ∃ y, DataW.trod enc P W 0 (fun _ => true) true fuel e ((cs.drop (i * P.cellsOf e)).take (P.cellsOf e)) = some y := by
  unfold DataW.trod at h
  rw [hu] at h
  split at h <;> first | (rename_i q _; cases q; done) | (rename_i q; cases q; done) | (cases h; done) | skip
  all_goals try (rename_i q; cases q)
  all_goals split at h
  all_goals first | (cases h; done) | skip
  all_goals rename_i q
  all_goals simp only [Option.map_eq_some_iff] at h
  all_goals obtain ⟨r, hr, _⟩ := h
  all_goals exact ⟨q, mapM_mem hr⟩
theorem trod_slice {fuel : Nat} {t e : TypeId} {cs : List Value} {x : DataW H × List MemPlace} (hu : P.underlying t = some (.slice e)) (h : DataW.trod enc P W 0 (fun _ => true) true (fuel + 1) t cs = some x) :
    cs = [.slice none 0 0] ∨ ∃ a len cap, cs = [.slice (some a) len cap] ∧ len ≤ cap ∧ cap ≤ maxLen ∧
      ∀ i, i < cap → ∃ l y, W.cells? 0 (a.add (i * P.cellsOf e)) (P.cellsOf e) = some l ∧ DataW.trod enc P W 0 (fun _ => true) true fuel e l = some y := by
  unfold DataW.trod at h
  rw [hu] at h
  split at h <;> first | (rename_i q _; cases q; done) | (rename_i q; cases q; done) | (cases h; done) | skip
  · exact .inl rfl
  · rename_i a len cap q
    cases q
    right
    split at h
    · rename_i hc
      refine ⟨a, len, cap, rfl, hc.2.1, hc.2.2, ?_⟩
      simp only [Option.bind_eq_some_iff] at h
      obtain ⟨r, hr, h⟩ := h
      rw [if_pos trivial] at h
      simp only [Option.map_eq_some_iff] at h
      obtain ⟨r2, hr2, _⟩ := h
      intro i hi
      by_cases hil : i < len
      · obtain ⟨y, hy⟩ := mapM_mem hr i (by simp [hil])
        simp only [Option.bind_eq_some_iff] at hy
        obtain ⟨l, h1, h2⟩ := hy
        exact ⟨l, y, h1, h2⟩
      · obtain ⟨y, hy⟩ := mapM_mem hr2 (i - len) (by simp; omega)
        rw [show len + (i - len) = i by omega] at hy
        simp only [Option.bind_eq_some_iff] at hy
        obtain ⟨l, h1, h2⟩ := hy
        exact ⟨l, y, h1, h2⟩
    · cases h

theorem tiled_take (cs : List Value) {fd : Field} {sz tot : Nat} (hl : cs.length = tot) (h : fd.offset + sz ≤ tot) : ((cs.drop fd.offset).take sz).length = sz := by
  rw [List.length_take, List.length_drop]; omega

theorem opens_of_trod : ∀ (fuel f : Nat) {t : TypeId} {cs : List Value} {x : DataW H × List MemPlace}, DataW.trod enc P W 0 (fun _ => true) true fuel t cs = some x → pureT P f t = true → Opens P W f t cs ∧ cs.length = P.cellsOf t := by
  intro fuel
  induction fuel with
  | zero => intro f t cs x h; simp [DataW.trod] at h
  | succ fuel ih =>
    intro f t cs x h hp
    cases f with
    | zero => simp [pureT] at hp
    | succ f =>
      unfold pureT at hp
      split at hp
      · rename_i hu
        obtain ⟨b, rfl⟩ := trod_bool hu h
        simp only [decide_eq_true_eq] at hp
        exact ⟨fun ρ m hI => ⟨ρ, m, _, Ren.le_refl _, Ext.refl _, hI, LRel.one (.bool _), by unfold OkV; rw [hu]; exact ⟨_, rfl⟩⟩, by rw [hp]; rfl⟩
      · rename_i k hu
        obtain ⟨n, rfl, hwf⟩ := trod_int hu h
        simp only [decide_eq_true_eq] at hp
        exact ⟨fun ρ m hI => ⟨ρ, m, _, Ren.le_refl _, Ext.refl _, hI, LRel.one (.int _ _), by unfold OkV; rw [hu]; exact ⟨_, rfl, hwf⟩⟩, by rw [hp]; rfl⟩
      · rename_i k hu
        obtain ⟨n, rfl⟩ := trod_float hu h
        simp only [decide_eq_true_eq] at hp
        exact ⟨fun ρ m hI => ⟨ρ, m, _, Ren.le_refl _, Ext.refl _, hI, LRel.one (.float _ _), by unfold OkV; rw [hu]; exact ⟨_, rfl⟩⟩, by rw [hp]; rfl⟩
      · rename_i hu
        obtain ⟨s, rfl, hs⟩ := trod_string hu h
        simp only [decide_eq_true_eq] at hp
        exact ⟨fun ρ m hI => ⟨ρ, m, _, Ren.le_refl _, Ext.refl _, hI, LRel.one (.string _), by unfold OkV; rw [hu]; exact ⟨_, rfl, hs⟩⟩, by rw [hp]; rfl⟩
      · rename_i e hu
        simp only [Bool.and_eq_true, decide_eq_true_eq] at hp
        obtain ⟨⟨hp1, hp2⟩, hp3⟩ := hp
        rcases trod_slice hu h with rfl | ⟨a, len, cap, rfl, hlc, hcm, hel⟩
        · exact ⟨fun ρ m hI => ⟨ρ, m, _, Ren.le_refl _, Ext.refl _, hI, LRel.one .sliceNil, by unfold OkV; rw [hu]; exact .inl rfl⟩, by rw [hp1]; rfl⟩
        · refine ⟨fun ρ m hI => ?_, by rw [hp1]; rfl⟩
          rcases Nat.eq_zero_or_pos cap with hc0 | hcap
          · subst hc0
            obtain rfl : len = 0 := by omega
            exact ⟨ρ, m, [.slice (some ⟨0, 0, none⟩) 0 0], Ren.le_refl _, Ext.refl _, hI, LRel.one (.slice0 _ _), by unfold OkV; rw [hu]; exact .inr (.inl ⟨0, rfl⟩)⟩
          · obtain ⟨l0, y0, h0, _⟩ := hel 0 hcap
            rw [Nat.zero_mul] at h0
            obtain ⟨c, e1, fr, hb, hspot, hfit0, _⟩ := cells?_some hp2 h0
            change W.heap[a.block]? = _ at hb
            change a.spot = none at hspot
            have hcell : ∀ i, i < cap → a.off + i * P.cellsOf e + P.cellsOf e ≤ c.size ∧ ∃ y, DataW.trod enc P W 0 (fun _ => true) true fuel e ((c.toList.drop (a.off + i * P.cellsOf e)).take (P.cellsOf e)) = some y := by
              intro i hi
              obtain ⟨l, y, h1, h2⟩ := hel i hi
              obtain ⟨c', e1', fr', hb', _, hfit, rfl⟩ := cells?_some hp2 h1
              have hblk : (a.add (i * P.cellsOf e)).block = a.block := by unfold Addr.add; split <;> rfl
              have hoff : (a.add (i * P.cellsOf e)).off = a.off + i * P.cellsOf e := by unfold Addr.add; split <;> simp_all
              rw [hblk, hb] at hb'
              cases hb'
              rw [hoff] at hfit h2
              exact ⟨hfit, y, h2⟩
            have hfit : a.off + cap * P.cellsOf e ≤ c.size := by
              have := (hcell (cap - 1) (by omega)).1
              have e2 : cap * P.cellsOf e = (cap - 1) * P.cellsOf e + P.cellsOf e := by
                conv => lhs; rw [show cap = (cap - 1) + 1 by omega]
                rw [Nat.succ_mul]
              omega
            -- the chunks
            obtain ⟨ρ1, m1, cs0, g1, g2, g3, g4, g5⟩ := opens_chunks (P := P) (W := W) (f := f) ((List.range cap).map fun i => (e, (((c.toList.drop a.off).drop (i * P.cellsOf e)).take (P.cellsOf e)))) (by
              intro p hpm
              rw [List.mem_map] at hpm
              obtain ⟨i, hi, rfl⟩ := hpm
              rw [List.mem_range] at hi
              obtain ⟨_, y, hy⟩ := hcell i hi
              dsimp only
              rw [List.drop_drop]
              have := ih f hy hp3
              exact ⟨this.2, this.1⟩) ρ m hI
            have hflat : (((List.range cap).map fun i => (e, (((c.toList.drop a.off).drop (i * P.cellsOf e)).take (P.cellsOf e)))).flatMap (·.2)) = (c.toList.drop a.off).take (cap * P.cellsOf e) := by
              rw [List.flatMap_map]; exact flatMap_tiles _ _ _
            rw [hflat] at g4
            have hmap : (((List.range cap).map fun i => (e, (((c.toList.drop a.off).drop (i * P.cellsOf e)).take (P.cellsOf e)))).map (·.1)) = List.replicate cap e := by
              rw [List.map_map]
              apply List.ext_getElem
              · simp
              · intro i h1 h2; simp
            rw [hmap] at g5
            have hlen : cs0.length = cap * P.cellsOf e := by
              rw [g4.length, List.length_take, List.length_drop, Array.length_toList]; omega
            obtain ⟨k1, k2⟩ := g3.add (g := a.block) (base := a.off) (c := cs0.toArray) (e := e) hb (by simp; omega) (by
              intro k x hx
              obtain ⟨y, h1, h2⟩ := g4.get k x (by simpa using hx)
              have hk : k < cap * P.cellsOf e := by
                have := (List.getElem?_eq_some_iff.1 h1).1
                rw [List.length_take] at this
                omega
              rw [List.getElem?_take, if_pos hk, List.getElem?_drop, Array.getElem?_toList] at h1
              exact ⟨y, h1, h2⟩)
            refine ⟨_, _, [.slice (some ⟨m1.nxt, 0, none⟩) len cap], Ren.le_trans g1 k2, g2.trans (g3.ro.ext _ _), k1, LRel.one ?_, ?_⟩
            · obtain ⟨ab, ao, asp⟩ := a
              dsimp only at hspot
              subst hspot
              exact VRel.slice (o := 0) (Ren.upd_same _ _ _) hlc (by simp; omega) (.inl rfl)
            · unfold OkV; rw [hu]
              refine .inr (.inr ⟨m1.nxt, len, cap, cs0.toArray, rfl, hcap, hlc, hcm, by rw [get_addRo, if_pos rfl], ?_⟩)
              exact chunksOK_mono (fun _ _ => OkV_ext (g3.ro.ext _ _) f) g5
      · rename_i fs hu
        simp only [Bool.and_eq_true, List.all_eq_true] at hp
        obtain ⟨hp1, hp2⟩ := hp
        obtain ⟨hlen, hel⟩ := trod_struct hu h
        obtain ⟨t1, _, t3⟩ := flatMap_tiled cs fs.toList 0 hp1
        refine ⟨fun ρ m hI => ?_, hlen⟩
        obtain ⟨ρ1, m1, cs0, g1, g2, g3, g4, g5⟩ := opens_chunks (P := P) (W := W) (f := f) (fs.toList.map fun fd => (fd.type, (cs.drop fd.offset).take (P.cellsOf fd.type))) (by
          intro p hpm
          rw [List.mem_map] at hpm
          obtain ⟨fd, hfd, rfl⟩ := hpm
          obtain ⟨y, hy⟩ := hel fd hfd
          have := ih f hy (hp2 fd hfd)
          exact ⟨this.2, this.1⟩) ρ m hI
        rw [List.flatMap_map, t1] at g4
        simp only [List.drop_zero, Nat.sub_zero] at g4
        rw [List.take_of_length_le (by omega)] at g4
        rw [List.map_map] at g5
        exact ⟨ρ1, m1, cs0, g1, g2, g3, g4, by unfold OkV; rw [hu]; exact g5⟩
      · rename_i n e hu
        simp only [Bool.and_eq_true, decide_eq_true_eq] at hp
        obtain ⟨hp1, hp2⟩ := hp
        obtain ⟨hlen, hel⟩ := trod_array hu h
        refine ⟨fun ρ m hI => ?_, hlen⟩
        obtain ⟨ρ1, m1, cs0, g1, g2, g3, g4, g5⟩ := opens_chunks (P := P) (W := W) (f := f) ((List.range n).map fun i => (e, (cs.drop (i * P.cellsOf e)).take (P.cellsOf e))) (by
          intro p hpm
          rw [List.mem_map] at hpm
          obtain ⟨i, hi, rfl⟩ := hpm
          obtain ⟨y, hy⟩ := hel i hi
          have := ih f hy hp2
          exact ⟨this.2, this.1⟩) ρ m hI
        rw [List.flatMap_map, flatMap_tiles, List.take_of_length_le (by omega)] at g4
        have hmap : (((List.range n).map fun i => (e, (cs.drop (i * P.cellsOf e)).take (P.cellsOf e))).map (·.1)) = List.replicate n e := by
          rw [List.map_map]
          apply List.ext_getElem
          · simp
          · intro i h1 h2; simp
        rw [hmap] at g5
        exact ⟨ρ1, m1, cs0, g1, g2, g3, g4, by unfold OkV; rw [hu]; exact g5⟩
      · cases hp

end Go.IM
