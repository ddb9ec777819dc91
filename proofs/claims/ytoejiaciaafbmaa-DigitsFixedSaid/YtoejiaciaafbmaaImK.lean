/- The ideal machine, part K: append. -/
import Derived.Test.YtoejiaciaafbmaaImJ
namespace Go.IM
open Go Go.RowKit

variable {P : Program} {B : Nat} {w0 : World} {ρ : Ren} {m m' : M} {w : World}

section
variable {ts : Array TypeId} {t xt e ty : TypeId} {ti : TypeInfo} {z : Value}

/-- There is room. -/
theorem run_append_room' (h0 : ts[0]? = some t) (h1 : ts[1]? = some xt) (hu : P.underlying t = some (.slice e)) (hx : (∃ e', P.underlying xt = some (.slice e')) ∨ P.underlying xt = some .string)
    (hi : P.info? e = some ti) {base : Option Addr} {len cap n : Nat} {x : Value} {cs : Array Value} (hl : (Builtin.lenOf x).run P w = .ok n w) (hf : (Builtin.firstCells ti.size n x).run P w = .ok cs w) (hroom : len + n ≤ cap) :
    (Builtin.append_ ts ty #[.slice base len cap, x]).run P w =
      match base with
      | some a => ((storeCells (a.add (len * ti.size)) cs.toList).run P w).andThen fun _ w' => .ok (.slice base (len + n) cap) w'
      | none => .ok (.slice base (len + n) cap) w := by
  rcases hx with ⟨e', hx⟩ | hx <;> cases base <;> simp [Builtin.append_, h0, h1, run_underlying hu, run_underlying hx, run_sizeOf hi, hl, hroom, hf]

/-- There is none. -/
theorem run_append_more (h0 : ts[0]? = some t) (h1 : ts[1]? = some xt) (hu : P.underlying t = some (.slice e)) (hx : (∃ e', P.underlying xt = some (.slice e')) ∨ P.underlying xt = some .string)
    (hi : P.info? e = some ti) (hz : ∀ w, (zeroValue e).run P w = .ok z w) {base : Option Addr} {len cap n : Nat} {x : Value} {cs olds : Array Value} (hl : (Builtin.lenOf x).run P w = .ok n w)
    (hf : (Builtin.firstCells ti.size n x).run P w.drew = .ok cs w.drew) (ho : (Builtin.firstCells ti.size len (.slice base len cap)).run P w.drew = .ok olds w.drew) (hroom : ¬ len + n ≤ cap)
    (h63 : len + n ≤ 9223372036854775807) (hby : (len + n) * ti.bytes ≤ 140737488355328) :
    (Builtin.append_ ts ty #[.slice base len cap, x]).run P w =
      .ok (.slice (some ⟨w.heap.size, 0, none⟩) (len + n) (grownCap w (len + n) cap e)) (w.drew.alloc (.cells (olds ++ cs ++ Builtin.zeroCells z.cells (grownCap w (len + n) cap e - (len + n))) e)) := by
  have hgr := growslice_fits (need := len + n) (old := cap) (bytes := ti.bytes) (by omega) hby
  have h63' : ¬ (9223372036854775807 < ((len : Int) + (n : Int))) := by omega
  have h48' : ¬ (281474976710656 < Builtin.nextslicecap (len + n) cap * ti.bytes) := by omega
  rcases hx with ⟨e', hx⟩ | hx <;>
    simp [Builtin.append_, h0, h1, run_underlying hu, run_underlying hx, run_sizeOf hi, run_typeInfo hi, hl, hroom, hf, ho, h63', h48', hz, Question.forced, run_newRow, grownCap]
end

theorem run_drew_cells (w : World) (a : Addr) : w.drew.cell? a = w.cell? a := rfl

theorem zeroCells_size (z : Array Value) (n : Nat) : (Builtin.zeroCells z n).size = n * z.size := by simp [Builtin.zeroCells]

theorem append_core (h : Inv P B w0 ρ m w) {ts : Array TypeId} {t xt e ty : TypeId} {ti : TypeInfo} {z : Value} {s' x x' v : Value} {base : Option Addr} {len cap : Nat} (h0 : ts[0]? = some t) (hxt1 : ts[1]? = some xt)
    (hu : P.underlying t = some (.slice e)) (hxt : (∃ e', P.underlying xt = some (.slice e')) ∨ P.underlying xt = some .string) (hti : P.info? e = some ti) (hz : zeroOf P e = some z) (hs0 : ti.size ≠ 0) (hzs : z.cells.size = ti.size)
    (hs : VRel ρ (.slice base len cap) s') (hx : VRel ρ x x') (ha : iappendCore P e ti base len cap x m = some (v, m')) :
    ∃ v' w' ρ', (Builtin.append_ ts ty #[s', x']).run P w = .ok v' w' ∧ ρ.le ρ' ∧ Inv P B w0 ρ' m' w' ∧ VRel ρ' v v' := by
  have hzr := fun w => (zeroOf_run hz w).1
  unfold iappendCore at ha
  split at ha
  · rename_i n cs hnews
    obtain ⟨hlen, cs', hvcs, hcsz, hfc, hfc'⟩ := news_sound h hx hnews
    split at ha
    · -- nothing is appended
      rename_i hn0
      subst hn0
      split at ha
      · rename_i hlc
        cases ha
        have hcs0 : cs' = #[] := by
          refine Array.eq_empty_of_size_eq_zero ?_
          rw [← hvcs.1, hcsz]; simp
        subst hcs0
        refine ⟨s', w, ρ, ?_, Ren.le_refl _, h, hs⟩
        cases base with
        | none =>
          cases hs
          rw [run_append_room' h0 hxt1 hu hxt hti hlen hfc (by omega)]
        | some a =>
          obtain ⟨i, o, sp⟩ := a
          have hform : ∃ a' cap', s' = .slice (some a') len cap' ∧ len ≤ cap' := by
            cases hs
            · rename_i hb hc hr
              refine ⟨_, _, rfl, ?_⟩
              omega
            · exact ⟨_, _, rfl, Nat.le_refl _⟩
          obtain ⟨a', cap', rfl, hle⟩ := hform
          rw [run_append_room' h0 hxt1 hu hxt hti hlen hfc (by omega)]
          simp [storeCells]
      · cases ha
    · rename_i hn0
      split at ha
      · cases ha
      · rename_i hbd
        have hby : (len + n) * ti.bytes ≤ 140737488355328 := by
          by_cases e : (len + n) * ti.bytes > 140737488355328
          · exact absurd (.inl e) hbd
          · omega
        have h63 : len + n ≤ 9223372036854775807 := by
          by_cases e : len + n > 9223372036854775807
          · exact absurd (.inr (.inl e)) hbd
          · omega
        have hec : P.cellsOf e = ti.size := cellsOf_info hti
        -- a new row that holds some cells, and these
        have fresh : ∀ (c0 c0' : Array Value) (base' : Option Addr) (cap' : Nat) (a : Addr) (m1 : M), m.new (c0 ++ cs) e = some (a, m1) → VsRel ρ c0 c0' → c0.size = len * ti.size → ¬ len + n ≤ cap' →
            (Builtin.firstCells ti.size len (.slice base' len cap')).run P w.drew = .ok c0' w.drew → s' = .slice base' len cap' →
            ∃ v' w' ρ', (Builtin.append_ ts ty #[s', x']).run P w = .ok v' w' ∧ ρ.le ρ' ∧ Inv P B w0 ρ' m1 w' ∧ VRel ρ' (.slice (some a) (len + n) (len + n)) v' := by
          intro c0 c0' base' cap' a m1 hnew hc0 hc0s hroom hold hs'
          subst hs'
          have hrun := run_append_more (P := P) (ty := ty) h0 hxt1 hu hxt hti hzr hlen (hfc' w.drew (fun a => rfl)) hold hroom h63 hby
          have hge := grownCap_ge w (len + n) cap' e
          have hcsz' : cs'.size = n * ti.size := by rw [← hvcs.1]; exact hcsz
          have hc0s' : c0'.size = len * ti.size := by rw [← hc0.1]; exact hc0s
          have hbig : (c0' ++ cs' ++ Builtin.zeroCells z.cells (grownCap w (len + n) cap' e - (len + n))).size = grownCap w (len + n) cap' e * ti.size := by
            simp only [Array.size_append, zeroCells_size, hzs, hcsz', hc0s', ← Nat.add_mul]
            congr 1
            omega
          have happ := hc0.append hvcs
          obtain ⟨rfl, _, hf, hle, hinv⟩ := h.drew.new_sound (e' := e) (c' := c0' ++ cs' ++ Builtin.zeroCells z.cells (grownCap w (len + n) cap' e - (len + n))) hnew (by simp [hc0.1, hvcs.1])
            (fun k x y hx hy => by
              have hk := (Array.getElem?_eq_some_iff.1 hx).1
              rw [Array.getElem?_append, if_pos (by rw [← happ.1]; exact hk)] at hy
              exact happ.2 k x y hx hy) (0, 0) (.inl rfl)
          refine ⟨_, _, _, hrun, hle, hinv, ?_⟩
          refine slice_new (Ren.upd_same _ _ _) (Nat.le_refl _) ?_ hge ?_
          · rw [hec, Array.size_append, hc0s, hcsz, Nat.add_mul]
          · rw [hec, hbig]; exact Nat.le_refl _
        cases base with
        | none =>
          dsimp only at ha
          split at ha
          · rename_i hnil
            obtain ⟨rfl, rfl⟩ := hnil
            split at ha
            · rename_i a m1 hnew
              cases ha
              cases hs
              have := fresh #[] #[] none 0 a m' (by simpa using hnew) (VsRel.nil _) (by simp) (by omega) (by simp [Builtin.firstCells]) rfl
              simpa using this
            · cases ha
          · cases ha
        | some aa =>
          obtain ⟨i, o, sp⟩ := aa
          cases sp with
          | some => cases ha
          | none =>
          dsimp only at ha
          split at ha
          · rename_i b hal
            split at ha
            · rename_i c e' fr hobj
              split at ha
              · cases ha
              · rename_i hce
                have hce : P.cellsOf e' = ti.size := by
                  by_cases q : P.cellsOf e' = ti.size
                  · exact q
                  · exact absurd q hce
                obtain ⟨r, hr, hh⟩ := h.re hal
                have hh0 := hh
                unfold Holds at hh
                rw [hobj] at hh
                obtain ⟨hn1, hsz1, c', ee, fr', hheap, hbs, hcells, hro1, hro2⟩ := hh
                rw [hce] at hsz1
                -- what the slice is here
                have hsl := hs.slice_inv
                split at ha
                · -- there is room
                  rename_i hroom
                  simp only [Option.map_eq_some_iff, Prod.mk.injEq] at ha
                  obtain ⟨m1, hst, rfl, rfl⟩ := ha
                  rcases hsl with ⟨r', cap', rfl, hr', hlc, hb, hc⟩ | ⟨rfl, rfl, a', rfl⟩
                  · rw [hr] at hr'; cases hr'
                    obtain ⟨r2, w', hr2, hb2, hrun, hinv, _⟩ := h.store_sound (vs' := cs'.toList) hst (by simpa using hvcs.1) (fun k x y hx hy => hvcs.2 k x y (by simpa using hx) (by simpa using hy))
                    rw [hr] at hr2; cases hr2
                    have hcc : cap ≤ cap' := by omega
                    refine ⟨.slice (some ⟨r.g, r.base + o, none⟩) (len + n) cap', w', ρ, ?_, Ren.le_refl _, hinv, .slice hr (by omega) hb hc⟩
                    rw [run_append_room' h0 hxt1 hu hxt hti hlen hfc (by omega)]
                    dsimp only
                    rw [add_plain, hb2, Nat.zero_add, hrun]
                    rfl
                  · omega
                · rename_i hroom
                  split at ha
                  · -- it is capped
                    rename_i hcap
                    split at ha
                    · rename_i hfit
                      split at ha
                      · rename_i a m1 hnew
                        cases ha
                        have hext : (c.extract o (o + len * ti.size)).size = len * ti.size := by simp; omega
                        rcases hsl with ⟨r', cap', rfl, hr', hlc, hb, hc⟩ | ⟨rfl, rfl, a', rfl⟩
                        · rw [hr] at hr'; cases hr'
                          rw [hsz1] at hb hc
                          have hcc : cap' = cap := by
                            rcases hc with h1 | ⟨k1, k2, k3, k4⟩
                            · exact h1.symm
                            · rcases hcap with h2 | h2
                              · omega
                              · obtain ⟨_, hN⟩ := hro1 h2
                                have : cap' * ti.size ≤ cap * ti.size := by omega
                                have := Nat.le_of_mul_le_mul_right this (by omega)
                                omega
                          subst hcc
                          have hcs0 : m.cells i o (len * ti.size) = some (c.extract o (o + len * ti.size)) := by
                            simp [M.cells, M.row, hal, hobj, hfit]
                          obtain ⟨r3, c0', hr3, _, hv3, hs3, hcell3, _⟩ := h.cells_sound hcs0
                          rw [hr] at hr3; cases hr3
                          have hload := run_loadCells_list (P := P) w.drew ⟨r.g, r.base + o, none⟩ c0'.toList (fun j v hj => hcell3 j v hj)
                          rw [Array.toArray_toList, show c0'.toList.length = len * ti.size by rw [Array.length_toList, ← hv3.1, hs3]] at hload
                          exact fresh _ c0' (some ⟨r.g, r.base + o, none⟩) cap' a m' hnew hv3 hext (by omega) (by simp [Builtin.firstCells, hload]) rfl
                        · refine fresh _ #[] (some a') 0 a m' hnew ?_ hext (by omega) (by simp [Builtin.firstCells, loadCells, loadCellsFrom]) rfl
                          have : c.extract o (o + 0 * ti.size) = #[] := by simp; omega
                          rw [this]; exact VsRel.nil _
                      · cases ha
                    · cases ha
                  · rename_i hncap
                    split at ha
                    · rename_i hgrow
                      obtain ⟨rfl, rfl, hsup, hcsize, _⟩ := hgrow
                      have hbro : b.ro = false := by
                        by_cases q : b.ro = true
                        · exact absurd (.inr q) hncap
                        · simpa using q
                      split at ha
                      · rename_i hfree
                        cases ha
                        obtain ⟨k1, k2, k3, k4⟩ := hro2 hbro
                        rw [k2, Nat.zero_add] at hbs
                        rw [k2] at hcells
                        simp only [Nat.zero_add] at hcells
                        have hrl := h.dom _ hfree
                        -- it moves to a new row
                        have moves : ∀ (base' : Option Addr) (cap' : Nat) (c0' : Array Value), s' = .slice base' len cap' → ¬ len + n ≤ cap' → VsRel ρ c c0' →
                            (Builtin.firstCells ti.size len (.slice base' len cap')).run P w.drew = .ok c0' w.drew →
                            ∃ v' w' ρ', (Builtin.append_ ts ty #[s', x']).run P w = .ok v' w' ∧ ρ.le ρ' ∧ Inv P B w0 ρ' (m.gen i b (.cells (c ++ cs) e' fr)) w' ∧
                              VRel ρ' (.slice (some ⟨m.nxt, 0, none⟩) (len + n) (len + n)) v' := by
                          intro base' cap' c0' hs' hroom' hc0 hold
                          subst hs'
                          have hrun := run_append_more (P := P) (ty := ty) h0 hxt1 hu hxt hti hzr hlen (hfc' w.drew (fun a => rfl)) hold hroom' h63 hby
                          have hge := grownCap_ge w (len + n) cap' e
                          have hcsz' : cs'.size = n * ti.size := by rw [← hvcs.1]; exact hcsz
                          have hc0s' : c0'.size = len * ti.size := by rw [← hc0.1]; exact hcsize
                          have hbig : (c0' ++ cs' ++ Builtin.zeroCells z.cells (grownCap w (len + n) cap' e - (len + n))).size = grownCap w (len + n) cap' e * ti.size := by
                            simp only [Array.size_append, zeroCells_size, hzs, hcsz', hc0s', ← Nat.add_mul]
                            congr 1
                            omega
                          have happ := hc0.append hvcs
                          have hle := Ren.le_upd ρ m.nxt ⟨w.heap.size, 0, (c ++ cs).size, grownCap w (len + n) cap' e * ti.size, ti.size⟩ hrl
                          refine ⟨_, _, _, hrun, hle, h.gen hfree hal hbro hsup hr _ ⟨w.heap.size, 0, (c ++ cs).size, grownCap w (len + n) cap' e * ti.size, ti.size⟩ ?_ ?_ ?_ (.inr ?_), ?_⟩
                          · exact h.drew.below.alloc (Nat.le_trans h.size h.below.size) _
                          · intro j bj rj hj hrj
                            have h1 := h.holds j bj rj hj hrj
                            exact (h1.of_block (Below.heap_alloc w.drew _ rj.g (holds_lt h1))).mono hle
                          · unfold Holds
                            dsimp only
                            refine ⟨rfl, hce.symm, _, e, (0, 0), heap_alloc_new w.drew _, ?_, ?_, (fun q => by cases q), fun _ => ⟨Nat.le_trans h.size h.below.size, rfl, hbig.symm, .inl rfl⟩⟩
                            · simp [hc0.1, hvcs.1]
                            · intro k x hx
                              obtain ⟨y, hy, hv⟩ := happ.get hx
                              refine ⟨y, ?_, hv.mono hle⟩
                              rw [Nat.zero_add, Array.getElem?_append, if_pos (Array.getElem?_eq_some_iff.1 hy).1]; exact hy
                          · intro j bj rj hj hrj
                            have := holds_lt (h.holds j bj rj hj hrj)
                            dsimp only
                            omega
                          · refine slice_new (Ren.upd_same _ _ _) (Nat.le_refl _) ?_ hge (Nat.le_refl _)
                            rw [Array.size_append, hcsize, hcsz, Nat.add_mul]
                        rcases hsl with ⟨r', cap', rfl, hr', hlc, hb, hc⟩ | ⟨rfl, _, a', rfl⟩
                        · rw [hr] at hr'; cases hr'
                          rw [hsz1] at hb hc
                          by_cases hroom' : len + n ≤ cap'
                          · -- in place
                            obtain ⟨q1, q2, q3, q4⟩ : r.base = 0 ∧ 0 + len * ti.size = r.n ∧ len ≤ cap' ∧ 0 + cap' * ti.size ≤ r.N := by
                              rcases hc with h1 | h1
                              · omega
                              · exact h1
                            have hcsz' : cs'.size = n * ti.size := by rw [← hvcs.1]; exact hcsz
                            have hspace : len * ti.size + n * ti.size ≤ c'.size := by
                              rw [← Nat.add_mul]
                              have := Nat.mul_le_mul_right ti.size hroom'
                              omega
                            have hone : ∀ v ∈ cs'.toList, one v = true := by
                              intro v hv
                              obtain ⟨k, hk, rfl⟩ := List.mem_iff_getElem.1 hv
                              have hk' : k < cs.size := by rw [hvcs.1]; simpa using hk
                              have hrel := hvcs.2 k cs[k] cs'.toList[k] (Array.getElem?_eq_getElem hk') (by simp at hk; simp [hk])
                              have h1 : one cs[k] = true := by
                                by_cases q : cs.all one = true
                                · rw [Array.all_eq_true'] at q; exact q _ (Array.getElem_mem hk')
                                · exact absurd (.inr (.inr (by simpa using q))) hbd
                              revert h1 hrel
                              generalize cs[k] = a
                              generalize cs'.toList[k] = b
                              intro hrel h1
                              cases hrel <;> first | rfl | (simp [one] at h1)
                            have hst := run_storeCells (P := P) r.g ee fr' (len * ti.size) cs'.toList 0 c' w hheap k4 (by simp; omega) hone
                            simp only [Nat.add_zero] at hst
                            have hwr : ∀ (l : List Value) (o : Nat) (a : Array Value) (k : Nat), (k < o → (wr a o l)[k]? = a[k]?) ∧ (o ≤ k → k < o + l.length → o + l.length ≤ a.size → (wr a o l)[k]? = l[k - o]?) := by
                              intro l
                              induction l with
                              | nil => intro o a k; exact ⟨fun _ => rfl, fun h1 h2 => by simp at h2; omega⟩
                              | cons v l ih =>
                                intro o a k
                                simp only [wr]
                                obtain ⟨i1, i2⟩ := ih (o + 1) (a.setIfInBounds o v) k
                                refine ⟨fun hk => ?_, fun hk1 hk2 hk3 => ?_⟩
                                · rw [i1 (by omega), Array.getElem?_setIfInBounds, if_neg (by omega)]
                                · by_cases q : k = o
                                  · subst q
                                    rw [i1 (by omega), Array.getElem?_setIfInBounds, if_pos rfl]
                                    simp at hk3
                                    rw [if_pos (by omega)]
                                    simp
                                  · simp at hk2 hk3
                                    rw [i2 (by omega) (by omega) (by simp; omega)]
                                    rw [show k - o = (k - (o + 1)) + 1 by omega]
                                    simp
                            have hle := Ren.le_upd ρ m.nxt ⟨r.g, 0, (c ++ cs).size, c'.size, ti.size⟩ hrl
                            refine ⟨.slice (some ⟨r.g, r.base + 0, none⟩) (len + n) cap', w.setRow r.g (wr c' (len * ti.size) cs'.toList), ρ.upd m.nxt ⟨r.g, 0, (c ++ cs).size, c'.size, ti.size⟩, ?_, hle, h.gen hfree hal hbro hsup hr _ _ ?_ ?_ ?_ (.inl ⟨rfl, ?_⟩), ?_⟩
                            · rw [run_append_room' h0 hxt1 hu hxt hti hlen hfc hroom']
                              dsimp only
                              rw [add_plain, q1, Nat.zero_add, Nat.zero_add, hst]
                              rfl
                            · exact h.below.trans ⟨rfl, rfl, rfl, by simp, fun k hk => setRow_other w r.g k _ (by omega)⟩
                            · intro j bj rj hj hrj
                              have h1 := h.holds j bj rj hj hrj
                              by_cases hgj : rj.g = r.g
                              · -- an elder one of the same row: it is no longer
                                have hfam : bj.root = b.root := by
                                  rcases h.sep j i bj b rj r hj hal hrj hr hgj with q | ⟨_, q⟩
                                  · exact q
                                  · rw [hbro] at q; cases q
                                have hshort := h.top j i bj b rj r hj hal hrj hr hgj hfam hsup
                                refine Holds.mono hle ?_
                                unfold Holds at h1 ⊢
                                rw [hgj] at h1 ⊢
                                rw [hheap] at h1
                                rw [setRow_heap w r.g c' _ ee fr' hheap]
                                split at h1
                                · rename_i cj ej frj _
                                  obtain ⟨p1, p2, cj', ej', frj', p3, p4, p5, p6, p7⟩ := h1
                                  cases p3
                                  refine ⟨p1, p2, _, ee, fr', rfl, by rw [wr_size]; exact p4, ?_, p6, fun q => ?_⟩
                                  · intro k x hx
                                    have hk := (Array.getElem?_eq_some_iff.1 hx).1
                                    obtain ⟨y, hy, hv⟩ := p5 k x hx
                                    have hb0 : rj.base = 0 := by
                                      by_cases q : bj.ro = true
                                      · have := (p6 q).1
                                        omega
                                      · exact (p7 (by simpa using q)).2.1
                                    refine ⟨y, ?_, hv⟩
                                    rw [(hwr cs'.toList (len * ti.size) c' (rj.base + k)).1 (by omega)]
                                    exact hy
                                  · obtain ⟨s1, s2, s3, s4⟩ := p7 q
                                    exact ⟨s1, s2, by rw [wr_size]; exact s3, by rw [wr_size]; exact s4⟩
                                · obtain ⟨_, _, es', p2, _⟩ := h1; cases p2
                                · obtain ⟨_, _, p2⟩ := h1; cases p2
                                · exact h1.elim
                              · exact (h1.of_block (setRow_other w r.g rj.g _ hgj)).mono hle
                            · unfold Holds
                              dsimp only
                              refine ⟨rfl, hce.symm, _, ee, fr', setRow_heap w r.g c' _ ee fr' hheap, ?_, ?_, (fun q => by cases q), fun _ => ⟨k1, rfl, by rw [wr_size], by rw [wr_size]; exact k4⟩⟩
                              · rw [wr_size, Array.size_append, hcsize, hcsz]; omega
                              · intro k x hx
                                rw [Nat.zero_add]
                                rw [Array.getElem?_append] at hx
                                by_cases hk : k < c.size
                                · rw [if_pos hk] at hx
                                  obtain ⟨y, hy, hv⟩ := hcells k x hx
                                  exact ⟨y, by rw [(hwr cs'.toList (len * ti.size) c' k).1 (by omega)]; exact hy, hv.mono hle⟩
                                · rw [if_neg hk] at hx
                                  obtain ⟨y, hy, hv⟩ := hvcs.get hx
                                  have hk2 := (Array.getElem?_eq_some_iff.1 hy).1
                                  refine ⟨y, ?_, hv.mono hle⟩
                                  rw [(hwr cs'.toList (len * ti.size) c' k).2 (by omega) (by simp; omega) (by simp; omega)]
                                  rw [← hcsize]
                                  simpa using hy
                            · show r.n ≤ (c ++ cs).size
                              rw [Array.size_append]; omega
                            · rw [q1]
                              refine slice_new (Ren.upd_same _ _ _) (Nat.le_refl _) ?_ hroom' (by omega)
                              rw [Array.size_append, hcsize, hcsz, Nat.add_mul]
                          · -- it moves
                            have hcs0 : m.cells i 0 (len * ti.size) = some c := by
                              simp [M.cells, M.row, hal, hobj, hcsize]
                            obtain ⟨r3, c0', hr3, _, hv3, hs3, hcell3, _⟩ := h.cells_sound hcs0
                            rw [hr] at hr3; cases hr3
                            have hload := run_loadCells_list (P := P) w.drew ⟨r.g, r.base + 0, none⟩ c0'.toList (fun j v hj => hcell3 j v hj)
                            rw [Array.toArray_toList, show c0'.toList.length = len * ti.size by rw [Array.length_toList, ← hv3.1, hs3]] at hload
                            exact moves (some ⟨r.g, r.base + 0, none⟩) cap' c0' rfl hroom' hv3 (by simp only [Builtin.firstCells]; exact hload)
                        · have hc0 : c = #[] := Array.eq_empty_of_size_eq_zero (by rw [hcsize]; simp)
                          subst hc0
                          exact moves (some a') 0 #[] rfl (by omega) (VsRel.nil _) (by simp [Builtin.firstCells, loadCells, loadCellsFrom])
                      · cases ha
                    · cases ha
            · cases ha
          · cases ha
  · cases ha

theorem append_sound (h : Inv P B w0 ρ m w) {ts : Array TypeId} {t ty : TypeId} {s s' x x' v : Value} (h0 : ts[0]? = some t) (hs : VRel ρ s s') (hx : VRel ρ x x') (ha : iappend P t ts[1]? s x m = some (v, m')) :
    ∃ v' w' ρ', (Builtin.append_ ts ty #[s', x']).run P w = .ok v' w' ∧ ρ.le ρ' ∧ Inv P B w0 ρ' m' w' ∧ VRel ρ' v v' := by
  unfold iappend at ha
  split at ha
  · rename_i e base len cap hu
    split at ha
    · rename_i ti z hti hz
      split at ha
      · cases ha
      · rename_i hsz
        obtain ⟨hs0, hzs⟩ : ti.size ≠ 0 ∧ z.cells.size = ti.size := by
          refine ⟨fun e => hsz (.inl e), ?_⟩
          by_cases e : z.cells.size = ti.size
          · exact e
          · exact absurd (.inr e) hsz
        cases hxt1 : ts[1]? with
        | none => rw [hxt1] at ha; simp at ha
        | some xt =>
          rw [hxt1] at ha
          simp only [Option.bind_some] at ha
          split at ha
          · rename_i e' hxu; exact append_core h h0 hxt1 hu (.inl ⟨e', hxu⟩) hti hz hs0 hzs hs hx ha
          · rename_i hxu; exact append_core h h0 hxt1 hu (.inr hxu) hti hz hs0 hzs hs hx ha
          · cases ha
    · cases ha
  · cases ha

end Go.IM
