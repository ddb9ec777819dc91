/- What LayFixed and Fixed come to. -/
import Derived.Test.YtoejiaciaafbmaaImQ1
set_option linter.unusedVariables false
set_option linter.unusedSimpArgs false
namespace Go.IM
open Go Go.Proofs

theorem T22 : ByteT Try.prog 22 5 where
  sl := by kernel_rfl
  u8 := by kernel_rfl
  cells := by kernel_rfl
  info := by
    have h : (match Try.prog.info? 5, zeroOf Try.prog 5 with | some ti, some z => ti.size == 1 && ti.bytes == 1 && z.cells.size == 1 | _, _ => false) = true := by kernel_rfl
    split at h
    · rename_i ti z h1 h2
      simp only [Bool.and_eq_true, beq_iff_eq] at h
      exact ⟨ti, z, h1, h.1.1, h.1.2, h2, h.2⟩
    · cases h

theorem Buf.mk1 {P : Program} {m : M} {v : Value} {b : List UInt8} (hf : m.get m.nxt = none) (o : Obj) (h : Buf P m v b) : Buf P (m.mk1 o) v b := by
  rcases h with h | ⟨i, x, c, e, fr, h1, h2, h3, h4, h5, h6, h7, h8, h9⟩
  · exact .inl h
  · exact .inr ⟨i, x, c, e, fr, h1, h2, alive_mk1_old hf h3, h4, h5, h6, h7, h8, Nat.le_trans h9 (Nat.le_succ _)⟩

/-- One byte as a slice. -/
theorem build1 (m : M) (h : m.get m.nxt = none) (y : Int) : ibuildSlice Try.prog 22 1 [(0, .int .u8 y)] m = some (.slice (some ⟨m.nxt, 0, none⟩) 1 1, m.mk1 (.cells #[.int .u8 y] 5)) := by
  have e : ibuildSlice Try.prog 22 1 [(0, .int .u8 y)] m = (m.new #[.int .u8 y] 5).bind fun p => if 1 ≤ (#[.int .u8 y] : Array Value).size then some (.slice (some p.1) 1 1, p.2) else none := by kernel_rfl
  rw [e]
  unfold M.new
  rw [h]
  rfl
/-- A byte behind bytes. -/
theorem lay1 {m : M} {v : Value} {b : List UInt8} (hF : Free m) (hB : Buf Try.prog m v b) (hlen : b.length < 2 ^ 39) (x : UInt8) :
    ∃ m1 u v' m', rPair (ibuildSlice Try.prog 22 1 [(0, .int .u8 (x.toNat : Int))] m) = some (.val u m1) ∧ rPair (iappend Try.prog 22 (some 22) v u m1) = some (.val v' m') ∧ Buf Try.prog m' v' (b ++ [x]) ∧ Keep m m' := by
  have hf := hF _ (Nat.le_refl _)
  have hb1 := hB.mk1 hf (.cells #[.int .u8 (x.toNat : Int)] 5)
  have hX : IsBytes (m.mk1 (.cells #[.int .u8 (x.toNat : Int)] 5)) (.slice (some ⟨m.nxt, 0, none⟩) 1 1) [x] := by
    refine .inr ⟨m.nxt, 0, 1, rfl, fun j y hy => ?_⟩
    rw [Nat.zero_add, cell_mk1_new]
    rcases j with _ | j
    · simp at hy; subst hy; rfl
    · simp at hy
  obtain ⟨v', m', h1, h2, h3⟩ := buf_append T22 (hF.mk1 _) hb1 hX (by simp; omega)
  exact ⟨_, _, v', m', rPair_of (build1 m hf _), rPair_of h1, h2, (Keep.mk1 hF _).trans h3⟩

def byteAt (z k : Nat) : UInt8 := UInt8.ofNat (z / 2 ^ (8 * k))
def tailB (z : Nat) : Nat → List UInt8
  | 0 => []
  | d + 1 => byteAt z d :: tailB z d

theorem byteAt_int (z k : Nat) (hk : k < 8) : IntKind.wrap .u8 (iShr .u64 (z : Int) ((8 * k : Nat) : Int)) = ((byteAt z k).toNat : Int) := by
  unfold iShr byteAt
  have h : min ((8 * k : Nat) : Int).toNat IntKind.u64.bits = 8 * k := by show min (8 * k) 64 = 8 * k; omega
  have h2 : ((2 : Int) ^ (8 * k)) = ((2 ^ (8 * k) : Nat) : Int) := by simp
  rw [h, h2, Int.fdiv_eq_ediv_of_nonneg _ (Int.natCast_nonneg _)]
  simp only [IntKind.wrap, IntKind.bits, IntKind.signed, UInt8.toNat_ofNat']
  simp

theorem loop14 (z : Nat) : ∀ (d : Nat), d ≤ 8 → ∀ (x : Sl) (m : M) (v : Value) (b : List UInt8), Free m → Buf Try.prog m v b → b.length + d < 2 ^ 39 → ∃ (w : Sl) (m' : M) (v' : Value),
    Ev.To Try.prog (.loop l14_2) (st 19 (upd (upd (upd x 0 v) 1 (.int .u64 (z : Nat))) 5 (.int .i64 ((d : Int) - 1)))) m (.exit 0) (st 19 (upd (upd (upd (ov x w [6, 7, 8, 9, 10, 11, 12, 13, 14, 15, 16, 17]) 0 v') 1 (.int .u64 (z : Nat))) 5 (.int .i64 (-1)))) m' ∧
    Buf Try.prog m' v' (b ++ tailB z d) ∧ Keep m m' := by
  intro d
  induction d with
  | zero =>
    intro _ x m v b hF hB hlen
    refine ⟨p14_2o_x x (-1), m, v, To.loop_out ((p14_2o (upd (upd x 0 v) 1 (.int .u64 (z : Nat))) (-1) (by omega)).conv (by kernel_rfl) (by kernel_rfl)) (by simp), by rw [tailB, List.append_nil]; exact hB, Keep.refl hF⟩
  | succ d ih =>
    intro hd x m v b hF hB hlen
    obtain ⟨m1, u, v1, m2, q1, q2, q3, q4⟩ := lay1 hF hB (by omega) (byteAt z d)
    obtain ⟨w, m3, v3, e1, e2, e3⟩ := ih (by omega) (p14_2n_x x m1 m2 v u v1 (z : Int) d ((8 * d : Nat) : Int) ((d : Int) - 1)) m2 v1 (b ++ [byteAt z d]) q4.free q3 (by simp; omega)
    refine ⟨w, m3, v3, To.loop (Ev.To.conv (p14_2n (m := m) x m1 m2 v u v1 (z : Int) d ((8 * d : Nat) : Int) ((d : Int) - 1) (by omega) ?_ (by omega) (by rw [byteAt_int z d (by omega)]; exact q1) q2 (wrap_i64 (by omega) (by omega))) ?_ rfl) (e1.conv (by kernel_rfl) (by kernel_rfl)), ?_, q4.trans e3⟩
    · rw [wrap_i64 (by omega) (by omega)]; omega
    · have : ((d + 1 : Nat) : Int) - 1 = (d : Int) := by omega
      rw [this]
    · rw [tailB]; simpa using e2

theorem cal14 (m : M) (v : Value) (b : List UInt8) (z : Nat) (hF : Free m) (hB : Buf Try.prog m v b) (hlen : b.length < 2 ^ 38) : ∃ m' v', Cal Try.prog 14 #[v, .int .u64 (z : Nat)] m (.ret v') m' ∧ Buf Try.prog m' v' (b ++ tailB z 8) ∧ Keep m m' := by
  obtain ⟨w, m', v', h1, h2, h3⟩ := loop14 z 8 (Nat.le_refl _) (upd (upd (fun _ => undef) 4 (.slice none 0 0)) 5 (.int .i64 7)) m v b hF hB (by omega)
  refine ⟨m', v', ?_, h2, h3⟩
  refine Cal.ret (a := st 19 (p14_b_x (fun _ => undef) w m' v v' (z : Int))) Try.func14 body14 ?_ (.inr rfl) rfl (by kernel_rfl)
  exact (p14_b (fun _ => undef) w m' v v' (z : Int) (h1.conv (by kernel_rfl) (by kernel_rfl))).conv (by kernel_rfl) (by kernel_rfl)

theorem loop15 (z : Nat) : ∀ (d : Nat), d ≤ 8 → ∀ (x : Sl) (m : M) (v : Value) (b : List UInt8), Free m → Buf Try.prog m v b → b.length + d < 2 ^ 39 → ∃ (w : Sl) (m' : M) (v' : Value),
    Ev.To Try.prog (.loop l15_4) (st 24 (upd (upd (upd x 1 (.int .u64 (z : Nat))) 5 v) 6 (.int .i64 (8 - (d : Int))))) m (.exit 0) (st 24 (upd (upd (upd (ov x w [10, 11, 12, 13, 14, 15, 16, 17, 18, 19, 20, 21, 22]) 1 (.int .u64 (z : Nat))) 5 v') 6 (.int .i64 8))) m' ∧
    Buf Try.prog m' v' (b ++ tailB z d) ∧ Keep m m' := by
  intro d
  induction d with
  | zero =>
    intro _ x m v b hF hB hlen
    refine ⟨p15_4o_x x 8, m, v, To.loop_out ((p15_4o (upd (upd x 1 (.int .u64 (z : Nat))) 5 v) 8 (by omega)).conv (by kernel_rfl) (by kernel_rfl)) (by simp), by rw [tailB, List.append_nil]; exact hB, Keep.refl hF⟩
  | succ d ih =>
    intro hd x m v b hF hB hlen
    obtain ⟨m1, u, v1, m2, q1, q2, q3, q4⟩ := lay1 hF hB (by omega) (byteAt z d)
    have hk : (8 : Int) - ((d + 1 : Nat) : Int) = 7 - (d : Int) := by omega
    obtain ⟨w, m3, v3, e1, e2, e3⟩ := ih (by omega) (p15_4n_x x m1 m2 v u v1 (z : Int) (7 - (d : Int)) (56 - ((8 * d : Nat) : Int)) ((8 * d : Nat) : Int) (8 - (d : Int))) m2 v1 (b ++ [byteAt z d]) q4.free q3 (by simp; omega)
    rw [hk]
    refine ⟨w, m3, v3, To.loop (p15_4n (m := m) x m1 m2 v u v1 (z : Int) (7 - (d : Int)) (56 - ((8 * d : Nat) : Int)) ((8 * d : Nat) : Int) (8 - (d : Int)) (by omega) ?_ ?_ (by omega) (by rw [byteAt_int z d (by omega)]; exact q1) q2 ?_) (e1.conv (by kernel_rfl) (by kernel_rfl)), ?_, q4.trans e3⟩
    · rw [wrap_i64 (by omega) (by omega)]; omega
    · rw [wrap_i64 (by omega) (by omega)]; omega
    · rw [wrap_i64 (by omega) (by omega)]; omega
    · rw [tailB]; simpa using e2

theorem cal15 (m : M) (p : Value) (b : List UInt8) (z : Nat) (hF : Free m) (hB : IsBytes m p b) (hlen : b.length < 2 ^ 38) : ∃ m' v', Cal Try.prog 15 #[p, .int .u64 (z : Nat)] m (.ret v') m' ∧ Buf Try.prog m' v' (b ++ tailB z 8) ∧ Keep m m' := by
  obtain ⟨v, m1, a1, a2, a3⟩ := buf_append (P := Try.prog) (v := .slice none 0 0) (b := []) T22 hF (.inl ⟨rfl, rfl⟩) hB (by simp; omega)
  rw [List.nil_append] at a2
  obtain ⟨w, m', v', h1, h2, h3⟩ := loop15 z 8 (Nat.le_refl _) (upd (upd (upd (upd (upd (fun _ => undef) 0 p) 4 (.slice none 0 0)) 7 (.slice none 0 0)) 8 p) 9 v) m1 v b a3.free a2 (by omega)
  refine ⟨m', v', ?_, h2, a3.trans h3⟩
  refine Cal.ret (a := st 24 (p15_b_x (fun _ => undef) w m1 m' p v v' (z : Int))) Try.func15 body15 ?_ (.inr rfl) rfl (by kernel_rfl)
  exact (p15_b (fun _ => undef) w m1 m' p v v' (z : Int) (rPair_of a1) (h1.conv (by kernel_rfl) (by kernel_rfl))).conv (by kernel_rfl) (by kernel_rfl)

end Go.IM
