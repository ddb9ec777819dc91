/- What Lay comes to. -/
import Derived.Test.YtoejiaciaafbmaaImQ3
set_option linter.unusedVariables false
set_option linter.unusedSimpArgs false
namespace Go.IM
open Go Go.Proofs

/-- A number in groups of seven bits. -/
def layB : Nat → Nat → List UInt8
  | 0, z => [UInt8.ofNat z]
  | f + 1, z => if 128 ≤ z then UInt8.ofNat (z % 128 + 128) :: layB f (z / 128) else [UInt8.ofNat z]

theorem or128 : ∀ r : Fin 256, iOr .u8 (r.val : Int) 128 = ((r.val % 128 + 128 : Nat) : Int) := by decide +kernel
theorem wrap_u8 (n : Nat) : IntKind.wrap .u8 (n : Int) = ((n % 256 : Nat) : Int) := by
  simp [IntKind.wrap, IntKind.bits, IntKind.signed]
theorem or128_int (z : Nat) : iOr .u8 (IntKind.wrap .u8 (z : Int)) 128 = ((UInt8.ofNat (z % 128 + 128)).toNat : Int) := by
  rw [wrap_u8]
  have := or128 ⟨z % 256, by omega⟩
  simp only at this
  rw [this, UInt8.toNat_ofNat']
  omega
theorem shr7_int (z : Nat) : iShr .u64 (z : Int) 7 = ((z / 128 : Nat) : Int) := by
  unfold iShr
  have h : min (7 : Int).toNat IntKind.u64.bits = 7 := by decide
  rw [h, Int.fdiv_eq_ediv_of_nonneg _ (by decide)]
  rfl
theorem byte_int (z : Nat) : IntKind.wrap .u8 (z : Int) = ((UInt8.ofNat z).toNat : Int) := by
  rw [wrap_u8, UInt8.toNat_ofNat']

theorem loop16 : ∀ (f z : Nat), z < 128 ^ (f + 1) → ∀ (x : Sl) (m : M) (v : Value) (b : List UInt8), Free m → Buf Try.prog m v b → b.length + f < 2 ^ 38 → ∃ (w : Sl) (m' : M) (v' : Value) (z1 : Nat) (pre : List UInt8),
    layB f z = pre ++ [UInt8.ofNat z1] ∧ pre.length ≤ f ∧
    Ev.To Try.prog (.loop l16_1) (st 20 (upd (upd x 0 v) 1 (.int .u64 (z : Nat)))) m (.exit 0) (st 20 (upd (upd (ov x w [5, 6, 7, 8, 9, 10, 11, 12, 13, 14]) 0 v') 1 (.int .u64 (z1 : Nat)))) m' ∧
    Buf Try.prog m' v' (b ++ pre) ∧ Keep m m' := by
  have stop : ∀ (z : Nat), ¬ 128 ≤ z → ∀ (x : Sl) (m : M) (v : Value) (b : List UInt8), Free m → Buf Try.prog m v b → ∃ (w : Sl),
      Ev.To Try.prog (.loop l16_1) (st 20 (upd (upd x 0 v) 1 (.int .u64 (z : Nat)))) m (.exit 0) (st 20 (upd (upd (ov x w [5, 6, 7, 8, 9, 10, 11, 12, 13, 14]) 0 v) 1 (.int .u64 (z : Nat)))) m := by
    intro z hz x m v b hF hB
    exact ⟨p16_1o_x (upd x 0 v) (z : Int), To.loop_out ((p16_1o (upd x 0 v) (z : Int) (by omega)).conv (by kernel_rfl) (by kernel_rfl)) (by simp)⟩
  intro f
  induction f with
  | zero =>
    intro z hz x m v b hF hB hlen
    obtain ⟨w, hw⟩ := stop z (by omega) x m v b hF hB
    exact ⟨w, m, v, z, [], rfl, Nat.le_refl _, hw, by rw [List.append_nil]; exact hB, Keep.refl hF⟩
  | succ f ih =>
    intro z hz x m v b hF hB hlen
    by_cases h128 : 128 ≤ z
    · obtain ⟨m1, u, v1, m2, q1, q2, q3, q4⟩ := lay1 hF hB (by omega) (UInt8.ofNat (z % 128 + 128))
      have hz2 : z / 128 < 128 ^ (f + 1) := by
        rw [Nat.div_lt_iff_lt_mul (by omega)]
        rw [Nat.pow_succ] at hz
        exact hz
      obtain ⟨w, m3, v3, z1, pre, e0, e1, e2, e3, e4⟩ := ih (z / 128) hz2 (p16_1n_x x m1 m2 v u v1 (z : Int) ((UInt8.ofNat (z % 128 + 128)).toNat : Int) ((z / 128 : Nat) : Int)) m2 v1 (b ++ [UInt8.ofNat (z % 128 + 128)]) q4.free q3 (by simp; omega)
      refine ⟨w, m3, v3, z1, UInt8.ofNat (z % 128 + 128) :: pre, by rw [layB, if_pos h128, e0]; rfl, by simp; omega, To.loop (p16_1n (m := m) x m1 m2 v u v1 (z : Int) ((UInt8.ofNat (z % 128 + 128)).toNat : Int) ((z / 128 : Nat) : Int) (by omega) (or128_int z) q1 q2 (shr7_int z)) (e2.conv (by kernel_rfl) (by kernel_rfl)), by simpa using e3, q4.trans e4⟩
    · obtain ⟨w, hw⟩ := stop z h128 x m v b hF hB
      exact ⟨w, m, v, z, [], by rw [layB, if_neg h128]; rfl, Nat.zero_le _, hw, by rw [List.append_nil]; exact hB, Keep.refl hF⟩

theorem cal16 (m : M) (v : Value) (b : List UInt8) (z : Nat) (hz : z < 2 ^ 64) (hF : Free m) (hB : Buf Try.prog m v b) (hlen : b.length < 2 ^ 37) : ∃ m' v', Cal Try.prog 16 #[v, .int .u64 (z : Nat)] m (.ret v') m' ∧ Buf Try.prog m' v' (b ++ layB 9 z) ∧ Keep m m' := by
  obtain ⟨w, m1, v1, z1, pre, h1, h2, h3, h4, h5⟩ := loop16 9 z (Nat.lt_trans hz (by decide)) (upd (fun _ => undef) 4 (.slice none 0 0)) m v b hF hB (by omega)
  obtain ⟨m2, u, v2, m3, q1, q2, q3, q4⟩ := lay1 h5.free h4 (by rw [List.length_append]; omega) (UInt8.ofNat z1)
  refine ⟨m3, v2, ?_, by rw [h1, ← List.append_assoc]; exact q3, h5.trans q4⟩
  refine Cal.ret (a := st 20 (p16_b_x (fun _ => undef) w m1 m2 m3 v v1 u v2 (z : Int) (z1 : Int) ((UInt8.ofNat z1).toNat : Int))) Try.func16 body16 ?_ (.inr rfl) rfl (by kernel_rfl)
  exact (p16_b (fun _ => undef) w m1 m2 m3 v v1 u v2 (z : Int) (z1 : Int) ((UInt8.ofNat z1).toNat : Int) (h3.conv (by kernel_rfl) (by kernel_rfl)) (byte_int z1) q1 q2).conv (by kernel_rfl) (by kernel_rfl)

end Go.IM
