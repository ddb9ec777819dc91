/- Plain: the two sums are one. -/
import Derived.Test.YtoejiaciaafbmaaImP3
set_option linter.unusedVariables false
set_option linter.unusedSimpArgs false
namespace Go.IM
open Go

theorem wrap_u32 (n : Int) : IntKind.wrap .u32 n = n % 4294967296 := by
  simp [IntKind.wrap, IntKind.bits, IntKind.signed]
theorem ofInt_toNat (s : BitVec 32) : BitVec.ofInt 32 (s.toNat : Int) = s := by
  apply BitVec.eq_of_toNat_eq
  have := s.isLt
  rw [BitVec.toNat_ofInt]
  omega
theorem wrap_bv (s : BitVec 32) : IntKind.wrap .u32 (s.toNat : Int) = (s.toNat : Int) := by
  have := s.isLt
  rw [wrap_u32]; omega
theorem xor_bv (s t : BitVec 32) : iXor .u32 (s.toNat : Int) (t.toNat : Int) = ((s ^^^ t).toNat : Int) := by
  unfold iXor
  show IntKind.wrap .u32 ((BitVec.ofInt 32 (s.toNat : Int) ^^^ BitVec.ofInt 32 (t.toNat : Int)).toNat : Int) = _
  rw [ofInt_toNat, ofInt_toNat, wrap_bv]
theorem and_bv (s t : BitVec 32) : iAnd .u32 (s.toNat : Int) (t.toNat : Int) = ((s &&& t).toNat : Int) := by
  unfold iAnd
  show IntKind.wrap .u32 ((BitVec.ofInt 32 (s.toNat : Int) &&& BitVec.ofInt 32 (t.toNat : Int)).toNat : Int) = _
  rw [ofInt_toNat, ofInt_toNat, wrap_bv]
theorem or_bv (s t : BitVec 32) : iOr .u32 (s.toNat : Int) (t.toNat : Int) = ((s ||| t).toNat : Int) := by
  unfold iOr
  show IntKind.wrap .u32 ((BitVec.ofInt 32 (s.toNat : Int) ||| BitVec.ofInt 32 (t.toNat : Int)).toNat : Int) = _
  rw [ofInt_toNat, ofInt_toNat, wrap_bv]
theorem not_bv (s : BitVec 32) : iNot .u32 (s.toNat : Int) = ((~~~s).toNat : Int) := by
  unfold iNot
  have h : (if IntKind.u32.signed then (-1 : Int) else IntKind.u32.max) = ((BitVec.allOnes 32).toNat : Int) := by decide
  rw [h, xor_bv, BitVec.allOnes_xor]
theorem shr_bv (s : BitVec 32) (n : Nat) (hn : n ≤ 32) : iShr .u32 (s.toNat : Int) (n : Int) = ((s >>> n).toNat : Int) := by
  unfold iShr
  have h : min (n : Int).toNat IntKind.u32.bits = n := by show min n 32 = n; omega
  rw [h, BitVec.toNat_ushiftRight, Nat.shiftRight_eq_div_pow]
  have h2 : ((2 : Int) ^ n) = ((2 ^ n : Nat) : Int) := by simp
  rw [h2, Int.fdiv_eq_ediv_of_nonneg _ (Int.natCast_nonneg _)]
  rfl
theorem shl_bv (s : BitVec 32) : iShl .u32 (s.toNat : Int) 1 = ((s <<< 1).toNat : Int) := by
  unfold iShl
  have h : min (1 : Int).toNat IntKind.u32.bits = 1 := by decide
  rw [h, wrap_u32, BitVec.toNat_shiftLeft, Nat.shiftLeft_eq]
  have := s.isLt
  omega
theorem mul_bv (s : BitVec 32) : IntKind.wrap .u32 (2197175160 * (s.toNat : Int)) = ((2197175160#32 * s).toNat : Int) := by
  rw [wrap_u32, BitVec.toNat_mul]
  show _ = ((2197175160 * s.toNat % 2 ^ 32 : Nat) : Int)
  omega

/-! ### In bit vectors -/
def pad (b : UInt8) : BitVec 32 := BitVec.ofNat 32 b.toNat
def stepB (s : BitVec 32) : BitVec 32 := (s >>> 1) ^^^ (2197175160#32 * (s &&& 1#32))
def stepsB : Nat → BitVec 32 → BitVec 32
  | 0, s => s
  | d + 1, s => stepsB d (stepB s)
def sumB : List UInt8 → BitVec 32 → BitVec 32
  | [], s => s
  | b :: r, s => sumB r (stepsB 8 (s ^^^ pad b))

theorem one_bv : (1 : Int) = ((1#32).toNat : Int) := by decide
theorem step_bv (s : BitVec 32) : stepI (s.toNat : Int) = ((stepB s).toNat : Int) := by
  unfold stepI stepB
  have h : iShr .u32 (s.toNat : Int) 1 = ((s >>> 1).toNat : Int) := shr_bv s 1 (by omega)
  have h2 : iAnd .u32 (s.toNat : Int) 1 = ((s &&& 1#32).toNat : Int) := by
    have := and_bv s 1#32
    exact this
  rw [h, h2, mul_bv, xor_bv]
theorem steps_bv : ∀ (d : Nat) (s : BitVec 32), stepsI d (s.toNat : Int) = ((stepsB d s).toNat : Int) := by
  intro d
  induction d with
  | zero => intro s; rfl
  | succ d ih => intro s; rw [stepsI, stepsB, step_bv, ih]
theorem pad_toNat (b : UInt8) : (b.toNat : Int) = ((pad b).toNat : Int) := by
  unfold pad
  have := b.toNat_lt
  rw [BitVec.toNat_ofNat]; omega
theorem sum_bv : ∀ (B : List UInt8) (s : BitVec 32), sumI B (s.toNat : Int) = ((sumB B s).toNat : Int) := by
  intro B
  induction B with
  | nil => intro s; rfl
  | cons b r ih => intro s; rw [sumI, sumB, pad_toNat, wrap_bv, xor_bv, steps_bv, ih]

/-! ### Bit by bit -/
def bitStep (β : Bool) (s : BitVec 32) : BitVec 32 := (s >>> 1) ^^^ (if s.getLsbD 0 != β then 2197175160#32 else 0#32)
def bitsStep (b : BitVec 32) : Nat → Nat → BitVec 32 → BitVec 32
  | 0, _, s => s
  | d + 1, k, s => bitsStep b d (k + 1) (bitStep (b.getLsbD k) s)

theorem and_one (s : BitVec 32) : s &&& 1#32 = if s.getLsbD 0 then 1#32 else 0#32 := by
  apply BitVec.eq_of_getLsbD_eq
  intro i hi
  rw [BitVec.getLsbD_and]
  by_cases h : i = 0
  · subst h
    cases hs : s.getLsbD 0 <;> simp
  · have : (1#32).getLsbD i = false := by
      rw [BitVec.getLsbD_one]; simp; omega
    rw [this]
    cases hs : s.getLsbD 0 <;> simp [this]
theorem stepB_bit (s : BitVec 32) : stepB s = (s >>> 1) ^^^ (if s.getLsbD 0 then 2197175160#32 else 0#32) := by
  unfold stepB
  rw [and_one]
  cases s.getLsbD 0 <;> simp

theorem split (b : BitVec 32) : ∀ (d k : Nat) (s : BitVec 32), stepsB d (s ^^^ (b >>> k)) = bitsStep b d k s ^^^ (b >>> (k + d)) := by
  intro d
  induction d with
  | zero => intro k s; rfl
  | succ d ih =>
    intro k s
    rw [stepsB, bitsStep]
    have h : stepB (s ^^^ (b >>> k)) = bitStep (b.getLsbD k) s ^^^ (b >>> (k + 1)) := by
      rw [stepB_bit]
      unfold bitStep
      have e1 : (s ^^^ b >>> k) >>> 1 = s >>> 1 ^^^ b >>> (k + 1) := by
        apply BitVec.eq_of_getLsbD_eq
        intro i hi
        simp [BitVec.getLsbD_ushiftRight, Nat.add_comm, Nat.add_left_comm, Nat.add_assoc]
      have e2 : (s ^^^ b >>> k).getLsbD 0 = (s.getLsbD 0 != b.getLsbD k) := by simp
      rw [e1, e2]
      rw [BitVec.xor_assoc, BitVec.xor_assoc, BitVec.xor_comm (b >>> (k + 1))]
    rw [h, ih (k + 1), show k + 1 + d = k + (d + 1) by omega]

theorem split8 (b : UInt8) (s : BitVec 32) : stepsB 8 (s ^^^ pad b) = bitsStep (pad b) 8 0 s := by
  have h := split (pad b) 8 0 s
  have e0 : pad b >>> 0 = pad b := by simp
  have e8 : pad b >>> (0 + 8) = 0#32 := by
    apply BitVec.eq_of_toNat_eq
    have := b.toNat_lt
    rw [BitVec.toNat_ushiftRight, Nat.shiftRight_eq_div_pow]
    unfold pad
    rw [BitVec.toNat_ofNat]
    simp
    omega
  rw [e0, e8] at h
  rw [h, BitVec.xor_zero]

end Go.IM
