/- Plain: the two sums are one (by the highest bit first). -/
import Derived.Test.YtoejiaciaafbmaaImCrc
namespace Go.IM
open Go

def rev (s : BitVec 32) : BitVec 32 := s.reverse
theorem rev_get (s : BitVec 32) (i : Nat) (hi : i < 32) : (rev s).getLsbD i = s.getLsbD (31 - i) := by
  unfold rev
  rw [BitVec.getLsbD_reverse, BitVec.getMsbD]
  simp [hi]
theorem rev_xor (s t : BitVec 32) : rev (s ^^^ t) = rev s ^^^ rev t := by
  apply BitVec.eq_of_getLsbD_eq
  intro i hi
  rw [rev_get _ _ hi, BitVec.getLsbD_xor, BitVec.getLsbD_xor, rev_get _ _ hi, rev_get _ _ hi]
theorem rev_not (s : BitVec 32) : rev (~~~s) = ~~~(rev s) := by
  apply BitVec.eq_of_getLsbD_eq
  intro i hi
  rw [rev_get _ _ hi, BitVec.getLsbD_not, BitVec.getLsbD_not, rev_get _ _ hi]
  simp [hi]; omega
theorem rev_rev (s : BitVec 32) : rev (rev s) = s := by
  apply BitVec.eq_of_getLsbD_eq
  intro i hi
  rw [rev_get _ _ hi, rev_get _ _ (by omega)]
  congr 1; omega
theorem rev_shr (s : BitVec 32) : rev (s >>> 1) = rev s <<< 1 := by
  apply BitVec.eq_of_getLsbD_eq
  intro i hi
  rw [rev_get _ _ hi, BitVec.getLsbD_ushiftRight, BitVec.getLsbD_shiftLeft]
  by_cases h : i = 0
  · subst h
    simp
  · rw [rev_get _ _ (by omega)]
    have : 1 + (31 - i) = 31 - (i - 1) := by omega
    rw [this]
    simp [hi]; omega

def rstepB (β : Bool) (s : BitVec 32) : BitVec 32 := (s <<< 1) ^^^ (if s.getLsbD 31 != β then 517762881#32 else 0#32)
theorem rstep_rev (β : Bool) (s : BitVec 32) : rstepB β (rev s) = rev (bitStep β s) := by
  unfold rstepB bitStep
  rw [rev_xor, rev_shr, rev_get _ _ (by omega)]
  have e1 : rev 2197175160#32 = 517762881#32 := by decide +kernel
  have e2 : rev 0#32 = 0#32 := by decide +kernel
  congr 1
  by_cases h : (s.getLsbD (31 - 31) != β) = true
  · have h2 : (s.getLsbD 0 != β) = true := h
    rw [if_pos h, if_pos h2, e1]
  · have h2 : ¬ (s.getLsbD 0 != β) = true := h
    rw [if_neg h, if_neg h2, e2]

theorem bit_toNat (s : BitVec 32) : ((s &&& 1#32).toNat : Int) = if s.getLsbD 0 then 1 else 0 := by
  rw [and_one]; cases s.getLsbD 0 <;> simp
theorem bit_bv (b : UInt8) (k : Nat) (hk : k < 8) : bitI (b.toNat : Int) k = if (pad b).getLsbD k then 1 else 0 := by
  unfold bitI
  have h1 : iShr .u8 (b.toNat : Int) (k : Int) = ((pad b >>> k).toNat : Int) := by
    have := shr_bv (pad b) k (by omega)
    rw [← pad_toNat] at this
    rw [← this]
    unfold iShr
    have e : min (k : Int).toNat IntKind.u8.bits = min (k : Int).toNat IntKind.u32.bits := by show min k 8 = min k 32; omega
    rw [e]
  rw [h1, wrap_bv]
  have h2 := and_bv (pad b >>> k) 1#32
  have h3 : iAnd .u32 ((pad b >>> k).toNat : Int) 1 = (((pad b >>> k) &&& 1#32).toNat : Int) := h2
  rw [h3, bit_toNat]
  simp
theorem top_bv (s : BitVec 32) : topI (s.toNat : Int) = if s.getLsbD 31 then 1 else 0 := by
  unfold topI
  have h : iShr .u32 (s.toNat : Int) 31 = ((s >>> 31).toNat : Int) := shr_bv s 31 (by omega)
  rw [h]
  have h2 : s >>> 31 = (s >>> 31) &&& 1#32 := by
    apply BitVec.eq_of_getLsbD_eq
    intro i hi
    rw [BitVec.getLsbD_and, BitVec.getLsbD_ushiftRight, BitVec.getLsbD_one]
    by_cases h : i = 0
    · subst h; simp
    · rw [BitVec.getLsbD_of_ge _ _ (by omega)]; simp
  rw [h2, bit_toNat]
  simp
theorem rstep_bv (b : UInt8) (k : Nat) (hk : k < 8) (s : BitVec 32) : rstepI (b.toNat : Int) k (s.toNat : Int) = ((rstepB ((pad b).getLsbD k) s).toNat : Int) := by
  unfold rstepI rstepB
  rw [bit_bv b k hk, top_bv, shl_bv]
  have hx : iXor .u32 ((s <<< 1).toNat : Int) 517762881 = ((s <<< 1 ^^^ 517762881#32).toNat : Int) := xor_bv (s <<< 1) 517762881#32
  rw [hx]
  cases (pad b).getLsbD k <;> cases s.getLsbD 31 <;> simp
theorem rsteps_bv (b : UInt8) : ∀ (d k : Nat), k + d ≤ 8 → ∀ (s : BitVec 32), rstepsI (b.toNat : Int) d k ((rev s).toNat : Int) = ((rev (bitsStep (pad b) d k s)).toNat : Int) := by
  intro d
  induction d with
  | zero => intro k _ s; rfl
  | succ d ih =>
    intro k hk s
    rw [rstepsI, bitsStep, rstep_bv b k (by omega), rstep_rev, ih (k + 1) (by omega)]
theorem rsum_bv : ∀ (B : List UInt8) (s : BitVec 32), rsumI B ((rev s).toNat : Int) = ((rev (sumB B s)).toNat : Int) := by
  intro B
  induction B with
  | nil => intro s; rfl
  | cons b r ih => intro s; rw [rsumI, sumB, rsteps_bv b 8 0 (by omega), ih, split8]

/-! ### The bits turned -/
def turnB (s : BitVec 32) : Nat → Nat → BitVec 32 → BitVec 32
  | 0, _, t => t
  | d + 1, k, t => turnB s d (k + 1) ((t <<< 1) ||| ((s >>> k) &&& 1#32))
theorem turn_bv (s : BitVec 32) : ∀ (d k : Nat), k + d ≤ 32 → ∀ (t : BitVec 32), turnI (s.toNat : Int) d k (t.toNat : Int) = ((turnB s d k t).toNat : Int) := by
  intro d
  induction d with
  | zero => intro k _ t; rfl
  | succ d ih =>
    intro k hk t
    rw [turnI, turnB, shl_bv, shr_bv s k (by omega)]
    have h3 : iAnd .u32 ((s >>> k).toNat : Int) 1 = (((s >>> k) &&& 1#32).toNat : Int) := and_bv (s >>> k) 1#32
    rw [h3, or_bv, ih (k + 1) (by omega)]
theorem turn_spec (s : BitVec 32) : ∀ (d k : Nat), k + d = 32 → ∀ (t : BitVec 32), (∀ j, j < 32 → t.getLsbD j = (decide (j < k) && s.getLsbD (k - 1 - j))) → turnB s d k t = rev s := by
  intro d
  induction d with
  | zero =>
    intro k hk t ht
    obtain rfl : k = 32 := by omega
    apply BitVec.eq_of_getLsbD_eq
    intro i hi
    show t.getLsbD i = _
    rw [ht i hi, rev_get _ _ hi]
    simp [hi]
  | succ d ih =>
    intro k hk t ht
    rw [turnB]
    refine ih (k + 1) (by omega) _ fun j hj => ?_
    rw [BitVec.getLsbD_or, BitVec.getLsbD_shiftLeft, BitVec.getLsbD_and, BitVec.getLsbD_ushiftRight, BitVec.getLsbD_one]
    by_cases h0 : j = 0
    · subst h0; simp
    · rw [ht (j - 1) (by omega)]
      have e : k - 1 - (j - 1) = k + 1 - 1 - j := by omega
      rw [e]
      by_cases hjk : j < k + 1
      · have : j - 1 < k := by omega
        simp [hjk, this, hj, h0]
      · have : ¬ j - 1 < k := by omega
        simp [hjk, this, h0]

theorem sums_alike (B : List UInt8) : iNot .u32 (sumI B 4294967295) = rsum B := by
  have e1 : (4294967295 : Int) = ((BitVec.allOnes 32).toNat : Int) := by decide
  have e2 : (4294967295 : Int) = ((rev (BitVec.allOnes 32)).toNat : Int) := by decide +kernel
  unfold rsum
  have h1 : sumI B 4294967295 = ((sumB B (BitVec.allOnes 32)).toNat : Int) := by rw [e1, sum_bv]
  have h2 : rsumI B 4294967295 = ((rev (sumB B (BitVec.allOnes 32))).toNat : Int) := by rw [e2, rsum_bv]
  rw [h1, h2, not_bv, not_bv]
  have h3 := turn_bv (~~~(rev (sumB B (BitVec.allOnes 32)))) 32 0 (by omega) 0#32
  have e0 : ((0#32).toNat : Int) = 0 := by decide
  rw [e0] at h3
  rw [h3, turn_spec _ 32 0 rfl 0#32 (fun j _ => by simp), rev_not, rev_rev]

end Go.IM
