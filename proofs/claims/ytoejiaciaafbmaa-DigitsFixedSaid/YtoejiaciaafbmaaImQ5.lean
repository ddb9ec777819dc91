/- What Take comes to. -/
import Derived.Test.YtoejiaciaafbmaaImQ4
set_option linter.unusedVariables false
set_option linter.unusedSimpArgs false
namespace Go.IM
open Go Go.Proofs

/-- The number ahead, how many bytes it has, the error: from the k-th byte on. -/
noncomputable def takeI : List UInt8 → Nat → Int → Int × Nat × Int
  | [], _, _ => (0, 0, 5)
  | x :: r, k, z =>
    if (k = 9 ∧ 1 < x.toNat) ∨ (0 < k ∧ x.toNat = 0) then (0, 0, 4)
    else if x.toNat < 128 then (iOr .u64 z (iShl .u64 (IntKind.wrap .u64 (iAnd .u8 (x.toNat : Int) 127)) ((7 * k : Nat) : Int)), k + 1, 0)
    else takeI r (k + 1) (iOr .u64 z (iShl .u64 (IntKind.wrap .u64 (iAnd .u8 (x.toNat : Int) 127)) ((7 * k : Nat) : Int)))

/-- How the loop ends. -/
def Ends17 (m : M) (v : Value) (B : List UInt8) (x : Sl) (a : Act) (R : Int × Nat × Int) : Prop :=
  (R = (0, 0, 5) ∧ ∃ (w : Sl) (z : Int), ∃ i off n cap, v = .slice (some ⟨i, off, none⟩) n cap ∧ Ev.To Try.prog (.loop l17_3) a m (.exit 0)
      (st 46 (upd (upd (upd (upd (upd (ov x w [6,7,11,12,13,14,15,16,17,18,19,20,21,22,23,24,25,26,27,28,29,30,31,32,33,34,35,36,37,38,39,40,41,42,43,44]) 0 v) 5 (.int .u64 z)) 8 v) 9 (.int .i64 (n : Nat))) 10 (.int .i64 (n : Nat)))) m) ∨
  (∃ (y : Sl) (r : Value), Ev.To Try.prog (.loop l17_3) a m .ret (st 46 y) m ∧ y 2 = .int .u64 R.1 ∧ y 3 = r ∧ y 4 = .int .i64 R.2.2 ∧ ((R.2.2 = 0 ∧ CutB Try.prog m r (B.drop R.2.1)) ∨ (R.2.2 ≠ 0 ∧ r = v)))

theorem loop17 (m : M) (i off cap : Nat) (B : List UInt8) (hn : B.length < 2 ^ 62) (hbar : m.bar ≤ m.nxt) (hcut : CutB Try.prog m (.slice (some ⟨i, off, none⟩) B.length cap) B) (hm : ∀ (j : Nat) (x : UInt8), B[j]? = some x → m.cell i (off + j) = some (.int .u8 (x.toNat : Int))) :
    ∀ (d k : Nat), k + d = B.length → k ≤ 9 → ∀ (x : Sl) (z : Int), Ends17 m (.slice (some ⟨i, off, none⟩) B.length cap) B x
      (st 46 (upd (upd (upd (upd (upd x 0 (.slice (some ⟨i, off, none⟩) B.length cap)) 5 (.int .u64 z)) 8 (.slice (some ⟨i, off, none⟩) B.length cap)) 9 (.int .i64 (B.length : Nat))) 10 (.int .i64 (k : Nat)))) (takeI (B.drop k) k z) := by
  intro d
  induction d with
  | zero =>
    intro k hk _ x z
    obtain rfl : k = B.length := by omega
    rw [List.drop_eq_nil_of_le (Nat.le_refl _)]
    refine .inl ⟨rfl, p17_3o_x x B.length B.length, z, i, off, B.length, cap, rfl, To.loop_out ((p17_3o (upd (upd (upd x 0 (.slice (some ⟨i, off, none⟩) B.length cap)) 5 (.int .u64 z)) 8 (.slice (some ⟨i, off, none⟩) B.length cap)) B.length B.length (by omega)).conv (by kernel_rfl) (by kernel_rfl)) (by simp)⟩
  | succ d ih =>
    intro k hk hk9 x z
    have hkl : k < B.length := by omega
    have hb : B[k]? = some B[k] := by simp [hkl]
    have hcell : m.cell i (off + (((k : Nat) : Int) : Int).toNat * 1) = some (.int .u8 (B[k].toNat : Int)) := by simpa using hm k B[k] hb
    have hdrop : B.drop k = B[k] :: B.drop (k + 1) := by rw [List.drop_eq_getElem_cons hkl]
    have hx := B[k].toNat_lt
    rw [hdrop, takeI]
    have h1 : (((k : Nat) : Int) : Int) < ((B.length : Nat) : Int) := by omega
    have h2 : 0 ≤ (((k : Nat) : Int) : Int) ∧ (((k : Nat) : Int) : Int) < ((B.length : Nat) : Int) := ⟨by omega, by omega⟩
    have hs7 : IntKind.wrap .i64 (7 * ((k : Nat) : Int)) = ((7 * k : Nat) : Int) := by rw [wrap_i64 (by omega) (by omega)]; omega
    have hk1 := i64_succ k (by omega)
    by_cases hf : (k = 9 ∧ 1 < B[k].toNat) ∨ (0 < k ∧ B[k].toNat = 0)
    · rw [if_pos hf]
      by_cases h9 : k = 9
      · by_cases hg : 1 < B[k].toNat
        · exact .inr ⟨_, _, To.loop_out (p17_3f9 (m := m) x z (B[k].toNat : Int) i off B.length cap k h1 h2 hcell (by simp; omega) (by omega)) (by simp), rfl, rfl, rfl, .inr ⟨by simp, rfl⟩⟩
        · exact .inr ⟨_, _, To.loop_out (p17_3f9z (m := m) x z (B[k].toNat : Int) i off B.length cap k h1 h2 hcell (by simp; omega) (by omega) (by omega) (by simp; omega)) (by simp), rfl, rfl, rfl, .inr ⟨by simp, rfl⟩⟩
      · exact .inr ⟨_, _, To.loop_out (p17_3fn (m := m) x z (B[k].toNat : Int) i off B.length cap k h1 h2 hcell (by simp; omega) (by omega) (by simp; omega)) (by simp), rfl, rfl, rfl, .inr ⟨by simp, rfl⟩⟩
    · rw [if_neg hf]
      obtain ⟨r, hr1, hr2⟩ := slice_from T22 hcut (k := .i64) (k + 1) (by omega)
      by_cases h128 : B[k].toNat < 128
      · rw [if_pos h128]
        by_cases h0 : k = 0
        · exact .inr ⟨_, r, To.loop_out (p17_3d0 (m := m) x z (B[k].toNat : Int) i off B.length cap k ((7 * k : Nat) : Int) r h1 h2 hcell (by simp; omega) (by omega) hs7 (by omega) (by omega) hbar hk1 (rVal_of hr1)) (by simp), rfl, rfl, rfl, .inl ⟨rfl, hr2⟩⟩
        · by_cases h9 : k = 9
          · exact .inr ⟨_, r, To.loop_out (p17_3d9 (m := m) x z (B[k].toNat : Int) i off B.length cap k ((7 * k : Nat) : Int) r h1 h2 hcell (by simp; omega) (by omega) (by omega) (by simp; omega) hs7 (by omega) (by omega) hbar hk1 (rVal_of hr1)) (by simp), rfl, rfl, rfl, .inl ⟨rfl, hr2⟩⟩
          · exact .inr ⟨_, r, To.loop_out (p17_3dn (m := m) x z (B[k].toNat : Int) i off B.length cap k ((7 * k : Nat) : Int) r h1 h2 hcell (by simp; omega) (by omega) (by simp; omega) hs7 (by omega) (by omega) hbar hk1 (rVal_of hr1)) (by simp), rfl, rfl, rfl, .inl ⟨rfl, hr2⟩⟩
      · rw [if_neg h128]
        have hk8 : k ≤ 8 := by
          rcases Nat.lt_or_ge 8 k with h | h
          · exact absurd (.inl ⟨by omega, by omega⟩) hf
          · exact h
        by_cases h0 : k = 0
        · rcases ih (k + 1) (by omega) (by omega) (p17_3n0_x x z (B[k].toNat : Int) i off B.length cap k ((7 * k : Nat) : Int)) (iOr .u64 z (iShl .u64 (IntKind.wrap .u64 (iAnd .u8 (B[k].toNat : Int) 127)) ((7 * k : Nat) : Int))) with ⟨hR, w, z1, i2, off2, n2, cap2, hv, hE⟩ | ⟨y, r, hE, h3⟩
          · have hv2 := hv
            simp only [Value.slice.injEq, Option.some.injEq, Addr.mk.injEq, and_true] at hv2
            obtain ⟨⟨rfl, rfl⟩, rfl, rfl⟩ := hv2
            exact .inl ⟨hR, w, z1, i, off, B.length, cap, rfl, To.loop (p17_3n0 (m := m) x z (B[k].toNat : Int) i off B.length cap k ((7 * k : Nat) : Int) h1 h2 hcell (by simp; omega) (by omega) hs7 (by omega) (by omega) hk1) (hE.conv (by kernel_rfl) (by kernel_rfl))⟩
          · exact .inr ⟨y, r, To.loop (p17_3n0 (m := m) x z (B[k].toNat : Int) i off B.length cap k ((7 * k : Nat) : Int) h1 h2 hcell (by simp; omega) (by omega) hs7 (by omega) (by omega) hk1) (hE.conv (by kernel_rfl) rfl), h3⟩
        · rcases ih (k + 1) (by omega) (by omega) (p17_3nn_x x z (B[k].toNat : Int) i off B.length cap k ((7 * k : Nat) : Int)) (iOr .u64 z (iShl .u64 (IntKind.wrap .u64 (iAnd .u8 (B[k].toNat : Int) 127)) ((7 * k : Nat) : Int))) with ⟨hR, w, z1, i2, off2, n2, cap2, hv, hE⟩ | ⟨y, r, hE, h3⟩
          · have hv2 := hv
            simp only [Value.slice.injEq, Option.some.injEq, Addr.mk.injEq, and_true] at hv2
            obtain ⟨⟨rfl, rfl⟩, rfl, rfl⟩ := hv2
            exact .inl ⟨hR, w, z1, i, off, B.length, cap, rfl, To.loop (p17_3nn (m := m) x z (B[k].toNat : Int) i off B.length cap k ((7 * k : Nat) : Int) h1 h2 hcell (by simp; omega) (by omega) (by simp; omega) hs7 (by omega) (by omega) hk1) (hE.conv (by kernel_rfl) (by kernel_rfl))⟩
          · exact .inr ⟨y, r, To.loop (p17_3nn (m := m) x z (B[k].toNat : Int) i off B.length cap k ((7 * k : Nat) : Int) h1 h2 hcell (by simp; omega) (by omega) (by simp; omega) hs7 (by omega) (by omega) hk1) (hE.conv (by kernel_rfl) rfl), h3⟩

theorem cal17 (m : M) (v : Value) (B : List UInt8) (hn : B.length < 2 ^ 62) (hbar : m.bar ≤ m.nxt) (hB : CutB Try.prog m v B) :
    ∃ r, Cal Try.prog 17 #[v] m (.ret (.tuple #[.int .u64 (takeI B 0 0).1, r, .int .i64 (takeI B 0 0).2.2])) m ∧ (((takeI B 0 0).2.2 = 0 ∧ CutB Try.prog m r (B.drop (takeI B 0 0).2.1)) ∨ ((takeI B 0 0).2.2 ≠ 0 ∧ r = v)) := by
  have hcut := hB
  rcases hB with ⟨rfl, rfl⟩ | ⟨i, off, cap, rfl, h2, h3, h4⟩
  · refine ⟨.slice none 0 0, ?_, .inr ⟨by simp [takeI], rfl⟩⟩
    refine Cal.ret (a := st 46 (p17_bn_x (fun _ => undef) (upd (fun _ => undef) 11 (.bool false)) 0)) Try.func17 body17 ?_ (.inr rfl) rfl (by kernel_rfl)
    refine (p17_bn (fun _ => undef) (upd (fun _ => undef) 11 (.bool false)) 0 ?_).conv (by kernel_rfl) (by kernel_rfl)
    exact To.loop_out ((p17_3o (upd (upd (upd (upd (upd (upd (fun _ => undef) 0 (.slice none 0 0)) 2 (.int .u64 0)) 3 (.slice none 0 0)) 4 (.int .i64 0)) 5 (.int .u64 0)) 8 (.slice none 0 0)) 0 0 (by omega)).conv (by kernel_rfl) (by kernel_rfl)) (by simp)
  · have hL := loop17 m i off cap B hn hbar hcut h4 B.length 0 (by omega) (by omega) (upd (upd (upd (fun _ => undef) 2 (.int .u64 0)) 3 (.slice none 0 0)) 4 (.int .i64 0)) 0
    rw [List.drop_zero] at hL
    generalize takeI B 0 0 = R at hL ⊢
    rcases hL with ⟨rfl, w, z1, i2, off2, n2, cap2, hv, hE⟩ | ⟨y, r, hE, h5, h6, h7, h8⟩
    · simp only [Value.slice.injEq, Option.some.injEq, Addr.mk.injEq, and_true] at hv
      obtain ⟨⟨rfl, rfl⟩, rfl, rfl⟩ := hv
      refine ⟨.slice (some ⟨i, off, none⟩) B.length cap, ?_, .inr ⟨by simp, rfl⟩⟩
      refine Cal.ret (a := st 46 (p17_bo_x (fun _ => undef) w z1 i off B.length cap)) Try.func17 body17 ?_ (.inr rfl) rfl (by kernel_rfl)
      exact (p17_bo (fun _ => undef) w z1 i off B.length cap (hE.conv (by kernel_rfl) (by kernel_rfl))).conv (by kernel_rfl) (by kernel_rfl)
    · refine ⟨r, ?_, h8⟩
      have hres : iresults Try.prog Try.f17 (st 46 (p17_br_x (fun _ => undef) y i off B.length cap)).tmps m = some (.tuple #[y 2, y 3, y 4]) := by kernel_rfl
      rw [h5, h6, h7] at hres
      refine Cal.ret (a := st 46 (p17_br_x (fun _ => undef) y i off B.length cap)) Try.func17 body17 ?_ (.inr rfl) rfl hres
      exact (p17_br (fun _ => undef) y i off B.length cap (hE.conv (by kernel_rfl) (by kernel_rfl))).conv (by kernel_rfl) (by kernel_rfl)

end Go.IM
