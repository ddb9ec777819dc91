/- What anabranchref01.Sum comes to. -/
import Derived.Test.YtoejiaciaafbmaaImP2
set_option linter.unusedVariables false
namespace Go.IM
open Go Go.Proofs

/-! ### anabranchref01.Sum -/
noncomputable def topI (s : Int) : Int := iShr .u32 s 31
noncomputable def bitI (b : Int) (k : Nat) : Int := iAnd .u32 (IntKind.wrap .u32 (iShr .u8 b ((k : Nat) : Int))) 1
noncomputable def rstepI (b : Int) (k : Nat) (s : Int) : Int := if bitI b k = topI s then iShl .u32 s 1 else iXor .u32 (iShl .u32 s 1) 517762881
/-- d steps from the k-th bit on. -/
noncomputable def rstepsI (b : Int) : Nat → Nat → Int → Int
  | 0, _, s => s
  | d + 1, k, s => rstepsI b d (k + 1) (rstepI b k s)
noncomputable def rsumI : List UInt8 → Int → Int
  | [], s => s
  | b :: r, s => rsumI r (rstepsI (b.toNat : Int) 8 0 s)
noncomputable def turnI (s : Int) : Nat → Nat → Int → Int
  | 0, _, t => t
  | d + 1, k, t => turnI s d (k + 1) (iOr .u32 (iShl .u32 t 1) (iAnd .u32 (iShr .u32 s ((k : Nat) : Int)) 1))

theorem loop12_6 (m : M) (i off n cap j : Nat) (b : Int) (hj : j < n) (hm : m.cell i (off + j) = some (.int .u8 b)) : ∀ (d k : Nat), k + d = 8 → ∀ (x : Sl) (s : Int), ∃ w : Sl,
    Ev.To Try.prog (.loop l12_6) (st 51 (upd (upd (upd (upd x 0 (.slice (some ⟨i, off, none⟩) n cap)) 3 (.int .u32 s)) 4 (.int .i64 (j : Nat))) 5 (.int .i64 (k : Nat)))) m (.exit 2)
    (st 51 (upd (upd (upd (upd (ov x w [6, 7, 16, 17, 18, 19, 20, 21, 22, 23, 24, 25, 26, 27, 28, 29, 30, 31, 32, 33, 34, 35, 36]) 0 (.slice (some ⟨i, off, none⟩) n cap)) 3 (.int .u32 (rstepsI b d k s))) 4 (.int .i64 (j : Nat))) 5 (.int .i64 (8 : Nat)))) m := by
  intro d
  induction d with
  | zero =>
    intro k hk x s
    obtain rfl : k = 8 := by omega
    exact ⟨upd (upd x 16 (.int .i64 (8 : Nat))) 17 (.bool false), To.loop_out ((p12_6o (upd (upd (upd x 0 (.slice (some ⟨i, off, none⟩) n cap)) 3 (.int .u32 s)) 4 (.int .i64 (j : Nat))) 8 (by omega)).conv (by kernel_rfl) (by kernel_rfl)) (by simp)⟩
  | succ d ih =>
    intro k hk x s
    have hcell : m.cell i (off + (((j : Nat) : Int) : Int).toNat * 1) = some (.int .u8 b) := by simpa using hm
    by_cases hb : bitI b k = topI s
    · obtain ⟨w, hw⟩ := ih (k + 1) (by omega) (p12_6n_eq_x x s b i off n cap j k) (iShl .u32 s 1)
      refine ⟨w, To.loop (p12_6n_eq x s b i off n cap j k (by omega) (by omega) hcell (by omega) (by simpa [bitI, topI] using hb) (i64_succ k (by omega))) (hw.conv (by kernel_rfl) ?_)⟩
      have : rstepsI b (d + 1) k s = rstepsI b d (k + 1) (iShl .u32 s 1) := by simp [rstepsI, rstepI, hb]
      rw [this]
      show _ = _
      kernel_rfl
    · obtain ⟨w, hw⟩ := ih (k + 1) (by omega) (p12_6n_ne_x x s b i off n cap j k) (iXor .u32 (iShl .u32 s 1) 517762881)
      refine ⟨w, To.loop (p12_6n_ne x s b i off n cap j k (by omega) (by omega) hcell (by omega) (by simpa [bitI, topI] using hb) (i64_succ k (by omega))) (hw.conv (by kernel_rfl) ?_)⟩
      have : rstepsI b (d + 1) k s = rstepsI b d (k + 1) (iXor .u32 (iShl .u32 s 1) 517762881) := by simp [rstepsI, rstepI, hb]
      rw [this]
      show _ = _
      kernel_rfl

theorem loop12_3 (m : M) (i off n cap : Nat) (hn : n < 2 ^ 62) (B : List UInt8) (hB : B.length = n) (hm : ∀ (j : Nat) (x : UInt8), B[j]? = some x → m.cell i (off + j) = some (.int .u8 (x.toNat : Int))) :
    ∀ (d j : Nat), j + d = n → ∀ (x : Sl) (s : Int), ∃ w : Sl,
    Ev.To Try.prog (.loop l12_3) (st 51 (upd (upd (upd x 0 (.slice (some ⟨i, off, none⟩) n cap)) 3 (.int .u32 s)) 4 (.int .i64 (j : Nat)))) m (.exit 0)
      (st 51 (upd (upd (upd (ov x w [5, 6, 7, 10, 11, 12, 13, 14, 15, 16, 17, 18, 19, 20, 21, 22, 23, 24, 25, 26, 27, 28, 29, 30, 31, 32, 33, 34, 35, 36]) 0 (.slice (some ⟨i, off, none⟩) n cap)) 3 (.int .u32 (rsumI (B.drop j) s))) 4 (.int .i64 (n : Nat)))) m := by
  intro d
  induction d with
  | zero =>
    intro j hj x s
    obtain rfl : j = n := by omega
    refine ⟨p12_3o_x (upd x 3 (.int .u32 s)) i off j cap j, To.loop_out ((p12_3o (upd x 3 (.int .u32 s)) i off j cap j (by omega)).conv (by kernel_rfl) ?_) (by simp)⟩
    rw [List.drop_eq_nil_of_le (by omega)]
    kernel_rfl
  | succ d ih =>
    intro j hj x s
    have hjl : j < B.length := by omega
    have hb : B[j]? = some B[j] := by simp [hjl]
    have hcell := hm j B[j] hb
    have hdrop : B.drop j = B[j] :: B.drop (j + 1) := by rw [List.drop_eq_getElem_cons hjl]
    rw [hdrop]
    obtain ⟨w, hw⟩ := loop12_6 m i off n cap j (B[j].toNat : Int) (by omega) hcell 8 0 rfl (upd (upd (upd (upd (upd x 10 (.int .i64 (j : Nat))) 11 (.slice (some ⟨i, off, none⟩) n cap)) 12 (.int .i64 (n : Nat))) 13 (.bool true)) 5 (.int .i64 0)) s
    obtain ⟨w2, hw2⟩ := ih (j + 1) (by omega) (p12_3n_x x w s (rstepsI (B[j].toNat : Int) 8 0 s) i off n cap j) (rstepsI (B[j].toNat : Int) 8 0 s)
    exact ⟨w2, To.loop (p12_3n x w s (rstepsI (B[j].toNat : Int) 8 0 s) i off n cap j (by omega) (hw.conv (by kernel_rfl) (by kernel_rfl)) (i64_succ j (by omega))) (hw2.conv (by kernel_rfl) (by kernel_rfl))⟩

theorem loop12_16 (m : M) (s : Int) : ∀ (d k : Nat), k + d = 32 → ∀ (x : Sl) (t : Int), ∃ w : Sl,
    Ev.To Try.prog (.loop l12_16) (st 51 (upd (upd (upd x 3 (.int .u32 s)) 8 (.int .u32 t)) 9 (.int .i64 (k : Nat)))) m (.exit 4)
    (st 51 (upd (upd (upd (ov x w [39, 40, 41, 42, 43, 44, 45, 46, 47, 48, 49]) 3 (.int .u32 s)) 8 (.int .u32 (turnI s d k t))) 9 (.int .i64 (32 : Nat)))) m := by
  intro d
  induction d with
  | zero =>
    intro k hk x t
    obtain rfl : k = 32 := by omega
    exact ⟨p12_16o_x x 32, To.loop_out ((p12_16o (upd (upd x 3 (.int .u32 s)) 8 (.int .u32 t)) 32 (by omega)).conv (by kernel_rfl) (by kernel_rfl)) (by simp)⟩
  | succ d ih =>
    intro k hk x t
    obtain ⟨w, hw⟩ := ih (k + 1) (by omega) (p12_16n_x x s t k) (iOr .u32 (iShl .u32 t 1) (iAnd .u32 (iShr .u32 s ((k : Nat) : Int)) 1))
    exact ⟨w, To.loop (p12_16n x s t k (by omega) (by omega) (i64_succ k (by omega))) (hw.conv (by kernel_rfl) (by kernel_rfl))⟩

noncomputable def rsum (B : List UInt8) : Int := turnI (iNot .u32 (rsumI B 4294967295)) 32 0 0

theorem cal12 (m : M) (v : Value) (B : List UInt8) (hn : B.length < 2 ^ 62) (hB : IsBytes m v B) : Cal Try.prog 12 #[v] m (.ret (.int .u32 (rsum B))) m := by
  rcases hB with ⟨rfl, rfl⟩ | ⟨i, off, cap, rfl, hm⟩
  · obtain ⟨w2, hw2⟩ := loop12_16 m (iNot .u32 4294967295) 32 0 rfl (upd (upd (upd (upd (upd (upd (upd (upd (upd (upd (fun _ => undef) 0 (.slice none 0 0)) 2 (.int .u32 0)) 4 (.int .i64 0)) 10 (.int .i64 (0 : Nat))) 11 (.slice none 0 0)) 12 (.int .i64 (0 : Nat))) 13 (.bool false)) 37 (.int .u32 4294967295)) 38 (.int .u32 (iNot .u32 4294967295))) 0 (.slice none 0 0)) 0
    refine Cal.ret (a := st 51 (p12_bn_x (fun _ => undef) (p12_3on_x (upd (upd (upd (fun _ => undef) 0 (.slice none 0 0)) 2 (.int .u32 0)) 3 (.int .u32 4294967295)) 0) w2 4294967295 (rsum []) 0 0 0 0)) Try.func12 body12 ?_ (.inr rfl) rfl (by kernel_rfl)
    refine (p12_bn (fun _ => undef) (p12_3on_x (upd (upd (upd (fun _ => undef) 0 (.slice none 0 0)) 2 (.int .u32 0)) 3 (.int .u32 4294967295)) 0) w2 4294967295 (rsum []) 0 0 0 0 ?_ (hw2.conv (by kernel_rfl) (by kernel_rfl))).conv (by kernel_rfl) (by kernel_rfl)
    exact To.loop_out ((p12_3on (upd (upd (upd (fun _ => undef) 0 (.slice none 0 0)) 2 (.int .u32 0)) 3 (.int .u32 4294967295)) 0 (by omega)).conv (by kernel_rfl) (by kernel_rfl)) (by simp)
  · obtain ⟨w, hw⟩ := loop12_3 m i off B.length cap hn B rfl hm B.length 0 (by omega) (upd (fun _ => undef) 2 (.int .u32 0)) 4294967295
    obtain ⟨w2, hw2⟩ := loop12_16 m (iNot .u32 (rsumI B 4294967295)) 32 0 rfl (upd (upd (upd (upd (upd (ov (upd (fun _ => undef) 2 (.int .u32 0)) w [5, 6, 7, 10, 11, 12, 13, 14, 15, 16, 17, 18, 19, 20, 21, 22, 23, 24, 25, 26, 27, 28, 29, 30, 31, 32, 33, 34, 35, 36]) 0 (.slice (some ⟨i, off, none⟩) B.length cap)) 2 (.int .u32 0)) 4 (.int .i64 (B.length : Nat))) 37 (.int .u32 (rsumI B 4294967295))) 38 (.int .u32 (iNot .u32 (rsumI B 4294967295)))) 0
    refine Cal.ret (a := st 51 (p12_b_x (fun _ => undef) w w2 (rsumI B 4294967295) (rsum B) i off B.length cap)) Try.func12 body12 ?_ (.inr rfl) rfl (by kernel_rfl)
    exact (p12_b (fun _ => undef) w w2 (rsumI B 4294967295) (rsum B) i off B.length cap (hw.conv (by kernel_rfl) (by kernel_rfl)) (hw2.conv (by kernel_rfl) (by kernel_rfl))).conv (by kernel_rfl) (by kernel_rfl)

end Go.IM
