/- What check.Sum comes to. -/
import Derived.Test.YtoejiaciaafbmaaImP1
import Derived.Test.YtoejiaciaafbmaaImBytes
set_option linter.unusedVariables false
namespace Go.IM
open Go Go.Proofs

/-! ### check.Sum -/
noncomputable def stepI (s : Int) : Int := iXor .u32 (iShr .u32 s 1) (IntKind.wrap .u32 (2197175160 * iAnd .u32 s 1))
noncomputable def stepsI : Nat → Int → Int
  | 0, s => s
  | d + 1, s => stepsI d (stepI s)
noncomputable def sumI : List UInt8 → Int → Int
  | [], s => s
  | b :: r, s => sumI r (stepsI 8 (iXor .u32 s (IntKind.wrap .u32 (b.toNat : Int))))

theorem loop11_7 (m : M) : ∀ (d k : Nat), k + d = 8 → ∀ (x : Sl) (s : Int), ∃ w : Sl, Ev.To Try.prog (.loop l11_7) (st 31 (upd (upd x 3 (.int .u32 s)) 17 (.int .i64 (k : Nat)))) m (.exit 2)
    (st 31 (upd (upd (ov x w [6, 18, 19, 20, 21, 22, 23, 24, 25, 26, 27]) 3 (.int .u32 (stepsI d s))) 17 (.int .i64 (8 : Nat)))) m := by
  intro d
  induction d with
  | zero =>
    intro k hk x s
    obtain rfl : k = 8 := by omega
    exact ⟨upd x 18 (.bool false), To.loop_out ((p11_7o (upd x 3 (.int .u32 s)) 8 (by omega)).conv (by kernel_rfl) (by kernel_rfl)) (by simp)⟩
  | succ d ih =>
    intro k hk x s
    obtain ⟨w, hw⟩ := ih (k + 1) (by omega) (p11_7n_x x s k) (stepI s)
    exact ⟨w, To.loop (p11_7n x s k (by omega) (i64_succ k (by omega))) (hw.conv (by kernel_rfl) (by kernel_rfl))⟩

theorem loop11_3 (m : M) (i off n cap : Nat) (hn : n < 2 ^ 62) (B : List UInt8) (hB : B.length = n) (hm : ∀ (j : Nat) (x : UInt8), B[j]? = some x → m.cell i (off + j) = some (.int .u8 (x.toNat : Int))) :
    ∀ (d j : Nat), j + d = n → ∀ (x : Sl) (s : Int), ∃ w : Sl,
    Ev.To Try.prog (.loop l11_3) (st 31 (upd (upd (upd (upd x 3 (.int .u32 s)) 7 (.slice (some ⟨i, off, none⟩) n cap)) 8 (.int .i64 (n : Nat))) 9 (.int .i64 (j : Nat)))) m (.exit 0)
      (st 31 (upd (upd (upd (upd (ov x w [5, 6, 10, 11, 12, 13, 14, 15, 16, 17, 18, 19, 20, 21, 22, 23, 24, 25, 26, 27, 28]) 3 (.int .u32 (sumI (B.drop j) s))) 7 (.slice (some ⟨i, off, none⟩) n cap)) 8 (.int .i64 (n : Nat))) 9 (.int .i64 (n : Nat)))) m := by
  intro d
  induction d with
  | zero =>
    intro j hj x s
    obtain rfl : j = n := by omega
    refine ⟨upd x 10 (.bool false), To.loop_out ((p11_3o (upd (upd x 3 (.int .u32 s)) 7 (.slice (some ⟨i, off, none⟩) j cap)) j j (by omega)).conv (by kernel_rfl) ?_) (by simp)⟩
    rw [List.drop_eq_nil_of_le (by omega)]
    kernel_rfl
  | succ d ih =>
    intro j hj x s
    have hjl : j < B.length := by omega
    have hb : B[j]? = some B[j] := by simp [hjl]
    have hcell := hm j B[j] hb
    have hdrop : B.drop j = B[j] :: B.drop (j + 1) := by rw [List.drop_eq_getElem_cons hjl]
    rw [hdrop]
    obtain ⟨w, hw⟩ := loop11_7 m 8 0 rfl (upd (upd (upd (upd (upd (upd (upd (upd (upd (upd (upd x 5 (.int .u8 (B[j].toNat : Int))) 7 (.slice (some ⟨i, off, none⟩) n cap)) 8 (.int .i64 (n : Nat))) 9 (.int .i64 (j : Nat))) 10 (.bool true)) 11 (.pointer (some ⟨i, (off + ((j : Nat) : Int).toNat * 1), none⟩))) 12 (.int .u8 (B[j].toNat : Int))) 13 (.int .u32 s)) 14 (.int .u8 (B[j].toNat : Int))) 15 (.int .u32 (IntKind.wrap .u32 (B[j].toNat : Int)))) 16 (.int .u32 (iXor .u32 s (IntKind.wrap .u32 (B[j].toNat : Int)))))
      (iXor .u32 s (IntKind.wrap .u32 (B[j].toNat : Int)))
    obtain ⟨w2, hw2⟩ := ih (j + 1) (by omega) (p11_3n_x x w s (stepsI 8 (iXor .u32 s (IntKind.wrap .u32 (B[j].toNat : Int)))) (B[j].toNat : Int) i off n cap j) (stepsI 8 (iXor .u32 s (IntKind.wrap .u32 (B[j].toNat : Int))))
    refine ⟨w2, To.loop (p11_3n x w s (stepsI 8 (iXor .u32 s (IntKind.wrap .u32 (B[j].toNat : Int)))) (B[j].toNat : Int) i off n cap j (by omega) (by omega) ?_ (hw.conv (by kernel_rfl) (by kernel_rfl)) (i64_succ j (by omega))) (hw2.conv (by kernel_rfl) (by kernel_rfl))⟩
    simpa using hcell

theorem cal11 (m : M) (v : Value) (B : List UInt8) (hn : B.length < 2 ^ 62) (hB : IsBytes m v B) : Cal Try.prog 11 #[v] m (.ret (.int .u32 (iNot .u32 (sumI B 4294967295)))) m := by
  rcases hB with ⟨rfl, rfl⟩ | ⟨i, off, cap, rfl, hm⟩
  · refine Cal.ret (a := st 31 (p11_bn_x (fun _ => undef) (upd (fun _ => undef) 10 (.bool false)) 4294967295)) Try.func11 body11 ?_ (.inr rfl) rfl (by kernel_rfl)
    refine (p11_bn (fun _ => undef) (upd (fun _ => undef) 10 (.bool false)) 4294967295 ?_).conv (by kernel_rfl) (by kernel_rfl)
    exact To.loop_out ((p11_3o (upd (upd (upd (upd (fun _ => undef) 0 (.slice none 0 0)) 2 (.int .u32 0)) 3 (.int .u32 4294967295)) 7 (.slice none 0 0)) 0 0 (by omega)).conv (by kernel_rfl) (by kernel_rfl)) (by simp)
  · obtain ⟨w, hw⟩ := loop11_3 m i off B.length cap hn B rfl hm B.length 0 (by omega) (upd (upd (fun _ => undef) 0 (.slice (some ⟨i, off, none⟩) B.length cap)) 2 (.int .u32 0)) 4294967295
    refine Cal.ret (a := st 31 (p11_b_x (fun _ => undef) w (sumI B 4294967295) i off B.length cap)) Try.func11 body11 ?_ (.inr rfl) rfl (by kernel_rfl)
    exact (p11_b (fun _ => undef) w (sumI B 4294967295) i off B.length cap (hw.conv (by kernel_rfl) (by kernel_rfl))).conv (by kernel_rfl) (by kernel_rfl)

end Go.IM
