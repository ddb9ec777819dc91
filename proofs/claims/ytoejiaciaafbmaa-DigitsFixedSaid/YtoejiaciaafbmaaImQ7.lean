/- What DigitsFixed comes to. -/
import Derived.Test.YtoejiaciaafbmaaImQ6
set_option linter.unusedVariables false
set_option linter.unusedSimpArgs false
namespace Go.IM
open Go Go.Proofs

theorem build2 (m : M) (h : m.get m.nxt = none) : ibuildSlice Try.prog 22 2 [(0, .int .u8 128), (1, .int .u8 0)] m = some (.slice (some ⟨m.nxt, 0, none⟩) 2 2, m.mk1 (.cells #[.int .u8 128, .int .u8 0] 5)) := by
  have e : ibuildSlice Try.prog 22 2 [(0, .int .u8 128), (1, .int .u8 0)] m = (m.new #[.int .u8 128, .int .u8 0] 5).bind fun p => if 2 ≤ (#[.int .u8 128, .int .u8 0] : Array Value).size then some (.slice (some p.1) 2 2, p.2) else none := by kernel_rfl
  rw [e]
  unfold M.new
  rw [h]
  rfl

theorem row_mk1_new {m : M} (c : Array Value) (e : TypeId) : (m.mk1 (.cells c e)).row m.nxt = some (c, e) := by
  unfold M.row; rw [alive_mk1_new]

theorem awake2 (m : M) (hF : Free m) (hbar : m.bar ≤ m.nxt) : ∃ m', Cal Try.prog 13 #[] m (.ret (.bool true)) m' ∧ Keep m m' := by
  have hf := hF _ (Nat.le_refl _)
  have k1 := Keep.mk1 hF (.cells #[.int .u8 128, .int .u8 0] 5)
  have hC : CutB Try.prog (m.mk1 (.cells #[.int .u8 128, .int .u8 0] 5)) (.slice (some ⟨m.nxt, 0, none⟩) 2 2) [128, 0] := by
    refine .inr ⟨m.nxt, 0, 2, rfl, Nat.le_refl _, .inr ⟨_, _, row_mk1_new _ _, T22.cells⟩, fun j x hx => ?_⟩
    rw [Nat.zero_add, cell_mk1_new]
    match j, hx with
    | 0, hx => simp at hx; subst hx; rfl
    | 1, hx => simp at hx; subst hx; rfl
    | j + 2, hx => simp at hx
  obtain ⟨r, h1, _⟩ := cal17 _ _ [128, 0] (by decide) (by rw [k1.bar]; exact Nat.le_trans hbar k1.nxt) hC
  have ht : takeI [128, 0] 0 0 = (0, 0, 4) := by kernel_rfl
  rw [ht] at h1
  obtain ⟨m2, v2, h2, h3, h4⟩ := cal16 _ (.slice none 0 0) [] 300 (by decide) k1.free (.inl ⟨rfl, rfl⟩) (by decide)
  have hl : layB 9 300 = [172, 2] := by decide +kernel
  rw [List.nil_append, hl] at h3
  refine ⟨m2, ?_, k1.trans h4⟩
  refine Cal.ret (a := st 19 (p13_x (fun _ => undef) (m.mk1 (.cells #[.int .u8 128, .int .u8 0] 5)) m2 (.slice (some ⟨m.nxt, 0, none⟩) 2 2) r v2 ⟨#[172, 2]⟩)) Try.func13 body13 ?_ (.inr rfl) rfl (by kernel_rfl)
  exact (p13 (m := m) (fun _ => undef) _ m2 _ r v2 ⟨#[172, 2]⟩ (rPair_of (build2 m hf)) h1 h2 (rVal_of (string_bytes h3.bytes)) (by simp) (by rfl)).conv (by kernel_rfl) (by kernel_rfl)

theorem wf_u64 {n : Int} (h : (Lit.int .u64 n).wf = true) : ∃ z : Nat, n = (z : Int) ∧ z < 2 ^ 64 := by
  have h2 : 0 ≤ n ∧ n ≤ 18446744073709551615 := by simpa [Lit.wf, IntKind.min, IntKind.max, IntKind.signed, IntKind.bits] using h
  exact ⟨n.toNat, by omega, by omega⟩
theorem Buf.slice {P : Program} {m : M} {v : Value} {b : List UInt8} (h : Buf P m v b) (hb : b ≠ []) (hF : Free m) : ∃ i, v = .slice (some ⟨i, 0, none⟩) b.length b.length ∧ i < m.nxt := by
  rcases h with ⟨_, h⟩ | ⟨i, x, c, e, fr, h1, h2, h3, _⟩
  · exact absurd h hb
  · refine ⟨i, h1, ?_⟩
    rcases Nat.lt_or_ge i m.nxt with h | h
    · exact h
    · have := alive_get h3
      rw [hF i h] at this; cases this

theorem law4 : Law Try.prog 4 Try.f4 4 := by
  intro m vs hro hok
  have hpar : Try.f4.params.toList = [22, 27] := by kernel_rfl
  have u27 : Try.prog.underlying 27 = some (.int .u64) := by kernel_rfl
  rw [hpar] at hok
  match vs, hok with
  | [v, y], hok =>
    obtain ⟨hA, hY, _⟩ := hok
    unfold OkA at hA hY
    rw [T22.sl] at hA
    rw [u27] at hY
    dsimp only at hY
    unfold OkV at hY
    rw [u27] at hY
    obtain ⟨n, hy, hwf⟩ := hY
    simp only [List.cons.injEq, and_true] at hy
    subst hy
    obtain ⟨z, rfl, hz⟩ := wf_u64 hwf
    have hF := hro.free
    have hbar : m.bar ≤ m.nxt := by rw [hro.bar]; exact Nat.zero_le _
    obtain ⟨B, hlen, hv⟩ := okv_bytes (f := 2) hro T22.sl T22.u8 T22.cells hA
    obtain ⟨m1, aw, k1⟩ := awake2 m hF hbar
    have hbar1 : m1.bar ≤ m1.nxt := by rw [k1.bar]; exact Nat.le_trans hbar k1.nxt
    have hB0 : IsBytes m v B := by
      rcases hv with h | ⟨i, cap, h1, _, _, h2⟩
      · exact .inl h
      · exact .inr ⟨i, 0, cap, h1, h2⟩
    have hB1 := hB0.keep k1
    by_cases hbig : 200 < B.length
    · obtain ⟨m2, aw2, k2⟩ := awake2 m1 k1.free hbar1
      rcases hv with ⟨_, rfl⟩ | ⟨i, cap, rfl, _, _, _⟩
      · simp at hbig
      · refine Cal.law (m1 := m2) (Cal.ret (a := st 23 (p4_big_x (fun _ => undef) m1 m2 (z : Int) i 0 B.length cap)) Try.func4 body4 ?_ (.inr rfl) rfl (by kernel_rfl))
        exact (p4_big (fun _ => undef) m1 m2 (z : Int) i 0 B.length cap aw (by omega) aw2).conv (by kernel_rfl) (by kernel_rfl)
    · obtain ⟨v2, m2, a1, a2, a3⟩ := buf_append (P := Try.prog) (v := .slice none 0 0) (b := []) T22 k1.free (.inl ⟨rfl, rfl⟩) hB1 (by simp; omega)
      rw [List.nil_append] at a2
      obtain ⟨m3, v3, b1, b2, b3⟩ := cal14 (M.rebar m1.bar m2) v2 B z a3.free a2 (by omega)
      have hne : B ++ tailB z 8 ≠ [] := by simp [tailB]
      obtain ⟨i2, rfl, hi2⟩ := b2.slice hne b3.free
      have hB3 : IsBytes m3 v B := IsBytes.keep (show IsBytes (M.rebar m1.bar m2) v B from IsBytes.keep (m' := m2) hB1 a3) b3
      obtain ⟨m4, v4, c1, c2, c3⟩ := cal15 (M.rebar ((M.rebar (m1).bar m3)).nxt (M.rebar (m1).bar m3)) v B z b3.free hB3 (by omega)
      obtain ⟨i4, rfl, hi4⟩ := c2.slice hne c3.free
      have s1 := string_bytes (m := M.rebar ((M.rebar (m1).bar m3)).nxt (M.rebar (m1).bar m3)) (show IsBytes m3 _ _ from Buf.bytes b2)
      have s2 := string_bytes (m := M.rebar (m1).bar m4) (show IsBytes m4 _ _ from Buf.bytes c2)
      rcases hv with ⟨rfl, rfl⟩ | ⟨i, cap, rfl, _, _, _⟩
      · refine Cal.law (m1 := M.rebar m1.bar m4) (Cal.ret (a := st 23 (p4_n_x (fun _ => undef) m1 m2 m3 m4 v2 i2 ([] ++ tailB z 8).length i4 ([] ++ tailB z 8).length ⟨([] ++ tailB z 8).toArray⟩ ⟨([] ++ tailB z 8).toArray⟩ (z : Int))) Try.func4 body4 ?_ (.inr rfl) rfl (by kernel_rfl))
        exact (p4_n (fun _ => undef) m1 m2 m3 m4 v2 i2 _ i4 _ _ _ (z : Int) aw (by decide) hbar1 (rPair_of a1) b1 hi2 (rVal_of s1) c1 (rVal_of s2) (by simp)).conv (by kernel_rfl) (by kernel_rfl)
      · refine Cal.law (m1 := M.rebar m1.bar m4) (Cal.ret (a := st 23 (p4_a_x (fun _ => undef) m1 m2 m3 m4 v2 i2 (B ++ tailB z 8).length i4 (B ++ tailB z 8).length ⟨(B ++ tailB z 8).toArray⟩ ⟨(B ++ tailB z 8).toArray⟩ (z : Int) i 0 B.length cap)) Try.func4 body4 ?_ (.inr rfl) rfl (by kernel_rfl))
        exact (p4_a (fun _ => undef) m1 m2 m3 m4 v2 i2 _ i4 _ _ _ (z : Int) i 0 B.length cap aw (by omega) hbar1 (rPair_of a1) b1 hi2 (rVal_of s1) c1 (rVal_of s2) (by simp)).conv (by kernel_rfl) (by kernel_rfl)

end Go.IM
