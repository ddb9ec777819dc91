/- What CheckSums comes to. -/
import Derived.Test.YtoejiaciaafbmaaImP4
set_option linter.unusedVariables false
set_option linter.unusedSimpArgs false
namespace Go.IM
open Go Go.Proofs

def nineB : List UInt8 := [49, 50, 51, 52, 53, 54, 55, 56, 57]
def nineC : Array Value := ⟨nineB.map byteV⟩

theorem build9 (m : M) (h : m.get m.nxt = none) : ibuildSlice Try.prog 22 9 [(0, .int .u8 49), (1, .int .u8 50), (2, .int .u8 51), (3, .int .u8 52), (4, .int .u8 53), (5, .int .u8 54), (6, .int .u8 55), (7, .int .u8 56), (8, .int .u8 57)] m =
    some (.slice (some ⟨m.nxt, 0, none⟩) 9 9, m.mk1 (.cells nineC 5)) := by
  have e : ibuildSlice Try.prog 22 9 [(0, .int .u8 49), (1, .int .u8 50), (2, .int .u8 51), (3, .int .u8 52), (4, .int .u8 53), (5, .int .u8 54), (6, .int .u8 55), (7, .int .u8 56), (8, .int .u8 57)] m =
    (m.new nineC 5).bind fun p => if 9 ≤ nineC.size then some (.slice (some p.1) 9 9, p.2) else none := by kernel_rfl
  rw [e]
  unfold M.new
  rw [h]
  rfl

theorem u22 : Try.prog.underlying 22 = some (.slice 5) := by kernel_rfl
theorem u5 : Try.prog.underlying 5 = some (.int .u8) := by kernel_rfl
theorem c5 : Try.prog.cellsOf 5 = 1 := by kernel_rfl

theorem conv_bytes {m : M} {ev : Operand → Value} {o : Oper} {i n cap : Nat} {off : Nat} {b : Blk} {c : Array Value} {e : TypeId} {fr : Nat × Nat} (h : m.alive i = some b) (hb : b.obj = .cells c e fr) (hro : b.ro = false) (hc : cap ≠ 0) :
    iconvert Try.prog ev o 22 22 (.slice (some ⟨i, off, none⟩) n cap) m = some (.val (.slice (some ⟨i, off, none⟩) n cap) m) := by
  unfold iconvert
  simp [u22, u5, h, hb, hro, hc]

theorem awake3 (m : M) (h : m.get m.nxt = none) : Cal Try.prog 10 #[] m (.ret (.bool true)) (m.mk1 (.cells nineC 5)) := by
  have hB : IsBytes (m.mk1 (.cells nineC 5)) (.slice (some ⟨m.nxt, 0, none⟩) 9 9) nineB := by
    refine .inr ⟨m.nxt, 0, 9, rfl, fun j x hx => ?_⟩
    rw [Nat.zero_add, cell_mk1_new]
    show (nineB.map byteV).toArray[j]? = _
    simp [hx, byteV]
  have hr : iNot .u32 (sumI nineB 4294967295) = 3808858755 := by kernel_rfl
  refine Cal.ret (a := st 5 (p10_x (fun _ => undef) (m.mk1 (.cells nineC 5)) m.nxt (iNot .u32 (sumI nineB 4294967295)))) Try.func10 body10 ?_ (.inr rfl) rfl (by kernel_rfl)
  refine (p10 (m := m) (fun _ => undef) (m.mk1 (.cells nineC 5)) m.nxt (iNot .u32 (sumI nineB 4294967295)) ?_ ?_ ?_ ?_).conv (by kernel_rfl) (by kernel_rfl)
  · exact rPair_of (build9 m h)
  · exact conv_bytes (alive_mk1_new _) rfl rfl (by omega)
  · exact cal11 _ _ nineB (by decide) hB
  · rw [hr]; rfl

/-- What is left to show. -/
def SumsAlike : Prop := ∀ B : List UInt8, iNot .u32 (sumI B 4294967295) = rsum B

theorem law3 (H : SumsAlike) : Law Try.prog 3 Try.f3 4 := by
  intro m vs hro hok
  have hpar : Try.f3.params.toList = [22] := by kernel_rfl
  rw [hpar] at hok
  match vs, hok with
  | [v], hok =>
    obtain ⟨hA, _⟩ := hok
    unfold OkA at hA
    rw [u22] at hA
    have hf := hro.free
    have hf0 : m.get m.nxt = none := hf _ (Nat.le_refl _)
    obtain ⟨B, hlen, hv⟩ := okv_bytes (f := 2) hro u22 u5 c5 hA
    have aw := awake3 m hf0
    have hB : IsBytes (m.mk1 (.cells nineC 5)) v B := by
      refine IsBytes.mk1 hf0 ?_
      rcases hv with h | ⟨i, cap, h1, _, _, h2⟩
      · exact .inl h
      · exact .inr ⟨i, 0, cap, h1, h2⟩
    refine Cal.law (m1 := ?_) ?_
    · exact if 500 < B.length then (m.mk1 (.cells nineC 5)).mk1 (.cells nineC 5) else m.mk1 (.cells nineC 5)
    by_cases hbig : 500 < B.length
    · rw [if_pos hbig]
      have aw2 := awake3 (m.mk1 (.cells nineC 5)) (hf.mk1 _ _ (Nat.le_refl _))
      rcases hv with ⟨_, rfl⟩ | ⟨i, cap, rfl, _, _, _⟩
      · simp at hbig
      · refine Cal.ret (a := st 16 (p3_a_big_x (fun _ => undef) (m.mk1 (.cells nineC 5)) ((m.mk1 (.cells nineC 5)).mk1 (.cells nineC 5)) i 0 B.length cap)) Try.func3 body3 ?_ (.inr rfl) rfl (by kernel_rfl)
        exact (p3_a_big (fun _ => undef) _ _ i 0 B.length cap aw (by omega) aw2).conv (by kernel_rfl) (by kernel_rfl)
    · rw [if_neg hbig]
      have h1 := cal11 _ _ B (by omega) hB
      have h2 := cal12 _ _ B (by omega) hB
      have he := H B
      rcases hv with ⟨rfl, rfl⟩ | ⟨i, cap, rfl, _, _, _⟩
      · refine Cal.ret (a := st 16 (p3_n_x (fun _ => undef) (m.mk1 (.cells nineC 5)) (iNot .u32 (sumI [] 4294967295)) (rsum []))) Try.func3 body3 ?_ (.inr rfl) rfl (by kernel_rfl)
        exact (p3_n (fun _ => undef) _ _ _ aw (by decide) h1 h2 (by simpa using he)).conv (by kernel_rfl) (by kernel_rfl)
      · refine Cal.ret (a := st 16 (p3_a_x (fun _ => undef) (m.mk1 (.cells nineC 5)) (iNot .u32 (sumI B 4294967295)) (rsum B) i 0 B.length cap)) Try.func3 body3 ?_ (.inr rfl) rfl (by kernel_rfl)
        exact (p3_a (fun _ => undef) _ _ _ i 0 B.length cap aw (by omega) h1 h2 (by simpa using he)).conv (by kernel_rfl) (by kernel_rfl)

end Go.IM
