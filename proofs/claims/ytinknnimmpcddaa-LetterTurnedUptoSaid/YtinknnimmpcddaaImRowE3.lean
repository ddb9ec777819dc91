/- The law anabranchlaw16.LetterTurned, where what it reads is small: it hands back true, and what it was handed reads as it did. -/
import Derived.Test.YtinknnimmpcddaaRows
import Derived.Test.YtinknnimmpcddaaChecked
import Derived.Test.YtinknnimmpcddaaImRowE3P2
set_option linter.unusedVariables false
namespace Go.IM.V
open Go Go.IM Go.Proofs
theorem drOK {d : Dr} (h : okL 1048576 (.p (.i .u8) (.p (.i .u8) (.p (.i .u8) (.p (.i .u8) (.p .b (.p (.i .u64) (.p (.i .u64) (.p (.i .u32) (.p (.i .u32) (.p (.l (.i .u64)) (.p (.l (.p (.i .i64) (.p (.l (.i .u64)) (.p (.i .u64) .u)))) (.p (.l (.i .u16)) (.p (.l (.i .u8)) .u))))))))))))) d) : DrOK d :=
  ⟨ok_u8 h.1, ok_u8 h.2.1, ok_u8 h.2.2.1, ok_u8 h.2.2.2.1, ok_u64 h.2.2.2.2.2.1, ok_u64 h.2.2.2.2.2.2.1, ok_u32 h.2.2.2.2.2.2.2.1, ok_u32 h.2.2.2.2.2.2.2.2.1, fun x hx => ok_u64 (h.2.2.2.2.2.2.2.2.2.1.2 x hx), h.2.2.2.2.2.2.2.2.2.1.1, h.2.2.2.2.2.2.2.2.2.2.1.1,
    fun r hr => ⟨fun x hx => ok_u64 ((h.2.2.2.2.2.2.2.2.2.2.1.2 r hr).2.1.2 x hx), (h.2.2.2.2.2.2.2.2.2.2.1.2 r hr).2.1.1, ok_u64 (h.2.2.2.2.2.2.2.2.2.2.1.2 r hr).2.2.1⟩, fun x hx => ok_u16 (h.2.2.2.2.2.2.2.2.2.2.2.1.2 x hx), h.2.2.2.2.2.2.2.2.2.2.2.1.1, fun x hx => ok_u8 (h.2.2.2.2.2.2.2.2.2.2.2.2.1.2 x hx), h.2.2.2.2.2.2.2.2.2.2.2.2.1.1⟩
theorem law3 : LawL Try.prog 1048576 3 Try.f3 6 := law_ofL (n := 8) (tys := [.p (.i .u8) (.p (.i .u8) (.p (.i .u8) (.p (.i .u8) (.p .b (.p (.i .u64) (.p (.i .u64) (.p (.i .u32) (.p (.i .u32) (.p (.l (.i .u64)) (.p (.l (.p (.i .i64) (.p (.l (.i .u64)) (.p (.i .u64) .u)))) (.p (.l (.i .u16)) (.p (.l (.i .u8)) .u)))))))))))), .i .u16, .i .u8, .i .u16, .i .u8]) (by kernel_rfl) c3_ok (fun x h => letterTurned_pure _ _ _ _ _ (drOK h.1) (ok_u16 h.2.1) (ok_u8 h.2.2.1) (ok_u16 h.2.2.2.1) (ok_u8 h.2.2.2.2.1))
end Go.IM.V
namespace Go.Proofs.Ytinknnimmpcddaa
open Go.ChangeShapes Go.WideShapes Go.ChangeAt Go.RowKit
theorem Try.own3 : ownKnob Try.prog.godebug = none := by kernel_rfl
theorem Try.laidOut3 : laidOutB Try.prog = true := by kernel_rfl
theorem bulk_pos {H : Type} : ∀ d : DataW H, 1 ≤ Rows.uptoBulk d := by
  intro d
  cases d with
  | lit l => cases l <;> simp [Rows.uptoBulk]
  | _ => simp [Rows.uptoBulk]
theorem bulk_all {H : Type} : ∀ l : List (DataW H), l.length ≤ Rows.uptoBulkAll l ∧ ∀ d ∈ l, Rows.uptoBulk d ≤ Rows.uptoBulkAll l := by
  intro l
  induction l with
  | nil => exact ⟨Nat.zero_le _, fun d hd => by cases hd⟩
  | cons x l ih =>
    have hx := bulk_pos x
    have e : Rows.uptoBulkAll (x :: l) = Rows.uptoBulk x + Rows.uptoBulkAll l := by rw [Rows.uptoBulkAll]
    rw [e]
    refine ⟨by have := ih.1; simp only [List.length_cons]; omega, fun d hd => ?_⟩
    rcases List.mem_cons.1 hd with rfl | hd
    · omega
    · have := ih.2 d hd; omega
def bulk (H : Type) : Go.IM.Bulk H := ⟨Rows.uptoBulk, fun es sp => by
  have e : Rows.uptoBulk (.slice es sp) = Rows.uptoBulkAll es + Rows.uptoBulkAll sp + 1 := by rw [Rows.uptoBulk]
  rw [e]
  refine ⟨by have := (bulk_all es).1; have := (bulk_all sp).1; omega, fun d hd => ?_⟩
  rcases hd with hd | hd
  · have := (bulk_all es).2 d hd; omega
  · have := (bulk_all sp).2 d hd; omega, fun ps d hd => by
  have e : Rows.uptoBulk (.agg ps) = Rows.uptoBulkAll ps + 1 := by rw [Rows.uptoBulk]
  rw [e]
  have := (bulk_all ps).2 d hd; omega⟩
set_option maxRecDepth 100000 in
theorem letterTurned_lifted (os : Os) (started : os.Started) (H : Type) (enc : TypeId × Value → H) (F0 : Stop.Interp) :
    ReturnsInHanded {} Try.checked os 3 .any ((Rows.OpenSpec.upto Rows.letterTurnedSpec).pre6 enc Try.prog Try.f3 Rows.letterTurnedUptoRow.domain false) (((Rows.OpenSpec.upto Rows.letterTurnedSpec).at F0).post enc Try.prog Try.f3 false true false false) :=
  Go.IM.lifted_upto (C := Try.checked) (depth := 6) (tb := 4) (L := 1048576) (s := Rows.OpenSpec.upto Rows.letterTurnedSpec) (k := Rows.uptoSmall) rfl F0 Try.own3 started (by kernel_rfl) Try.func3 Try.laidOut3 rfl rfl (fun ds h => by match ds, h with | [d0, d1, d2, d3, d4], _ => rfl)
    bulk (fun ds d hk hd => Nat.le_trans ((bulk_all ds).2 d hd) (of_decide_eq_true hk)) (by kernel_rfl) (by kernel_rfl) (by kernel_rfl)
    (OpenSpec.witness (enc := enc) (C := Try.checked) (s := Rows.OpenSpec.upto Rows.letterTurnedSpec) (k := Rows.uptoSmall) rfl false ⟨#[], #[.agg #[.int .u8 0, .int .u8 0, .int .u8 0, .int .u8 0, .bool false, .int .u64 0, .int .u64 0, .int .u32 0, .int .u32 0, .slice none 0 0, .slice none 0 0, .slice none 0 0, .slice none 0 0], .int .u16 0, .int .u8 0, .int .u16 0, .int .u8 0], []⟩ 8 (by kernel_rfl) (by kernel_rfl) (by kernel_rfl)
      (x := ([.agg [.lit (.int .u8 0), .lit (.int .u8 0), .lit (.int .u8 0), .lit (.int .u8 0), .lit (.bool false), .lit (.int .u64 0), .lit (.int .u64 0), .lit (.int .u32 0), .lit (.int .u32 0), .nil, .nil, .nil, .nil], .lit (.int .u16 0), .lit (.int .u8 0), .lit (.int .u16 0), .lit (.int .u8 0)], [], [])) (by kernel_rfl) (by kernel_rfl) (by kernel_rfl))
    Go.IM.V.law3
theorem letterTurned_holds : Rows.LetterTurnedUptoSaid :=
  OpenClaim.holds_of_cond 3 Try.f3 rfl rfl rfl rfl rfl rfl rfl ⟨rfl, rfl, rfl, rfl, rfl⟩ rfl rfl rfl rfl rfl (by kernel_rfl) Try.func3 (by kernel_rfl)
    (of_decide_eq_true (by kernel_rfl)) (by unfold Func.isWrapper; first | (rw [if_pos (by decide +kernel)]; kernel_rfl) | (rw [if_neg (by decide +kernel)]; exact ⟨rfl, rfl⟩))
    (fun os started H enc _ F0 => letterTurned_lifted os started H enc F0)
end Go.Proofs.Ytinknnimmpcddaa