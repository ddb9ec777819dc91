/- The law anabranchlaw25.HistorySame: whatever it is handed, it hands back true, and what it was handed reads as it did. No conditions. -/
import Derived.Test.YtodkdfaempcjgaaRows
import Derived.Test.YtodkdfaempcjgaaChecked
import Derived.Test.YtodkdfaempcjgaaImRowF7P1
set_option linter.unusedVariables false
namespace Go.IM.V
open Go Go.IM Go.Proofs
theorem law7 : Law Try.prog 7 Try.f7 6 := law_of (n := 8) (tys := [.p (.i .u8) (.p (.l (.i .u8)) (.p (.f .f64) .u)), .p (.i .u8) (.p (.l (.i .u8)) (.p (.f .f64) .u)), .s, .p (.i .u64) (.p (.i .i64) .u)]) (by kernel_rfl) c7_ok (fun x h => historySame_pure _ _ _ _)
end Go.IM.V
namespace Go.Proofs.Ytodkdfaempcjgaa
open Go.ChangeShapes Go.WideShapes Go.ChangeAt Go.RowKit
theorem Try.own7 : ownKnob Try.prog.godebug = none := by kernel_rfl
theorem Try.laidOut7 : laidOutB Try.prog = true := by kernel_rfl
set_option maxRecDepth 100000 in
theorem historySame_lifted (os : Os) (started : os.Started) (H : Type) (enc : TypeId × Value → H) :
    ReturnsInHanded {} Try.checked os 7 .any (Rows.historySameSpec.pre6 enc Try.prog Try.f7 Rows.historySameRow.domain false) (Rows.historySameSpec.post enc Try.prog Try.f7 false true false false) :=
  Go.IM.lifted (C := Try.checked) (orc := (inferInstance : Go.IM.Orc Try.prog)) (depth := 6) (tb := 4) Try.own7 started (by kernel_rfl) Try.func7 Try.laidOut7 rfl (fun ds h => by match ds, h with | [d0, d1, d2, d3], _ => rfl) (by kernel_rfl) (by kernel_rfl) (by kernel_rfl)
    (ChangeSpec.witness6 (enc := enc) (C := Try.checked) false ⟨#[], #[.agg #[.int .u8 0, .slice none 0 0, .float .f64 0], .agg #[.int .u8 0, .slice none 0 0, .float .f64 0], .string ByteArray.empty, .agg #[.int .u64 0, .int .i64 0]], []⟩ 8 (by kernel_rfl) (by kernel_rfl) (by kernel_rfl) (by kernel_rfl))
    Go.IM.V.law7
theorem historySame_holds : Rows.HistorySameSaid :=
  OpenClaim.holds_of_wide 7 Try.f7 rfl rfl rfl rfl rfl rfl rfl ⟨rfl, rfl, rfl, rfl, rfl⟩ rfl rfl rfl rfl rfl (by kernel_rfl) Try.func7 (by kernel_rfl)
    (of_decide_eq_true (by kernel_rfl)) (by unfold Func.isWrapper; first | (rw [if_pos (by decide +kernel)]; kernel_rfl) | (rw [if_neg (by decide +kernel)]; exact ⟨rfl, rfl⟩))
    (fun os started H enc _ => historySame_lifted os started H enc)
end Go.Proofs.Ytodkdfaempcjgaa