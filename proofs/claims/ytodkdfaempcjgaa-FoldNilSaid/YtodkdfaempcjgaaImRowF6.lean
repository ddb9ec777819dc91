/- The law anabranchlaw11.FoldNil: whatever it is handed, it hands back true, and what it was handed reads as it did. No conditions. -/
import Derived.Test.YtodkdfaempcjgaaRows
import Derived.Test.YtodkdfaempcjgaaChecked
import Derived.Test.YtodkdfaempcjgaaImRowF6P1
set_option linter.unusedVariables false
namespace Go.IM.V
open Go Go.IM Go.Proofs
theorem law6 : Law Try.prog 6 Try.f6 6 := law_of (n := 8) (tys := [.p (.i .i64) (.p (.i .u64) (.p (.i .u64) (.p (.i .u8) (.p .s (.p (.l (.i .u8)) (.p (.f .f64) (.p (.i .i64) .u))))))), .s, .i .i64]) (by kernel_rfl) c6_ok (fun x h => foldNil_pure _ _ _)
end Go.IM.V
namespace Go.Proofs.Ytodkdfaempcjgaa
open Go.ChangeShapes Go.WideShapes Go.ChangeAt Go.RowKit
theorem Try.own6 : ownKnob Try.prog.godebug = none := by kernel_rfl
theorem Try.laidOut6 : laidOutB Try.prog = true := by kernel_rfl
set_option maxRecDepth 100000 in
theorem foldNil_lifted (os : Os) (started : os.Started) (H : Type) (enc : TypeId × Value → H) :
    ReturnsInHanded {} Try.checked os 6 .any (Rows.foldNilSpec.pre6 enc Try.prog Try.f6 Rows.foldNilRow.domain false) (Rows.foldNilSpec.post enc Try.prog Try.f6 false true false false) :=
  Go.IM.lifted (C := Try.checked) (orc := (inferInstance : Go.IM.Orc Try.prog)) (depth := 6) (tb := 4) Try.own6 started (by kernel_rfl) Try.func6 Try.laidOut6 rfl (fun ds h => by match ds, h with | [d0, d1, d2], _ => rfl) (by kernel_rfl) (by kernel_rfl) (by kernel_rfl)
    (ChangeSpec.witness6 (enc := enc) (C := Try.checked) false ⟨#[], #[.agg #[.int .i64 0, .int .u64 0, .int .u64 0, .int .u8 0, .string ByteArray.empty, .slice none 0 0, .float .f64 0, .int .i64 0], .string ByteArray.empty, .int .i64 0], []⟩ 8 (by kernel_rfl) (by kernel_rfl) (by kernel_rfl) (by kernel_rfl))
    Go.IM.V.law6
theorem foldNil_holds : Rows.FoldNilSaid :=
  OpenClaim.holds_of_wide 6 Try.f6 rfl rfl rfl rfl rfl rfl rfl ⟨rfl, rfl, rfl, rfl, rfl⟩ rfl rfl rfl rfl rfl (by kernel_rfl) Try.func6 (by kernel_rfl)
    (of_decide_eq_true (by kernel_rfl)) (by unfold Func.isWrapper; first | (rw [if_pos (by decide +kernel)]; kernel_rfl) | (rw [if_neg (by decide +kernel)]; exact ⟨rfl, rfl⟩))
    (fun os started H enc _ => foldNil_lifted os started H enc)
end Go.Proofs.Ytodkdfaempcjgaa