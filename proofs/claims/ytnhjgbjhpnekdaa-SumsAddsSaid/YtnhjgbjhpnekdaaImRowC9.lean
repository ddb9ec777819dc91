/- The law anabranchlaw26.SumsAdds: whatever it is handed, it hands back true, and what it was handed reads as it did. No conditions. -/
import Derived.Test.YtnhjgbjhpnekdaaRows
import Derived.Test.YtnhjgbjhpnekdaaChecked
import Derived.Test.YtnhjgbjhpnekdaaImRowC9P1
set_option linter.unusedVariables false
namespace Go.IM.V
open Go Go.IM Go.Proofs
theorem law9 : Law Try.prog 9 Try.f9 6 := law_of (n := 8) (tys := [.l (.i .u8), .i .u8, .i .u64, .p (.i .i64) (.p (.i .u64) (.p (.i .u64) (.p (.i .u8) (.p .s (.p (.l (.i .u8)) (.p (.f .f64) (.p (.i .i64) .u)))))))]) (by kernel_rfl) c9_ok (fun x h => sumsAdds_pure _ _ _ _ (ok_u8 h.2.1) (ok_u64 h.2.2.1))
end Go.IM.V
namespace Go.Proofs.Ytnhjgbjhpnekdaa
open Go.ChangeShapes Go.WideShapes Go.ChangeAt Go.RowKit

theorem Try.own9 : ownKnob Try.prog.godebug = none := by kernel_rfl
theorem Try.laidOut9 : laidOutB Try.prog = true := by kernel_rfl

set_option maxRecDepth 100000 in
theorem sumsAdds_lifted (os : Os) (started : os.Started) (H : Type) (enc : TypeId × Value → H) :
    ReturnsInHanded {} Try.checked os 9 .any (Rows.sumsAddsSpec.pre6 enc Try.prog Try.f9 Rows.sumsAddsRow.domain false) (Rows.sumsAddsSpec.post enc Try.prog Try.f9 false true false false) :=
  Go.IM.lifted (C := Try.checked) (depth := 6) (tb := 4) Try.own9 started (by kernel_rfl) Try.func9 Try.laidOut9 rfl (fun ds h => by match ds, h with | [d0, d1, d2, d3], _ => rfl) (by kernel_rfl) (by kernel_rfl) (by kernel_rfl)
    (ChangeSpec.witness6 (enc := enc) (C := Try.checked) false ⟨#[], #[.slice none 0 0, .int .u8 0, .int .u64 0, .agg #[.int .i64 0, .int .u64 0, .int .u64 0, .int .u8 0, .string ByteArray.empty, .slice none 0 0, .float .f64 0, .int .i64 0]], []⟩ 8 (by kernel_rfl) (by kernel_rfl) (by kernel_rfl) (by kernel_rfl))
    Go.IM.V.law9

theorem sumsAdds_holds : Rows.SumsAddsSaid :=
  OpenClaim.holds_of_wide 9 Try.f9 rfl rfl rfl rfl rfl rfl rfl ⟨rfl, rfl, rfl, rfl, rfl⟩ rfl rfl rfl rfl rfl (by kernel_rfl) Try.func9 (by kernel_rfl)
    (of_decide_eq_true (by kernel_rfl)) (by unfold Func.isWrapper; first | (rw [if_pos (by decide +kernel)]; kernel_rfl) | (rw [if_neg (by decide +kernel)]; exact ⟨rfl, rfl⟩))
    (fun os started H enc _ => sumsAdds_lifted os started H enc)
end Go.Proofs.Ytnhjgbjhpnekdaa
