/- The law anabranchlaw12.OrderRights: whatever it is handed, it hands back true, and what it was handed reads as it did. No conditions. -/
import Derived.Test.YtnbacinpmfjpnaaRows
import Derived.Test.YtnbacinpmfjpnaaChecked
import Derived.Test.YtnbacinpmfjpnaaImRowD5P2
set_option linter.unusedVariables false
namespace Go.IM.V
open Go Go.IM Go.Proofs
theorem law5 : Law Try.prog 5 Try.f5 6 := law_of (n := 8) (tys := [.l (.p (.i .i64) (.p (.i .u64) (.p (.i .u64) (.p (.i .u8) (.p .s (.p (.l (.i .u8)) (.p (.f .f64) (.p (.i .i64) .u)))))))), .p (.i .u64) (.p (.i .i64) .u)]) (by kernel_rfl) c5_ok (fun x h => orderRights_pure _ _)
end Go.IM.V
namespace Go.Proofs.Ytnbacinpmfjpnaa
open Go.ChangeShapes Go.WideShapes Go.ChangeAt Go.RowKit
theorem Try.own5 : ownKnob Try.prog.godebug = none := by kernel_rfl
theorem Try.laidOut5 : laidOutB Try.prog = true := by kernel_rfl
set_option maxRecDepth 100000 in
theorem orderRights_lifted (os : Os) (started : os.Started) (H : Type) (enc : TypeId × Value → H) :
    ReturnsInHanded {} Try.checked os 5 .any (Rows.orderRightsSpec.pre6 enc Try.prog Try.f5 Rows.orderRightsRow.domain false) (Rows.orderRightsSpec.post enc Try.prog Try.f5 false true false false) :=
  Go.IM.lifted (C := Try.checked) (depth := 6) (tb := 4) Try.own5 started (by kernel_rfl) Try.func5 Try.laidOut5 rfl (fun ds h => by match ds, h with | [d0, d1], _ => rfl) (by kernel_rfl) (by kernel_rfl) (by kernel_rfl)
    (ChangeSpec.witness6 (enc := enc) (C := Try.checked) false ⟨#[], #[.slice none 0 0, .agg #[.int .u64 0, .int .i64 0]], []⟩ 8 (by kernel_rfl) (by kernel_rfl) (by kernel_rfl) (by kernel_rfl))
    Go.IM.V.law5
theorem orderRights_holds : Rows.OrderRightsSaid :=
  OpenClaim.holds_of_wide 5 Try.f5 rfl rfl rfl rfl rfl rfl rfl ⟨rfl, rfl, rfl, rfl, rfl⟩ rfl rfl rfl rfl rfl (by kernel_rfl) Try.func5 (by kernel_rfl)
    (of_decide_eq_true (by kernel_rfl)) (by unfold Func.isWrapper; first | (rw [if_pos (by decide +kernel)]; kernel_rfl) | (rw [if_neg (by decide +kernel)]; exact ⟨rfl, rfl⟩))
    (fun os started H enc _ => orderRights_lifted os started H enc)
end Go.Proofs.Ytnbacinpmfjpnaa