/- The law anabranchlaw02.DigitsFixed: whatever it is handed, it hands back true, and what it was handed reads as it did. No conditions. -/
import Derived.Test.YtoejiaciaafbmaaImQ7
namespace Go.Proofs.Ytoejiaciaafbmaa
open Go.ChangeShapes Go.WideShapes Go.ChangeAt Go.RowKit

theorem Try.own : ownKnob Try.prog.godebug = none := by kernel_rfl
theorem Try.laidOut : laidOutB Try.prog = true := by kernel_rfl

set_option maxRecDepth 100000 in
theorem digitsFixed_lifted (os : Os) (started : os.Started) (H : Type) (enc : TypeId × Value → H) :
    ReturnsInHanded {} Try.checked os 4 .any (Rows.digitsFixedSpec.pre6 enc Try.prog Try.f4 Rows.digitsFixedRow.domain false) (Rows.digitsFixedSpec.post enc Try.prog Try.f4 false true false false) :=
  Go.IM.lifted (C := Try.checked) (depth := 4) (tb := 4) Try.own started (by kernel_rfl) Try.func4 Try.laidOut rfl (fun ds h => by match ds, h with | [d, d2], _ => rfl) (by kernel_rfl) (by kernel_rfl) (by kernel_rfl)
    (ChangeSpec.witness6 (enc := enc) (C := Try.checked) false ⟨#[], #[.slice none 0 0, .int .u64 0], []⟩ 8 (by kernel_rfl) (by kernel_rfl) (by kernel_rfl) (by kernel_rfl))
    Go.IM.law4

theorem digitsFixed_holds : Rows.DigitsFixedSaid :=
  OpenClaim.holds_of_wide 4 Try.f4 rfl rfl rfl rfl rfl rfl rfl ⟨rfl, rfl, rfl, rfl, rfl⟩ rfl rfl rfl rfl rfl (by kernel_rfl) Try.func4 (by kernel_rfl)
    (of_decide_eq_true (by kernel_rfl)) (by unfold Func.isWrapper; first | (rw [if_pos (by decide +kernel)]; kernel_rfl) | (rw [if_neg (by decide +kernel)]; exact ⟨rfl, rfl⟩))
    (fun os started H enc _ => digitsFixed_lifted os started H enc)
end Go.Proofs.Ytoejiaciaafbmaa
