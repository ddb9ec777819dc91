/- The law anabranchlaw13.MatrixRises: whatever it is handed, it hands back true, and what it was handed reads as it did. No conditions. -/
import Derived.Test.YtnhjgbjhpnekdaaRows
import Derived.Test.YtnhjgbjhpnekdaaChecked
import Derived.Test.YtnhjgbjhpnekdaaImRowC3P1
set_option linter.unusedVariables false
namespace Go.IM.V
open Go Go.IM Go.Proofs
theorem law3 : Law Try.prog 3 Try.f3 6 := law_of (n := 8) (tys := [.l (.i .u16), .l (.p (.i .i64) (.p (.l (.i .u64)) (.p (.i .u64) .u))), .p (.i .i64) (.p (.l (.i .u64)) (.p (.i .u64) .u))]) (by kernel_rfl) c3_ok (fun x h => matrixRises_pure _ _ _ (fun x hx => ok_u16 (h.1.2 x hx)) (fun r hr => ⟨fun x hx => ok_u64 ((h.2.1.2 r hr).2.1.2 x hx), ok_u64 (h.2.1.2 r hr).2.2.1⟩) ⟨fun x hx => ok_u64 (h.2.2.1.2.1.2 x hx), ok_u64 h.2.2.1.2.2.1⟩)
end Go.IM.V
namespace Go.Proofs.Ytnhjgbjhpnekdaa
open Go.ChangeShapes Go.WideShapes Go.ChangeAt Go.RowKit

theorem Try.own3 : ownKnob Try.prog.godebug = none := by kernel_rfl
theorem Try.laidOut3 : laidOutB Try.prog = true := by kernel_rfl

set_option maxRecDepth 100000 in
theorem matrixRises_lifted (os : Os) (started : os.Started) (H : Type) (enc : TypeId × Value → H) :
    ReturnsInHanded {} Try.checked os 3 .any (Rows.matrixRisesSpec.pre6 enc Try.prog Try.f3 Rows.matrixRisesRow.domain false) (Rows.matrixRisesSpec.post enc Try.prog Try.f3 false true false false) :=
  Go.IM.lifted (C := Try.checked) (depth := 6) (tb := 4) Try.own3 started (by kernel_rfl) Try.func3 Try.laidOut3 rfl (fun ds h => by match ds, h with | [d0, d1, d2], _ => rfl) (by kernel_rfl) (by kernel_rfl) (by kernel_rfl)
    (ChangeSpec.witness6 (enc := enc) (C := Try.checked) false ⟨#[], #[.slice none 0 0, .slice none 0 0, .agg #[.int .i64 0, .slice none 0 0, .int .u64 0]], []⟩ 8 (by kernel_rfl) (by kernel_rfl) (by kernel_rfl) (by kernel_rfl))
    Go.IM.V.law3

theorem matrixRises_holds : Rows.MatrixRisesSaid :=
  OpenClaim.holds_of_wide 3 Try.f3 rfl rfl rfl rfl rfl rfl rfl ⟨rfl, rfl, rfl, rfl, rfl⟩ rfl rfl rfl rfl rfl (by kernel_rfl) Try.func3 (by kernel_rfl)
    (of_decide_eq_true (by kernel_rfl)) (by unfold Func.isWrapper; first | (rw [if_pos (by decide +kernel)]; kernel_rfl) | (rw [if_neg (by decide +kernel)]; exact ⟨rfl, rfl⟩))
    (fun os started H enc _ => matrixRises_lifted os started H enc)
end Go.Proofs.Ytnhjgbjhpnekdaa
