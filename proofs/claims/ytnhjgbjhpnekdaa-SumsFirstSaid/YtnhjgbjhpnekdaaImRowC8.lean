/- The law anabranchlaw26.SumsFirst: whatever it is handed, it hands back true, and what it was handed reads as it did. No conditions. -/
import Derived.Test.YtnhjgbjhpnekdaaRows
import Derived.Test.YtnhjgbjhpnekdaaChecked
import Derived.Test.YtnhjgbjhpnekdaaImRowC8P1
set_option linter.unusedVariables false
namespace Go.IM.V
open Go Go.IM Go.Proofs
theorem law8 : Law Try.prog 8 Try.f8 6 := law_of (n := 8) (tys := [.l (.i .u8), .l (.i .u8)]) (by kernel_rfl) c8_ok (fun x h => sumsFirst_pure _ _ (fun x hx => ok_u8 (h.1.2 x hx)) (fun x hx => ok_u8 (h.2.1.2 x hx)))
end Go.IM.V
namespace Go.Proofs.Ytnhjgbjhpnekdaa
open Go.ChangeShapes Go.WideShapes Go.ChangeAt Go.RowKit

theorem Try.own8 : ownKnob Try.prog.godebug = none := by kernel_rfl
theorem Try.laidOut8 : laidOutB Try.prog = true := by kernel_rfl

set_option maxRecDepth 100000 in
theorem sumsFirst_lifted (os : Os) (started : os.Started) (H : Type) (enc : TypeId × Value → H) :
    ReturnsInHanded {} Try.checked os 8 .any (Rows.sumsFirstSpec.pre6 enc Try.prog Try.f8 Rows.sumsFirstRow.domain false) (Rows.sumsFirstSpec.post enc Try.prog Try.f8 false true false false) :=
  Go.IM.lifted (C := Try.checked) (depth := 6) (tb := 4) Try.own8 started (by kernel_rfl) Try.func8 Try.laidOut8 rfl (fun ds h => by match ds, h with | [d0, d1], _ => rfl) (by kernel_rfl) (by kernel_rfl) (by kernel_rfl)
    (ChangeSpec.witness6 (enc := enc) (C := Try.checked) false ⟨#[], #[.slice none 0 0, .slice none 0 0], []⟩ 8 (by kernel_rfl) (by kernel_rfl) (by kernel_rfl) (by kernel_rfl))
    Go.IM.V.law8

theorem sumsFirst_holds : Rows.SumsFirstSaid :=
  OpenClaim.holds_of_wide 8 Try.f8 rfl rfl rfl rfl rfl rfl rfl ⟨rfl, rfl, rfl, rfl, rfl⟩ rfl rfl rfl rfl rfl (by kernel_rfl) Try.func8 (by kernel_rfl)
    (of_decide_eq_true (by kernel_rfl)) (by unfold Func.isWrapper; first | (rw [if_pos (by decide +kernel)]; kernel_rfl) | (rw [if_neg (by decide +kernel)]; exact ⟨rfl, rfl⟩))
    (fun os started H enc _ => sumsFirst_lifted os started H enc)
end Go.Proofs.Ytnhjgbjhpnekdaa
