/- The law anabranchlaw04.DiskFalls: whatever it is handed, it hands back true, and what it was handed reads as it did. No conditions. -/
import Derived.Test.YtnhjgbjhpnekdaaRows
import Derived.Test.YtnhjgbjhpnekdaaChecked
import Derived.Test.YtnhjgbjhpnekdaaImRowC5P1
set_option linter.unusedVariables false
namespace Go.IM.V
open Go Go.IM Go.Proofs
theorem law5 : Law Try.prog 5 Try.f5 6 := law_of (n := 8) (tys := [.l (.i .u8), .l (.i .u8), .i .i64, .i .i64]) (by kernel_rfl) c5_ok (fun x h => diskFalls_pure _ _ _ _)
end Go.IM.V
namespace Go.Proofs.Ytnhjgbjhpnekdaa
open Go.ChangeShapes Go.WideShapes Go.ChangeAt Go.RowKit
theorem Try.own5 : ownKnob Try.prog.godebug = none := by kernel_rfl
theorem Try.laidOut5 : laidOutB Try.prog = true := by kernel_rfl
set_option maxRecDepth 100000 in
theorem diskFalls_lifted (os : Os) (started : os.Started) (H : Type) (enc : TypeId × Value → H) :
    ReturnsInHanded {} Try.checked os 5 .any (Rows.diskFallsSpec.pre6 enc Try.prog Try.f5 Rows.diskFallsRow.domain false) (Rows.diskFallsSpec.post enc Try.prog Try.f5 false true false false) :=
  Go.IM.lifted (C := Try.checked) (orc := (inferInstance : Go.IM.Orc Try.prog)) (depth := 6) (tb := 4) Try.own5 started (by kernel_rfl) Try.func5 Try.laidOut5 rfl (fun ds h => by match ds, h with | [d0, d1, d2, d3], _ => rfl) (by kernel_rfl) (by kernel_rfl) (by kernel_rfl)
    (ChangeSpec.witness6 (enc := enc) (C := Try.checked) false ⟨#[], #[.slice none 0 0, .slice none 0 0, .int .i64 0, .int .i64 0], []⟩ 8 (by kernel_rfl) (by kernel_rfl) (by kernel_rfl) (by kernel_rfl))
    Go.IM.V.law5
theorem diskFalls_holds : Rows.DiskFallsSaid :=
  OpenClaim.holds_of_wide 5 Try.f5 rfl rfl rfl rfl rfl rfl rfl ⟨rfl, rfl, rfl, rfl, rfl⟩ rfl rfl rfl rfl rfl (by kernel_rfl) Try.func5 (by kernel_rfl)
    (of_decide_eq_true (by kernel_rfl)) (by unfold Func.isWrapper; first | (rw [if_pos (by decide +kernel)]; kernel_rfl) | (rw [if_neg (by decide +kernel)]; exact ⟨rfl, rfl⟩))
    (fun os started H enc _ => diskFalls_lifted os started H enc)
end Go.Proofs.Ytnhjgbjhpnekdaa