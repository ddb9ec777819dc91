/- The law anabranchlaw20.IdealInstalls: whatever it is handed, it hands back true, and what it was handed reads as it did. No conditions. -/
import Derived.Test.YtoaapepelbbmhaaRows
import Derived.Test.YtoaapepelbbmhaaChecked
import Derived.Test.YtoaapepelbbmhaaImRowG5P1
set_option linter.unusedVariables false
namespace Go.IM.V
open Go Go.IM Go.Proofs
theorem law5 : Law Try.prog 5 Try.f5 6 := law_of (n := 8) (tys := [.i .u8, .i .u8, .i .u64]) (by kernel_rfl) c5_ok (fun x h => installs_pure _ _ _ (ok_u8 h.1) (ok_u8 h.2.1) (ok_u64 h.2.2.1))
end Go.IM.V
namespace Go.Proofs.Ytoaapepelbbmhaa
open Go.ChangeShapes Go.WideShapes Go.ChangeAt Go.RowKit
theorem Try.own5 : ownKnob Try.prog.godebug = none := by kernel_rfl
theorem Try.laidOut5 : laidOutB Try.prog = true := by kernel_rfl
set_option maxRecDepth 100000 in
theorem idealInstalls_lifted (os : Os) (started : os.Started) (H : Type) (enc : TypeId × Value → H) :
    ReturnsInHanded {} Try.checked os 5 .any (Rows.idealInstallsSpec.pre6 enc Try.prog Try.f5 Rows.idealInstallsRow.domain false) (Rows.idealInstallsSpec.post enc Try.prog Try.f5 false true false false) :=
  Go.IM.lifted (C := Try.checked) (orc := (inferInstance : Go.IM.Orc Try.prog)) (depth := 6) (tb := 4) Try.own5 started (by kernel_rfl) Try.func5 Try.laidOut5 rfl (fun ds h => by match ds, h with | [d0, d1, d2], _ => rfl) (by kernel_rfl) (by kernel_rfl) (by kernel_rfl)
    (ChangeSpec.witness6 (enc := enc) (C := Try.checked) false ⟨#[], #[.int .u8 0, .int .u8 0, .int .u64 0], []⟩ 8 (by kernel_rfl) (by kernel_rfl) (by kernel_rfl) (by kernel_rfl))
    Go.IM.V.law5
theorem idealInstalls_holds : Rows.IdealInstallsSaid :=
  OpenClaim.holds_of_wide 5 Try.f5 rfl rfl rfl rfl rfl rfl rfl ⟨rfl, rfl, rfl, rfl, rfl⟩ rfl rfl rfl rfl rfl (by kernel_rfl) Try.func5 (by kernel_rfl)
    (of_decide_eq_true (by kernel_rfl)) (by unfold Func.isWrapper; first | (rw [if_pos (by decide +kernel)]; kernel_rfl) | (rw [if_neg (by decide +kernel)]; exact ⟨rfl, rfl⟩))
    (fun os started H enc _ => idealInstalls_lifted os started H enc)
end Go.Proofs.Ytoaapepelbbmhaa