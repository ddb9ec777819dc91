/- The law anabranchlaw20.IdealFalls: whatever it is handed, it hands back true, and what it was handed reads as it did. No conditions. -/
import Derived.Test.YtoaapepelbbmhaaRows
import Derived.Test.YtoaapepelbbmhaaChecked
import Derived.Test.YtoaapepelbbmhaaImRowG6P2
set_option linter.unusedVariables false
namespace Go.IM.V
open Go Go.IM Go.Proofs
theorem law6 : Law Try.prog 6 Try.f6 6 := law_of (n := 8) (tys := [.i .u8, .i .u8, .i .u8, .b]) (by kernel_rfl) c6_ok (fun x h => falls_pure _ _ _ _ (ok_u8 h.1) (ok_u8 h.2.1) (ok_u8 h.2.2.1))
end Go.IM.V
namespace Go.Proofs.Ytoaapepelbbmhaa
open Go.ChangeShapes Go.WideShapes Go.ChangeAt Go.RowKit
theorem Try.own6 : ownKnob Try.prog.godebug = none := by kernel_rfl
theorem Try.laidOut6 : laidOutB Try.prog = true := by kernel_rfl
set_option maxRecDepth 100000 in
theorem idealFalls_lifted (os : Os) (started : os.Started) (H : Type) (enc : TypeId × Value → H) :
    ReturnsInHanded {} Try.checked os 6 .any (Rows.idealFallsSpec.pre6 enc Try.prog Try.f6 Rows.idealFallsRow.domain false) (Rows.idealFallsSpec.post enc Try.prog Try.f6 false true false false) :=
  Go.IM.lifted (C := Try.checked) (orc := (inferInstance : Go.IM.Orc Try.prog)) (depth := 6) (tb := 4) Try.own6 started (by kernel_rfl) Try.func6 Try.laidOut6 rfl (fun ds h => by match ds, h with | [d0, d1, d2, d3], _ => rfl) (by kernel_rfl) (by kernel_rfl) (by kernel_rfl)
    (ChangeSpec.witness6 (enc := enc) (C := Try.checked) false ⟨#[], #[.int .u8 0, .int .u8 0, .int .u8 0, .bool false], []⟩ 8 (by kernel_rfl) (by kernel_rfl) (by kernel_rfl) (by kernel_rfl))
    Go.IM.V.law6
theorem idealFalls_holds : Rows.IdealFallsSaid :=
  OpenClaim.holds_of_wide 6 Try.f6 rfl rfl rfl rfl rfl rfl rfl ⟨rfl, rfl, rfl, rfl, rfl⟩ rfl rfl rfl rfl rfl (by kernel_rfl) Try.func6 (by kernel_rfl)
    (of_decide_eq_true (by kernel_rfl)) (by unfold Func.isWrapper; first | (rw [if_pos (by decide +kernel)]; kernel_rfl) | (rw [if_neg (by decide +kernel)]; exact ⟨rfl, rfl⟩))
    (fun os started H enc _ => idealFalls_lifted os started H enc)
end Go.Proofs.Ytoaapepelbbmhaa