/- The law anabranchlaw20.IdealTries: whatever it is handed, it hands back true, and what it was handed reads as it did. No conditions. -/
import Derived.Test.YtoaapepelbbmhaaRows
import Derived.Test.YtoaapepelbbmhaaChecked
import Derived.Test.YtoaapepelbbmhaaImRowG4P1
set_option linter.unusedVariables false
namespace Go.IM.V
open Go Go.IM Go.Proofs
theorem law4 : Law Try.prog 4 Try.f4 6 := law_of (n := 8) (tys := [.i .u8, .b]) (by kernel_rfl) c4_ok (fun x h => tries_pure _ _ (ok_u8 h.1).1 (ok_u8 h.1).2)
end Go.IM.V
namespace Go.Proofs.Ytoaapepelbbmhaa
open Go.ChangeShapes Go.WideShapes Go.ChangeAt Go.RowKit
theorem Try.own4 : ownKnob Try.prog.godebug = none := by kernel_rfl
theorem Try.laidOut4 : laidOutB Try.prog = true := by kernel_rfl
set_option maxRecDepth 100000 in
theorem idealTries_lifted (os : Os) (started : os.Started) (H : Type) (enc : TypeId × Value → H) :
    ReturnsInHanded {} Try.checked os 4 .any (Rows.idealTriesSpec.pre6 enc Try.prog Try.f4 Rows.idealTriesRow.domain false) (Rows.idealTriesSpec.post enc Try.prog Try.f4 false true false false) :=
  Go.IM.lifted (C := Try.checked) (orc := (inferInstance : Go.IM.Orc Try.prog)) (depth := 6) (tb := 4) Try.own4 started (by kernel_rfl) Try.func4 Try.laidOut4 rfl (fun ds h => by match ds, h with | [d0, d1], _ => rfl) (by kernel_rfl) (by kernel_rfl) (by kernel_rfl)
    (ChangeSpec.witness6 (enc := enc) (C := Try.checked) false ⟨#[], #[.int .u8 0, .bool false], []⟩ 8 (by kernel_rfl) (by kernel_rfl) (by kernel_rfl) (by kernel_rfl))
    Go.IM.V.law4
theorem idealTries_holds : Rows.IdealTriesSaid :=
  OpenClaim.holds_of_wide 4 Try.f4 rfl rfl rfl rfl rfl rfl rfl ⟨rfl, rfl, rfl, rfl, rfl⟩ rfl rfl rfl rfl rfl (by kernel_rfl) Try.func4 (by kernel_rfl)
    (of_decide_eq_true (by kernel_rfl)) (by unfold Func.isWrapper; first | (rw [if_pos (by decide +kernel)]; kernel_rfl) | (rw [if_neg (by decide +kernel)]; exact ⟨rfl, rfl⟩))
    (fun os started H enc _ => idealTries_lifted os started H enc)
end Go.Proofs.Ytoaapepelbbmhaa