/- The law anabranchlaw07.VectorLacks: whatever it is handed, it hands back true, and what it was handed reads as it did. No conditions. -/
import Derived.Test.YtjoedmfdfbgfeaaRows
import Derived.Test.YtjoedmfdfbgfeaaChecked
import Derived.Test.YtjoedmfdfbgfeaaImRowB3P1
set_option linter.unusedVariables false
namespace Go.IM.V
open Go Go.IM Go.Proofs
theorem law3 : Law Try.prog 3 Try.f3 6 := law_of (n := 8) (tys := [.l (.i .u64), .l (.i .u64)]) (by kernel_rfl) c3_ok (fun x h => lacks_pure _ _ h.1 h.2.1)
end Go.IM.V
namespace Go.Proofs.Ytjoedmfdfbgfeaa
open Go.ChangeShapes Go.WideShapes Go.ChangeAt Go.RowKit

theorem Try.own3 : ownKnob Try.prog.godebug = none := by kernel_rfl
theorem Try.laidOut3 : laidOutB Try.prog = true := by kernel_rfl

set_option maxRecDepth 100000 in
theorem vectorLacks_lifted (os : Os) (started : os.Started) (H : Type) (enc : TypeId × Value → H) :
    ReturnsInHanded {} Try.checked os 3 .any (Rows.vectorLacksSpec.pre6 enc Try.prog Try.f3 Rows.vectorLacksRow.domain false) (Rows.vectorLacksSpec.post enc Try.prog Try.f3 false true false false) :=
  Go.IM.lifted (C := Try.checked) (depth := 6) (tb := 4) Try.own3 started (by kernel_rfl) Try.func3 Try.laidOut3 rfl (fun ds h => by match ds, h with | [d0, d1], _ => rfl) (by kernel_rfl) (by kernel_rfl) (by kernel_rfl)
    (ChangeSpec.witness6 (enc := enc) (C := Try.checked) false ⟨#[], #[.slice none 0 0, .slice none 0 0], []⟩ 8 (by kernel_rfl) (by kernel_rfl) (by kernel_rfl) (by kernel_rfl))
    Go.IM.V.law3

theorem vectorLacks_holds : Rows.VectorLacksSaid :=
  OpenClaim.holds_of_wide 3 Try.f3 rfl rfl rfl rfl rfl rfl rfl ⟨rfl, rfl, rfl, rfl, rfl⟩ rfl rfl rfl rfl rfl (by kernel_rfl) Try.func3 (by kernel_rfl)
    (of_decide_eq_true (by kernel_rfl)) (by unfold Func.isWrapper; first | (rw [if_pos (by decide +kernel)]; kernel_rfl) | (rw [if_neg (by decide +kernel)]; exact ⟨rfl, rfl⟩))
    (fun os started H enc _ => vectorLacks_lifted os started H enc)
end Go.Proofs.Ytjoedmfdfbgfeaa
