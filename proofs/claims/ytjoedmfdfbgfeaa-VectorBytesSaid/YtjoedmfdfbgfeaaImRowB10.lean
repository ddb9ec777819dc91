/- The law anabranchlaw07.VectorBytes: whatever it is handed, it hands back true, and what it was handed reads as it did. No conditions. -/
import Derived.Test.YtjoedmfdfbgfeaaRows
import Derived.Test.YtjoedmfdfbgfeaaChecked
import Derived.Test.YtjoedmfdfbgfeaaImRowB10P2
set_option linter.unusedVariables false
namespace Go.IM.V
open Go Go.IM Go.Proofs
theorem law10 : Law Try.prog 10 Try.f10 6 := law_of (n := 8) (tys := [.l (.i .u64), .l (.i .u8)]) (by kernel_rfl) c10_ok (fun x h => bytes_pure _ _ h.1 h.2.1)
end Go.IM.V
namespace Go.Proofs.Ytjoedmfdfbgfeaa
open Go.ChangeShapes Go.WideShapes Go.ChangeAt Go.RowKit

theorem Try.own10 : ownKnob Try.prog.godebug = none := by kernel_rfl
theorem Try.laidOut10 : laidOutB Try.prog = true := by kernel_rfl

set_option maxRecDepth 100000 in
theorem vectorBytes_lifted (os : Os) (started : os.Started) (H : Type) (enc : TypeId × Value → H) :
    ReturnsInHanded {} Try.checked os 10 .any (Rows.vectorBytesSpec.pre6 enc Try.prog Try.f10 Rows.vectorBytesRow.domain false) (Rows.vectorBytesSpec.post enc Try.prog Try.f10 false true false false) :=
  Go.IM.lifted (C := Try.checked) (depth := 6) (tb := 4) Try.own10 started (by kernel_rfl) Try.func10 Try.laidOut10 rfl (fun ds h => by match ds, h with | [d0, d1], _ => rfl) (by kernel_rfl) (by kernel_rfl) (by kernel_rfl)
    (ChangeSpec.witness6 (enc := enc) (C := Try.checked) false ⟨#[], #[.slice none 0 0, .slice none 0 0], []⟩ 8 (by kernel_rfl) (by kernel_rfl) (by kernel_rfl) (by kernel_rfl))
    Go.IM.V.law10

theorem vectorBytes_holds : Rows.VectorBytesSaid :=
  OpenClaim.holds_of_wide 10 Try.f10 rfl rfl rfl rfl rfl rfl rfl ⟨rfl, rfl, rfl, rfl, rfl⟩ rfl rfl rfl rfl rfl (by kernel_rfl) Try.func10 (by kernel_rfl)
    (of_decide_eq_true (by kernel_rfl)) (by unfold Func.isWrapper; first | (rw [if_pos (by decide +kernel)]; kernel_rfl) | (rw [if_neg (by decide +kernel)]; exact ⟨rfl, rfl⟩))
    (fun os started H enc _ => vectorBytes_lifted os started H enc)
end Go.Proofs.Ytjoedmfdfbgfeaa
