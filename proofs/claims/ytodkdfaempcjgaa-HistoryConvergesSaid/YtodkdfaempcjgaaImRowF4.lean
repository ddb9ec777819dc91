/- The law anabranchlaw25.HistoryConverges: whatever it is handed, it hands back true, and what it was handed reads as it did. No conditions. -/
import Derived.Test.YtodkdfaempcjgaaRows
import Derived.Test.YtodkdfaempcjgaaChecked
import Derived.Test.YtodkdfaempcjgaaImRowF4P2
set_option linter.unusedVariables false
namespace Go.IM.V
open Go Go.IM Go.Proofs
theorem law4 : Law Try.prog 4 Try.f4 6 := law_of (n := 8) (tys := [.l (.i .u16), .i .u8, .i .u8, .i .u8]) (by kernel_rfl) c4_ok (fun x h => historyConverges_pure _ (fun x hx => ok_u16 (h.1.2 x hx)) _ _ _ (ok_u8 h.2.1).1 (ok_u8 h.2.1).2 (ok_u8 h.2.2.1).1 (ok_u8 h.2.2.1).2 (ok_u8 h.2.2.2.1).1 (ok_u8 h.2.2.2.1).2)
end Go.IM.V
namespace Go.Proofs.Ytodkdfaempcjgaa
open Go.ChangeShapes Go.WideShapes Go.ChangeAt Go.RowKit
theorem Try.own4 : ownKnob Try.prog.godebug = none := by kernel_rfl
theorem Try.laidOut4 : laidOutB Try.prog = true := by kernel_rfl
set_option maxRecDepth 100000 in
theorem historyConverges_lifted (os : Os) (started : os.Started) (H : Type) (enc : TypeId × Value → H) :
    ReturnsInHanded {} Try.checked os 4 .any (Rows.historyConvergesSpec.pre6 enc Try.prog Try.f4 Rows.historyConvergesRow.domain false) (Rows.historyConvergesSpec.post enc Try.prog Try.f4 false true false false) :=
  Go.IM.lifted (C := Try.checked) (orc := (inferInstance : Go.IM.Orc Try.prog)) (depth := 6) (tb := 4) Try.own4 started (by kernel_rfl) Try.func4 Try.laidOut4 rfl (fun ds h => by match ds, h with | [d0, d1, d2, d3], _ => rfl) (by kernel_rfl) (by kernel_rfl) (by kernel_rfl)
    (ChangeSpec.witness6 (enc := enc) (C := Try.checked) false ⟨#[], #[.slice none 0 0, .int .u8 0, .int .u8 0, .int .u8 0], []⟩ 8 (by kernel_rfl) (by kernel_rfl) (by kernel_rfl) (by kernel_rfl))
    Go.IM.V.law4
theorem historyConverges_holds : Rows.HistoryConvergesSaid :=
  OpenClaim.holds_of_wide 4 Try.f4 rfl rfl rfl rfl rfl rfl rfl ⟨rfl, rfl, rfl, rfl, rfl⟩ rfl rfl rfl rfl rfl (by kernel_rfl) Try.func4 (by kernel_rfl)
    (of_decide_eq_true (by kernel_rfl)) (by unfold Func.isWrapper; first | (rw [if_pos (by decide +kernel)]; kernel_rfl) | (rw [if_neg (by decide +kernel)]; exact ⟨rfl, rfl⟩))
    (fun os started H enc _ => historyConverges_lifted os started H enc)
end Go.Proofs.Ytodkdfaempcjgaa