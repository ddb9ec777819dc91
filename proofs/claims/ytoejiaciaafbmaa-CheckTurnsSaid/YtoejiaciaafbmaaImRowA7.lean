/- The law anabranchlaw03.CheckTurns: whatever it is handed, it hands back true, and what it was handed reads as it did. No conditions. -/
import Derived.Test.YtoejiaciaafbmaaRows
import Derived.Test.YtoejiaciaafbmaaChecked
import Derived.Test.YtoejiaciaafbmaaImRowA7P1
set_option linter.unusedVariables false
namespace Go.IM.V
open Go Go.IM Go.Proofs
theorem law7 : Law Try.prog 7 Try.f7 6 := law_of (n := 8) (tys := [.l (.i .u8), .i .u16, .i .u8, .i .u16]) (by kernel_rfl) c7_ok (fun x h => checkTurns_pure _ _ _ _ (fun x hx => ok_u8 (h.1.2 x hx)) (ok_u16 h.2.1) (ok_u8 h.2.2.1) (ok_u16 h.2.2.2.1))
end Go.IM.V
namespace Go.Proofs.Ytoejiaciaafbmaa
open Go.ChangeShapes Go.WideShapes Go.ChangeAt Go.RowKit

theorem Try.own7 : ownKnob Try.prog.godebug = none := by kernel_rfl
theorem Try.laidOut7 : laidOutB Try.prog = true := by kernel_rfl

set_option maxRecDepth 100000 in
theorem checkTurns_lifted (os : Os) (started : os.Started) (H : Type) (enc : TypeId × Value → H) :
    ReturnsInHanded {} Try.checked os 7 .any (Rows.checkTurnsSpec.pre6 enc Try.prog Try.f7 Rows.checkTurnsRow.domain false) (Rows.checkTurnsSpec.post enc Try.prog Try.f7 false true false false) :=
  Go.IM.lifted (C := Try.checked) (depth := 6) (tb := 4) Try.own7 started (by kernel_rfl) Try.func7 Try.laidOut7 rfl (fun ds h => by match ds, h with | [d0, d1, d2, d3], _ => rfl) (by kernel_rfl) (by kernel_rfl) (by kernel_rfl)
    (ChangeSpec.witness6 (enc := enc) (C := Try.checked) false ⟨#[], #[.slice none 0 0, .int .u16 0, .int .u8 0, .int .u16 0], []⟩ 8 (by kernel_rfl) (by kernel_rfl) (by kernel_rfl) (by kernel_rfl))
    Go.IM.V.law7

theorem checkTurns_holds : Rows.CheckTurnsSaid :=
  OpenClaim.holds_of_wide 7 Try.f7 rfl rfl rfl rfl rfl rfl rfl ⟨rfl, rfl, rfl, rfl, rfl⟩ rfl rfl rfl rfl rfl (by kernel_rfl) Try.func7 (by kernel_rfl)
    (of_decide_eq_true (by kernel_rfl)) (by unfold Func.isWrapper; first | (rw [if_pos (by decide +kernel)]; kernel_rfl) | (rw [if_neg (by decide +kernel)]; exact ⟨rfl, rfl⟩))
    (fun os started H enc _ => checkTurns_lifted os started H enc)
end Go.Proofs.Ytoejiaciaafbmaa
