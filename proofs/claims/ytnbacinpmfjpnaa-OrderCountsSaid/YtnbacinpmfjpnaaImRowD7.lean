/- The law anabranchlaw12.OrderCounts: whatever it is handed, it hands back true, and what it was handed reads as it did. No conditions. -/
import Derived.Test.YtnbacinpmfjpnaaRows
import Derived.Test.YtnbacinpmfjpnaaChecked
import Derived.Test.YtnbacinpmfjpnaaImRowD7P2
set_option linter.unusedVariables false
namespace Go.IM.V
open Go Go.IM Go.Proofs
theorem law7 : Law Try.prog 7 Try.f7 6 := law_of (n := 8) (tys := [.l (.i .u16), .i .u8, .i .u64, .b]) (by kernel_rfl) c7_ok (fun x h => orderCounts_pure _ (fun x hx => ok_u16 (h.1.2 x hx)) _ (ok_u8 h.2.1).1 (ok_u8 h.2.1).2 _ _)
end Go.IM.V
namespace Go.Proofs.Ytnbacinpmfjpnaa
open Go.ChangeShapes Go.WideShapes Go.ChangeAt Go.RowKit
theorem Try.own7 : ownKnob Try.prog.godebug = none := by kernel_rfl
theorem Try.laidOut7 : laidOutB Try.prog = true := by kernel_rfl
set_option maxRecDepth 100000 in
theorem orderCounts_lifted (os : Os) (started : os.Started) (H : Type) (enc : TypeId × Value → H) :
  ReturnsInHanded {} Try.checked os 7 .any (Rows.orderCountsSpec.pre6 enc Try.prog Try.f7 Rows.orderCountsRow.domain false) (Rows.orderCountsSpec.post enc Try.prog Try.f7 false true false false) :=
 Go.IM.lifted (C := Try.checked) (depth := 6) (tb := 4) Try.own7 started (by kernel_rfl) Try.func7 Try.laidOut7 rfl (fun ds h => by match ds, h with | [d0, d1, d2, d3], _ => rfl) (by kernel_rfl) (by kernel_rfl) (by kernel_rfl)
  (ChangeSpec.witness6 (enc := enc) (C := Try.checked) false ⟨#[], #[.slice none 0 0, .int .u8 0, .int .u64 0, .bool false], []⟩ 8 (by kernel_rfl) (by kernel_rfl) (by kernel_rfl) (by kernel_rfl))
  Go.IM.V.law7
theorem orderCounts_holds : Rows.OrderCountsSaid :=
 OpenClaim.holds_of_wide 7 Try.f7 rfl rfl rfl rfl rfl rfl rfl ⟨rfl, rfl, rfl, rfl, rfl⟩ rfl rfl rfl rfl rfl (by kernel_rfl) Try.func7 (by kernel_rfl)
  (of_decide_eq_true (by kernel_rfl)) (by unfold Func.isWrapper; first | (rw [if_pos (by decide +kernel)]; kernel_rfl) | (rw [if_neg (by decide +kernel)]; exact ⟨rfl, rfl⟩))
  (fun os started H enc _ => orderCounts_lifted os started H enc)
end Go.Proofs.Ytnbacinpmfjpnaa