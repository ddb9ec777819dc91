/- The law anabranchlaw06.EventBytes: whatever it is handed, it hands back true, and what it was handed reads as it did. No conditions. -/
import Derived.Test.YtjoedmfdfbgfeaaRows
import Derived.Test.YtjoedmfdfbgfeaaChecked
import Derived.Test.YtjoedmfdfbgfeaaImRowB12P2
set_option linter.unusedVariables false
namespace Go.IM.V
open Go Go.IM Go.Proofs
theorem law12 : Law Try.prog 12 Try.f12 6 := law_of (n := 8) (tys := [.p (.i .i64) (.p (.i .u64) (.p (.i .u64) (.p (.i .u8) (.p .s (.p (.l (.i .u8)) (.p (.f .f64) (.p (.i .i64) .u))))))), .i .u8]) (by kernel_rfl) c12_ok (fun x h => eventBytes_pure _ _ (ok_u64 h.1.2.1) (ok_u64 h.1.2.2.1) (fun x hx => ok_u8 (h.1.2.2.2.2.2.1.2 x hx)) (ok_f64 h.1.2.2.2.2.2.2.1))
end Go.IM.V
namespace Go.Proofs.Ytjoedmfdfbgfeaa
open Go.ChangeShapes Go.WideShapes Go.ChangeAt Go.RowKit

theorem Try.own12 : ownKnob Try.prog.godebug = none := by kernel_rfl
theorem Try.laidOut12 : laidOutB Try.prog = true := by kernel_rfl

set_option maxRecDepth 100000 in
theorem eventBytes_lifted (os : Os) (started : os.Started) (H : Type) (enc : TypeId × Value → H) :
    ReturnsInHanded {} Try.checked os 12 .any (Rows.eventBytesSpec.pre6 enc Try.prog Try.f12 Rows.eventBytesRow.domain false) (Rows.eventBytesSpec.post enc Try.prog Try.f12 false true false false) :=
  Go.IM.lifted (C := Try.checked) (depth := 6) (tb := 4) Try.own12 started (by kernel_rfl) Try.func12 Try.laidOut12 rfl (fun ds h => by match ds, h with | [d0, d1], _ => rfl) (by kernel_rfl) (by kernel_rfl) (by kernel_rfl)
    (ChangeSpec.witness6 (enc := enc) (C := Try.checked) false ⟨#[], #[.agg #[.int .i64 0, .int .u64 0, .int .u64 0, .int .u8 0, .string ByteArray.empty, .slice none 0 0, .float .f64 0, .int .i64 0], .int .u8 0], []⟩ 8 (by kernel_rfl) (by kernel_rfl) (by kernel_rfl) (by kernel_rfl))
    Go.IM.V.law12

theorem eventBytes_holds : Rows.EventBytesSaid :=
  OpenClaim.holds_of_wide 12 Try.f12 rfl rfl rfl rfl rfl rfl rfl ⟨rfl, rfl, rfl, rfl, rfl⟩ rfl rfl rfl rfl rfl (by kernel_rfl) Try.func12 (by kernel_rfl)
    (of_decide_eq_true (by kernel_rfl)) (by unfold Func.isWrapper; first | (rw [if_pos (by decide +kernel)]; kernel_rfl) | (rw [if_neg (by decide +kernel)]; exact ⟨rfl, rfl⟩))
    (fun os started H enc _ => eventBytes_lifted os started H enc)
end Go.Proofs.Ytjoedmfdfbgfeaa
