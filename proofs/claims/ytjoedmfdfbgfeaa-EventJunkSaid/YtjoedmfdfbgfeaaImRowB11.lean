/- The law anabranchlaw06.EventJunk: whatever it is handed, it hands back true, and what it was handed reads as it did. No conditions. -/
import Derived.Test.YtjoedmfdfbgfeaaRows
import Derived.Test.YtjoedmfdfbgfeaaChecked
import Derived.Test.YtjoedmfdfbgfeaaImRowB11P2
set_option linter.unusedVariables false
namespace Go.IM.V
open Go Go.IM Go.Proofs
theorem law11 : Law Try.prog 11 Try.f11 6 := law_of (n := 8) (tys := [.l (.i .u8), .p (.i .i64) (.p (.i .u64) (.p (.i .u64) (.p (.i .u8) (.p .s (.p (.l (.i .u8)) (.p (.f .f64) (.p (.i .i64) .u))))))), .i .u16, .i .u8, .i .u16]) (by kernel_rfl) c11_ok (fun x h => eventJunk_pure _ _ _ _ _ (fun x hx => ok_u8 (h.1.2 x hx)) (ok_u64 h.2.1.2.1) (ok_u64 h.2.1.2.2.1) (ok_u8 h.2.1.2.2.2.1) (fun x hx => ok_u8 (h.2.1.2.2.2.2.2.1.2 x hx)) (ok_u16 h.2.2.1) (ok_u16 h.2.2.2.2.1))
end Go.IM.V
namespace Go.Proofs.Ytjoedmfdfbgfeaa
open Go.ChangeShapes Go.WideShapes Go.ChangeAt Go.RowKit

theorem Try.own11 : ownKnob Try.prog.godebug = none := by kernel_rfl
theorem Try.laidOut11 : laidOutB Try.prog = true := by kernel_rfl

set_option maxRecDepth 100000 in
theorem eventJunk_lifted (os : Os) (started : os.Started) (H : Type) (enc : TypeId × Value → H) :
    ReturnsInHanded {} Try.checked os 11 .any (Rows.eventJunkSpec.pre6 enc Try.prog Try.f11 Rows.eventJunkRow.domain false) (Rows.eventJunkSpec.post enc Try.prog Try.f11 false true false false) :=
  Go.IM.lifted (C := Try.checked) (depth := 6) (tb := 4) Try.own11 started (by kernel_rfl) Try.func11 Try.laidOut11 rfl (fun ds h => by match ds, h with | [d0, d1, d2, d3, d4], _ => rfl) (by kernel_rfl) (by kernel_rfl) (by kernel_rfl)
    (ChangeSpec.witness6 (enc := enc) (C := Try.checked) false ⟨#[], #[.slice none 0 0, .agg #[.int .i64 0, .int .u64 0, .int .u64 0, .int .u8 0, .string ByteArray.empty, .slice none 0 0, .float .f64 0, .int .i64 0], .int .u16 0, .int .u8 0, .int .u16 0], []⟩ 8 (by kernel_rfl) (by kernel_rfl) (by kernel_rfl) (by kernel_rfl))
    Go.IM.V.law11

theorem eventJunk_holds : Rows.EventJunkSaid :=
  OpenClaim.holds_of_wide 11 Try.f11 rfl rfl rfl rfl rfl rfl rfl ⟨rfl, rfl, rfl, rfl, rfl⟩ rfl rfl rfl rfl rfl (by kernel_rfl) Try.func11 (by kernel_rfl)
    (of_decide_eq_true (by kernel_rfl)) (by unfold Func.isWrapper; first | (rw [if_pos (by decide +kernel)]; kernel_rfl) | (rw [if_neg (by decide +kernel)]; exact ⟨rfl, rfl⟩))
    (fun os started H enc _ => eventJunk_lifted os started H enc)
end Go.Proofs.Ytjoedmfdfbgfeaa
