/- The law anabranchlaw10.ManifestErrs: whatever it is handed, it hands back true, and what it was handed reads as it did. No conditions. -/
import Derived.Test.YtinknnimmpcddaaRows
import Derived.Test.YtinknnimmpcddaaChecked
import Derived.Test.YtinknnimmpcddaaImRowE5P2
set_option linter.unusedVariables false
namespace Go.IM.V
open Go Go.IM Go.Proofs
theorem law5 : Law Try.prog 5 Try.f5 6 := law_of (n := 8) (tys := [.p (.i .i64) (.p (.i .u64) (.p (.l (.i .u64)) (.p (.i .u64) (.p .s .u)))), .l (.i .u8), .p (.i .u8) (.p (.i .u64) (.p (.i .u64) .u))]) (by kernel_rfl) c5_ok (fun x h => manifestErrs_pure _ (ok_u64 h.1.2.1) (fun x hx => ok_u64 (h.1.2.2.1.2 x hx)) (ok_u64 h.1.2.2.2.1) _ (fun x hx => ok_u8 (h.2.1.2 x hx)) _ ⟨(ok_u8 h.2.2.1.1).1, (ok_u8 h.2.2.1.1).2, (ok_u64 h.2.2.1.2.1).1, (ok_u64 h.2.2.1.2.1).2, (ok_u64 h.2.2.1.2.2.1).1, (ok_u64 h.2.2.1.2.2.1).2⟩)
end Go.IM.V
namespace Go.Proofs.Ytinknnimmpcddaa
open Go.ChangeShapes Go.WideShapes Go.ChangeAt Go.RowKit
theorem Try.own5 : ownKnob Try.prog.godebug = none := by kernel_rfl
theorem Try.laidOut5 : laidOutB Try.prog = true := by kernel_rfl
set_option maxRecDepth 100000 in
theorem manifestErrs_lifted (os : Os) (started : os.Started) (H : Type) (enc : TypeId × Value → H) :
    ReturnsInHanded {} Try.checked os 5 .any (Rows.manifestErrsSpec.pre6 enc Try.prog Try.f5 Rows.manifestErrsRow.domain false) (Rows.manifestErrsSpec.post enc Try.prog Try.f5 false true false false) :=
  Go.IM.lifted (C := Try.checked) (orc := (inferInstance : Go.IM.Orc Try.prog)) (depth := 6) (tb := 4) Try.own5 started (by kernel_rfl) Try.func5 Try.laidOut5 rfl (fun ds h => by match ds, h with | [d0, d1, d2], _ => rfl) (by kernel_rfl) (by kernel_rfl) (by kernel_rfl)
    (ChangeSpec.witness6 (enc := enc) (C := Try.checked) false ⟨#[], #[.agg #[.int .i64 0, .int .u64 0, .slice none 0 0, .int .u64 0, .string ByteArray.empty], .slice none 0 0, .agg #[.int .u8 0, .int .u64 0, .int .u64 0]], []⟩ 8 (by kernel_rfl) (by kernel_rfl) (by kernel_rfl) (by kernel_rfl))
    Go.IM.V.law5
theorem manifestErrs_holds : Rows.ManifestErrsSaid :=
  OpenClaim.holds_of_wide 5 Try.f5 rfl rfl rfl rfl rfl rfl rfl ⟨rfl, rfl, rfl, rfl, rfl⟩ rfl rfl rfl rfl rfl (by kernel_rfl) Try.func5 (by kernel_rfl)
    (of_decide_eq_true (by kernel_rfl)) (by unfold Func.isWrapper; first | (rw [if_pos (by decide +kernel)]; kernel_rfl) | (rw [if_neg (by decide +kernel)]; exact ⟨rfl, rfl⟩))
    (fun os started H enc _ => manifestErrs_lifted os started H enc)
end Go.Proofs.Ytinknnimmpcddaa