/- The law anabranchlaw10.ManifestSwaps: whatever it is handed, it hands back true, and what it was handed reads as it did. No conditions. -/
import Derived.Test.YtinknnimmpcddaaRows
import Derived.Test.YtinknnimmpcddaaChecked
import Derived.Test.YtinknnimmpcddaaImRowE7P2
set_option linter.unusedVariables false
namespace Go.IM.V
open Go Go.IM Go.Proofs
theorem law7 : LawA Try.prog 7 Try.f7 6   := law_ofA (n := 8) (tys := [.p (.i .i64) (.p (.i .u64) (.p (.l (.i .u64)) (.p (.i .u64) (.p .s .u)))), .p (.i .i64) (.p (.i .u64) (.p (.l (.i .u64)) (.p (.i .u64) (.p .s .u)))), .i .u8, .i .u8, .i .u8]) (by kernel_rfl) c7_ok (fun x h => manifestSwaps_pure _ _ (ok_u64 h.1.2.1) (fun x hx => ok_u64 (h.1.2.2.1.2 x hx)) (ok_u64 h.1.2.2.2.1) (ok_u64 h.2.1.2.1) (fun x hx => ok_u64 (h.2.1.2.2.1.2 x hx)) (ok_u64 h.2.1.2.2.2.1) _ _ _ (ok_u8 h.2.2.1) (ok_u8 h.2.2.2.1))
end Go.IM.V
namespace Go.Proofs.Ytinknnimmpcddaa
open Go.ChangeShapes Go.WideShapes Go.ChangeAt Go.RowKit
theorem Try.own7 : ownKnob Try.prog.godebug = none := by kernel_rfl
theorem Try.laidOut7 : laidOutB Try.prog = true := by kernel_rfl
set_option maxRecDepth 100000 in
theorem manifestSwaps_lifted (os : Os) (started : os.Started) (H : Type) (enc : TypeId × Value → H) :
    ReturnsInHanded {} Try.checked os 7 .any (Rows.manifestSwapsSpec.pre6 enc Try.prog Try.f7 Rows.manifestSwapsRow.domain false) (Rows.manifestSwapsSpec.post enc Try.prog Try.f7 false true false false) :=
  Go.IM.liftedA (C := Try.checked) (orc := (inferInstance : Go.IM.Orc Try.prog)) (depth := 6) (tb := 4) Try.own7 started (by kernel_rfl) Try.func7 Try.laidOut7 rfl (fun ds h => by match ds, h with | [d0, d1, d2, d3, d4], _ => rfl) (by kernel_rfl) (by kernel_rfl) (by kernel_rfl)
    (ChangeSpec.witness6 (enc := enc) (C := Try.checked) false ⟨#[], #[.agg #[.int .i64 0, .int .u64 0, .slice none 0 0, .int .u64 0, .string ByteArray.empty], .agg #[.int .i64 0, .int .u64 0, .slice none 0 0, .int .u64 0, .string ByteArray.empty], .int .u8 0, .int .u8 0, .int .u8 0], []⟩ 8 (by kernel_rfl) (by kernel_rfl) (by kernel_rfl) (by kernel_rfl))
    Go.IM.V.law7
theorem manifestSwaps_holds : Rows.ManifestSwapsSaid :=
  OpenClaim.holds_of_wide 7 Try.f7 rfl rfl rfl rfl rfl rfl rfl ⟨rfl, rfl, rfl, rfl, rfl⟩ rfl rfl rfl rfl rfl (by kernel_rfl) Try.func7 (by kernel_rfl)
    (of_decide_eq_true (by kernel_rfl)) (by unfold Func.isWrapper; first | (rw [if_pos (by decide +kernel)]; kernel_rfl) | (rw [if_neg (by decide +kernel)]; exact ⟨rfl, rfl⟩))
    (fun os started H enc _ => manifestSwaps_lifted os started H enc)
end Go.Proofs.Ytinknnimmpcddaa