/- The law anabranchlaw25.HistoryTells: whatever it is handed, it hands back true, and what it was handed reads as it did. No conditions. -/
import Derived.Test.YtodkdfaempcjgaaRows
import Derived.Test.YtodkdfaempcjgaaChecked
import Derived.Test.YtodkdfaempcjgaaImRowF3P2
set_option linter.unusedVariables false
namespace Go.IM.V
open Go Go.IM Go.Proofs
theorem law3 : Law Try.prog 3 Try.f3 6 := law_of (n := 8) (tys := [.l (.i .u16), .i .u8, .i .u8, .p (.i .u64) (.p (.i .i64) .u), .b]) (by kernel_rfl) c3_ok (fun x h => JdW _ (fun x hx => ok_u16 (h.1.2 x hx)) _ _ _ _ (Jrf h.2.1).1 (Jrf h.2.1).2 (Jrf h.2.2.1).1 (Jrf h.2.2.1).2)
end Go.IM.V
namespace Go.Proofs.Ytodkdfaempcjgaa
open Go.ChangeShapes Go.WideShapes Go.ChangeAt Go.RowKit
theorem Try.own3 : ownKnob Try.prog.godebug = none := by kernel_rfl
theorem Try.laidOut3 : laidOutB Try.prog = true := by kernel_rfl
set_option maxRecDepth 100000 in
theorem historyTells_lifted (os : Os) (started : os.Started) (H : Type) (enc : TypeId × Value → H) :
    ReturnsInHanded {} Try.checked os 3 .any (Rows.historyTellsSpec.pre6 enc Try.prog Try.f3 Rows.historyTellsRow.domain false) (Rows.historyTellsSpec.post enc Try.prog Try.f3 false true false false) :=
  Go.IM.lifted (C := Try.checked) (orc := (inferInstance : Go.IM.Orc Try.prog)) (depth := 6) (tb := 4) Try.own3 started (by kernel_rfl) Try.func3 Try.laidOut3 rfl (fun ds h => by match ds, h with | [d0, d1, d2, d3, d4], _ => rfl) (by kernel_rfl) (by kernel_rfl) (by kernel_rfl)
    (ChangeSpec.witness6 (enc := enc) (C := Try.checked) false ⟨#[], #[.slice none 0 0, .int .u8 0, .int .u8 0, .agg #[.int .u64 0, .int .i64 0], .bool false], []⟩ 8 (by kernel_rfl) (by kernel_rfl) (by kernel_rfl) (by kernel_rfl))
    Go.IM.V.law3
theorem historyTells_holds : Rows.HistoryTellsSaid :=
  OpenClaim.holds_of_wide 3 Try.f3 rfl rfl rfl rfl rfl rfl rfl ⟨rfl, rfl, rfl, rfl, rfl⟩ rfl rfl rfl rfl rfl (by kernel_rfl) Try.func3 (by kernel_rfl)
    (of_decide_eq_true (by kernel_rfl)) (by unfold Func.isWrapper;first | (rw [if_pos (by decide +kernel)];kernel_rfl) | (rw [if_neg (by decide +kernel)];exact ⟨rfl, rfl⟩))
    (fun os started H enc _ => historyTells_lifted os started H enc)
end Go.Proofs.Ytodkdfaempcjgaa