/-
  No cell of these rows narrows 'for every input' (looked for: loops, veiled, ifaces, maps, wideKeys, modest, calm, conditions, laid).
  DERIVED. THE GIVEN ROWS OF THIS SEAT. 7 by the template 'for every input the law returns true; each argument reads behind the call as it read before'; 0 by the template 'total and deterministic' (their statements: YtnhjgbjhpnekdaaTotals.lean).
  GIVEN WITH THE SEED: the statements are not yours to turn. If you find one false, say at which input.
  Laid BY PROGRAM, IN A SANDBOX (cutbox-rows.mjs): the forced cells as the released guide's own fill.sh prints them over the translation 124c07e590bab049… (all of the seat's roots in one cut). By AI agents, Wed Nov 11 2026. No macro, syntax, notation, axiom, sorry.
-/
import Derived.Test.YtnhjgbjhpnekdaaChecked
import GoSem.Claim
import GoSem.ClaimJoined
import GoSem.ClaimMapViews
import Derived.JoinedTies
import Derived.KernelRfl
namespace Go.Proofs.Ytnhjgbjhpnekdaa
/- THE CELL 'sum', in the pinned program and in every row, IS THE sha256 OF THE DUMP (.gsa) THAT YtnhjgbjhpnekdaaProg.lean LOADS. Nothing in Lean hashes anything: it is a label: what it is worth is what the hold of that sum in a sandbox is worth. -/
noncomputable def Try.pinned : Pinned := { name := "ytnhjgbjhpnekdaa", sum := "124c07e590bab049710c8efb9df17422ad36254b74c88a7a3cba7ac95e103718", checked := Try.checked }
namespace Rows
def none {H : Type} : Left H := { results := [], args := [] }

/-- 'anabranchlaw13.MatrixRises': WHATEVER THE INPUT: true; the input reads as it did. -/
def matrixRisesSpec : ChangeSpec := { name := "matrixRises", fn := fun _ => fun
  | [d1, d2, d3] => { results := [.lit (.bool true)], args := [d1, d2, d3] }
  | _ => none }
def matrixRisesRow : OpenClaim := { program := "ytnhjgbjhpnekdaa", sum := "124c07e590bab049710c8efb9df17422ad36254b74c88a7a3cba7ac95e103718", func := "anabranch/anabranchlaw13.MatrixRises", spec := "matrixRises", unfollowed := true, recurses := true, apart := false }
def MatrixRisesSaid : Prop := matrixRisesRow.holds Try.pinned (OpenSpec.ofChange matrixRisesSpec)

/-- ITS FALSE NEIGHBOUR: 'it returns false'. Refute it at one input. -/
def matrixRisesWrong : ChangeSpec := { name := "matrixRises", fn := fun _ => fun
  | [d1, d2, d3] => { results := [.lit (.bool false)], args := [d1, d2, d3] }
  | _ => none }
def MatrixRisesWrongFalsely : Prop := matrixRisesRow.holds Try.pinned (OpenSpec.ofChange matrixRisesWrong)

/-- 'anabranchlaw26.SumsErrs': WHATEVER THE INPUT: true; the input reads as it did. -/
def sumsErrsSpec : ChangeSpec := { name := "sumsErrs", fn := fun _ => fun
  | [d1, d2, d3, d4, d5] => { results := [.lit (.bool true)], args := [d1, d2, d3, d4, d5] }
  | _ => none }
def sumsErrsRow : OpenClaim := { program := "ytnhjgbjhpnekdaa", sum := "124c07e590bab049710c8efb9df17422ad36254b74c88a7a3cba7ac95e103718", func := "anabranch/anabranchlaw26.SumsErrs", spec := "sumsErrs", inPlace := ["math.Float64bits"], apart := false }
def SumsErrsSaid : Prop := sumsErrsRow.holds Try.pinned (OpenSpec.ofChange sumsErrsSpec)

/-- ITS FALSE NEIGHBOUR: 'it returns false'. Refute it at one input. -/
def sumsErrsWrong : ChangeSpec := { name := "sumsErrs", fn := fun _ => fun
  | [d1, d2, d3, d4, d5] => { results := [.lit (.bool false)], args := [d1, d2, d3, d4, d5] }
  | _ => none }
def SumsErrsWrongFalsely : Prop := sumsErrsRow.holds Try.pinned (OpenSpec.ofChange sumsErrsWrong)

/-- 'anabranchlaw04.DiskFalls': WHATEVER THE INPUT: true; the input reads as it did. -/
def diskFallsSpec : ChangeSpec := { name := "diskFalls", fn := fun _ => fun
  | [d1, d2, d3, d4] => { results := [.lit (.bool true)], args := [d1, d2, d3, d4] }
  | _ => none }
def diskFallsRow : OpenClaim := { program := "ytnhjgbjhpnekdaa", sum := "124c07e590bab049710c8efb9df17422ad36254b74c88a7a3cba7ac95e103718", func := "anabranch/anabranchlaw04.DiskFalls", spec := "diskFalls", unfollowed := true, recurses := true, apart := false }
def DiskFallsSaid : Prop := diskFallsRow.holds Try.pinned (OpenSpec.ofChange diskFallsSpec)

/-- ITS FALSE NEIGHBOUR: 'it returns false'. Refute it at one input. -/
def diskFallsWrong : ChangeSpec := { name := "diskFalls", fn := fun _ => fun
  | [d1, d2, d3, d4] => { results := [.lit (.bool false)], args := [d1, d2, d3, d4] }
  | _ => none }
def DiskFallsWrongFalsely : Prop := diskFallsRow.holds Try.pinned (OpenSpec.ofChange diskFallsWrong)

/-- 'anabranchlaw26.SumsTrees': WHATEVER THE INPUT: true; the input reads as it did. -/
def sumsTreesSpec : ChangeSpec := { name := "sumsTrees", fn := fun _ => fun
  | [d1, d2] => { results := [.lit (.bool true)], args := [d1, d2] }
  | _ => none }
def sumsTreesRow : OpenClaim := { program := "ytnhjgbjhpnekdaa", sum := "124c07e590bab049710c8efb9df17422ad36254b74c88a7a3cba7ac95e103718", func := "anabranch/anabranchlaw26.SumsTrees", spec := "sumsTrees", inPlace := ["math.Float64bits"], apart := false }
def SumsTreesSaid : Prop := sumsTreesRow.holds Try.pinned (OpenSpec.ofChange sumsTreesSpec)

/-- ITS FALSE NEIGHBOUR: 'it returns false'. Refute it at one input. -/
def sumsTreesWrong : ChangeSpec := { name := "sumsTrees", fn := fun _ => fun
  | [d1, d2] => { results := [.lit (.bool false)], args := [d1, d2] }
  | _ => none }
def SumsTreesWrongFalsely : Prop := sumsTreesRow.holds Try.pinned (OpenSpec.ofChange sumsTreesWrong)

/-- 'anabranchlaw26.SumsDiffer': WHATEVER THE INPUT: true; the input reads as it did. -/
def sumsDifferSpec : ChangeSpec := { name := "sumsDiffer", fn := fun _ => fun
  | [d1, d2, d3] => { results := [.lit (.bool true)], args := [d1, d2, d3] }
  | _ => none }
def sumsDifferRow : OpenClaim := { program := "ytnhjgbjhpnekdaa", sum := "124c07e590bab049710c8efb9df17422ad36254b74c88a7a3cba7ac95e103718", func := "anabranch/anabranchlaw26.SumsDiffer", spec := "sumsDiffer", inPlace := ["math.Float64bits"], apart := false }
def SumsDifferSaid : Prop := sumsDifferRow.holds Try.pinned (OpenSpec.ofChange sumsDifferSpec)

/-- ITS FALSE NEIGHBOUR: 'it returns false'. Refute it at one input. -/
def sumsDifferWrong : ChangeSpec := { name := "sumsDiffer", fn := fun _ => fun
  | [d1, d2, d3] => { results := [.lit (.bool false)], args := [d1, d2, d3] }
  | _ => none }
def SumsDifferWrongFalsely : Prop := sumsDifferRow.holds Try.pinned (OpenSpec.ofChange sumsDifferWrong)

/-- 'anabranchlaw26.SumsFirst': WHATEVER THE INPUT: true; the input reads as it did. -/
def sumsFirstSpec : ChangeSpec := { name := "sumsFirst", fn := fun _ => fun
  | [d1, d2] => { results := [.lit (.bool true)], args := [d1, d2] }
  | _ => none }
def sumsFirstRow : OpenClaim := { program := "ytnhjgbjhpnekdaa", sum := "124c07e590bab049710c8efb9df17422ad36254b74c88a7a3cba7ac95e103718", func := "anabranch/anabranchlaw26.SumsFirst", spec := "sumsFirst", inPlace := ["math.Float64bits"], apart := false }
def SumsFirstSaid : Prop := sumsFirstRow.holds Try.pinned (OpenSpec.ofChange sumsFirstSpec)

/-- ITS FALSE NEIGHBOUR: 'it returns false'. Refute it at one input. -/
def sumsFirstWrong : ChangeSpec := { name := "sumsFirst", fn := fun _ => fun
  | [d1, d2] => { results := [.lit (.bool false)], args := [d1, d2] }
  | _ => none }
def SumsFirstWrongFalsely : Prop := sumsFirstRow.holds Try.pinned (OpenSpec.ofChange sumsFirstWrong)

/-- 'anabranchlaw26.SumsAdds': WHATEVER THE INPUT: true; the input reads as it did. -/
def sumsAddsSpec : ChangeSpec := { name := "sumsAdds", fn := fun _ => fun
  | [d1, d2, d3, d4] => { results := [.lit (.bool true)], args := [d1, d2, d3, d4] }
  | _ => none }
def sumsAddsRow : OpenClaim := { program := "ytnhjgbjhpnekdaa", sum := "124c07e590bab049710c8efb9df17422ad36254b74c88a7a3cba7ac95e103718", func := "anabranch/anabranchlaw26.SumsAdds", spec := "sumsAdds", inPlace := ["math.Float64bits"], apart := false }
def SumsAddsSaid : Prop := sumsAddsRow.holds Try.pinned (OpenSpec.ofChange sumsAddsSpec)

/-- ITS FALSE NEIGHBOUR: 'it returns false'. Refute it at one input. -/
def sumsAddsWrong : ChangeSpec := { name := "sumsAdds", fn := fun _ => fun
  | [d1, d2, d3, d4] => { results := [.lit (.bool false)], args := [d1, d2, d3, d4] }
  | _ => none }
def SumsAddsWrongFalsely : Prop := sumsAddsRow.holds Try.pinned (OpenSpec.ofChange sumsAddsWrong)

/- THE SECOND FORM. 'bulk': how many values and letters a reading holds, each counted each time it is reached (what is shared counts as often as it is met; a slice's spare places count too). A statement '..UptoSaid' is the law's where the arguments, and the package variables that the reading takes, are together of bulk at most 1048576: NARROWER than '..Said'. Prove '..Said' where nothing that the law and all that it calls make is longer than what came in: it says more and counts as full. Else prove '..UptoSaid'. A law counts once. -/
mutual
def uptoBulk {H : Type} : DataW H → Nat
  | .lit (.string bytes) => bytes.length + 1
  | .lit _ => 1
  | .nil => 1
  | .ptr d => uptoBulk d + 1
  | .slice elems spare => uptoBulkAll elems + uptoBulkAll spare + 1
  | .agg parts => uptoBulkAll parts + 1
  | .iface _ d => uptoBulk d + 1
  | .map entries => uptoBulkEntries entries + 1
  | .held _ => 1
def uptoBulkAll {H : Type} : List (DataW H) → Nat
  | [] => 0
  | d :: r => uptoBulk d + uptoBulkAll r
def uptoBulkEntries {H : Type} : List (Lit × DataW H) → Nat
  | [] => 0
  | x :: r => uptoBulkEntry x + uptoBulkEntries r
def uptoBulkEntry {H : Type} : Lit × DataW H → Nat
  | (.string bytes, d) => bytes.length + uptoBulk d + 1
  | (_, d) => uptoBulk d + 1
 end
def uptoSmall : (H : Type) → List (DataW H) → Bool := fun _ ds => decide (uptoBulkAll ds ≤ 1048576)
def OpenSpec.upto (s : _root_.Go.ChangeSpec) : _root_.Go.OpenSpec := { _root_.Go.OpenSpec.ofChange s with cond := some uptoSmall }

/-- 'anabranchlaw13.MatrixRises', WHERE WHAT IT READS IS OF BULK AT MOST 1048576: true; the input reads as it did. -/
def matrixRisesUptoRow : OpenClaim := { program := "ytnhjgbjhpnekdaa", sum := "124c07e590bab049710c8efb9df17422ad36254b74c88a7a3cba7ac95e103718", func := "anabranch/anabranchlaw13.MatrixRises", spec := "matrixRises", unfollowed := true, recurses := true, apart := false, narrowed := true }
def MatrixRisesUptoSaid : Prop := matrixRisesUptoRow.holds Try.pinned (OpenSpec.upto matrixRisesSpec)

/-- 'anabranchlaw26.SumsErrs', WHERE WHAT IT READS IS OF BULK AT MOST 1048576: true; the input reads as it did. -/
def sumsErrsUptoRow : OpenClaim := { program := "ytnhjgbjhpnekdaa", sum := "124c07e590bab049710c8efb9df17422ad36254b74c88a7a3cba7ac95e103718", func := "anabranch/anabranchlaw26.SumsErrs", spec := "sumsErrs", inPlace := ["math.Float64bits"], apart := false, narrowed := true }
def SumsErrsUptoSaid : Prop := sumsErrsUptoRow.holds Try.pinned (OpenSpec.upto sumsErrsSpec)

/-- 'anabranchlaw04.DiskFalls', WHERE WHAT IT READS IS OF BULK AT MOST 1048576: true; the input reads as it did. -/
def diskFallsUptoRow : OpenClaim := { program := "ytnhjgbjhpnekdaa", sum := "124c07e590bab049710c8efb9df17422ad36254b74c88a7a3cba7ac95e103718", func := "anabranch/anabranchlaw04.DiskFalls", spec := "diskFalls", unfollowed := true, recurses := true, apart := false, narrowed := true }
def DiskFallsUptoSaid : Prop := diskFallsUptoRow.holds Try.pinned (OpenSpec.upto diskFallsSpec)

/-- 'anabranchlaw26.SumsTrees', WHERE WHAT IT READS IS OF BULK AT MOST 1048576: true; the input reads as it did. -/
def sumsTreesUptoRow : OpenClaim := { program := "ytnhjgbjhpnekdaa", sum := "124c07e590bab049710c8efb9df17422ad36254b74c88a7a3cba7ac95e103718", func := "anabranch/anabranchlaw26.SumsTrees", spec := "sumsTrees", inPlace := ["math.Float64bits"], apart := false, narrowed := true }
def SumsTreesUptoSaid : Prop := sumsTreesUptoRow.holds Try.pinned (OpenSpec.upto sumsTreesSpec)

/-- 'anabranchlaw26.SumsDiffer', WHERE WHAT IT READS IS OF BULK AT MOST 1048576: true; the input reads as it did. -/
def sumsDifferUptoRow : OpenClaim := { program := "ytnhjgbjhpnekdaa", sum := "124c07e590bab049710c8efb9df17422ad36254b74c88a7a3cba7ac95e103718", func := "anabranch/anabranchlaw26.SumsDiffer", spec := "sumsDiffer", inPlace := ["math.Float64bits"], apart := false, narrowed := true }
def SumsDifferUptoSaid : Prop := sumsDifferUptoRow.holds Try.pinned (OpenSpec.upto sumsDifferSpec)

/-- 'anabranchlaw26.SumsFirst', WHERE WHAT IT READS IS OF BULK AT MOST 1048576: true; the input reads as it did. -/
def sumsFirstUptoRow : OpenClaim := { program := "ytnhjgbjhpnekdaa", sum := "124c07e590bab049710c8efb9df17422ad36254b74c88a7a3cba7ac95e103718", func := "anabranch/anabranchlaw26.SumsFirst", spec := "sumsFirst", inPlace := ["math.Float64bits"], apart := false, narrowed := true }
def SumsFirstUptoSaid : Prop := sumsFirstUptoRow.holds Try.pinned (OpenSpec.upto sumsFirstSpec)

/-- 'anabranchlaw26.SumsAdds', WHERE WHAT IT READS IS OF BULK AT MOST 1048576: true; the input reads as it did. -/
def sumsAddsUptoRow : OpenClaim := { program := "ytnhjgbjhpnekdaa", sum := "124c07e590bab049710c8efb9df17422ad36254b74c88a7a3cba7ac95e103718", func := "anabranch/anabranchlaw26.SumsAdds", spec := "sumsAdds", inPlace := ["math.Float64bits"], apart := false, narrowed := true }
def SumsAddsUptoSaid : Prop := sumsAddsUptoRow.holds Try.pinned (OpenSpec.upto sumsAddsSpec)

end Rows
end Go.Proofs.Ytnhjgbjhpnekdaa
