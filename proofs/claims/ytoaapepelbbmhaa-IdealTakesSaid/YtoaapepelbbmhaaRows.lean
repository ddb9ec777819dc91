/-
  No cell of these rows narrows 'for every input' (looked for: loops, veiled, ifaces, maps, wideKeys, modest, calm, conditions, laid).
  DERIVED. THE GIVEN ROWS OF THIS SEAT. 4 by the template 'for every input the law returns true; each argument reads behind the call as it read before'; 0 by the template 'total and deterministic' (their statements: YtoaapepelbbmhaaTotals.lean).
  GIVEN WITH THE SEED: the statements are not yours to turn. If you find one false, say at which input.
  Laid BY PROGRAM, IN A SANDBOX (cutbox-rows.mjs): the forced cells as the released guide's own fill.sh prints them over the translation dc82cd466badc34c… (all of the seat's roots in one cut). By AI agents, Wed Nov 11 2026. No macro, syntax, notation, axiom, sorry.
-/
import Derived.Test.YtoaapepelbbmhaaChecked
import GoSem.Claim
import GoSem.ClaimJoined
import GoSem.ClaimMapViews
import Derived.JoinedTies
import Derived.KernelRfl
namespace Go.Proofs.Ytoaapepelbbmhaa
/- THE CELL 'sum', in the pinned program and in every row, IS THE sha256 OF THE DUMP (.gsa) THAT YtoaapepelbbmhaaProg.lean LOADS. Nothing in Lean hashes anything: it is a label: what it is worth is what the hold of that sum in a sandbox is worth. -/
noncomputable def Try.pinned : Pinned := { name := "ytoaapepelbbmhaa", sum := "dc82cd466badc34cf529456e16d27ccb7cca7de8cfa7aa5d245d55a5363164f4", checked := Try.checked }
namespace Rows
def none {H : Type} : Left H := { results := [], args := [] }

/-- 'anabranchlaw20.IdealTakes': WHATEVER THE INPUT: true; the input reads as it did. -/
def idealTakesSpec : ChangeSpec := { name := "idealTakes", fn := fun _ => fun
  | [d1, d2, d3] => { results := [.lit (.bool true)], args := [d1, d2, d3] }
  | _ => none }
def idealTakesRow : OpenClaim := { program := "ytoaapepelbbmhaa", sum := "dc82cd466badc34cf529456e16d27ccb7cca7de8cfa7aa5d245d55a5363164f4", func := "anabranch/anabranchlaw20.IdealTakes", spec := "idealTakes", inPlace := ["math.Float64bits", "math.Float64frombits"], unfollowed := true, recurses := true, apart := false }
def IdealTakesSaid : Prop := idealTakesRow.holds Try.pinned (OpenSpec.ofChange idealTakesSpec)

/-- ITS FALSE NEIGHBOUR: 'it returns false'. Refute it at one input. -/
def idealTakesWrong : ChangeSpec := { name := "idealTakes", fn := fun _ => fun
  | [d1, d2, d3] => { results := [.lit (.bool false)], args := [d1, d2, d3] }
  | _ => none }
def IdealTakesWrongFalsely : Prop := idealTakesRow.holds Try.pinned (OpenSpec.ofChange idealTakesWrong)

/-- 'anabranchlaw20.IdealTries': WHATEVER THE INPUT: true; the input reads as it did. -/
def idealTriesSpec : ChangeSpec := { name := "idealTries", fn := fun _ => fun
  | [d1, d2] => { results := [.lit (.bool true)], args := [d1, d2] }
  | _ => none }
def idealTriesRow : OpenClaim := { program := "ytoaapepelbbmhaa", sum := "dc82cd466badc34cf529456e16d27ccb7cca7de8cfa7aa5d245d55a5363164f4", func := "anabranch/anabranchlaw20.IdealTries", spec := "idealTries", inPlace := ["math.Float64bits", "math.Float64frombits"], unfollowed := true, recurses := true, apart := false }
def IdealTriesSaid : Prop := idealTriesRow.holds Try.pinned (OpenSpec.ofChange idealTriesSpec)

/-- ITS FALSE NEIGHBOUR: 'it returns false'. Refute it at one input. -/
def idealTriesWrong : ChangeSpec := { name := "idealTries", fn := fun _ => fun
  | [d1, d2] => { results := [.lit (.bool false)], args := [d1, d2] }
  | _ => none }
def IdealTriesWrongFalsely : Prop := idealTriesRow.holds Try.pinned (OpenSpec.ofChange idealTriesWrong)

/-- 'anabranchlaw20.IdealInstalls': WHATEVER THE INPUT: true; the input reads as it did. -/
def idealInstallsSpec : ChangeSpec := { name := "idealInstalls", fn := fun _ => fun
  | [d1, d2, d3] => { results := [.lit (.bool true)], args := [d1, d2, d3] }
  | _ => none }
def idealInstallsRow : OpenClaim := { program := "ytoaapepelbbmhaa", sum := "dc82cd466badc34cf529456e16d27ccb7cca7de8cfa7aa5d245d55a5363164f4", func := "anabranch/anabranchlaw20.IdealInstalls", spec := "idealInstalls", inPlace := ["math.Float64bits", "math.Float64frombits"], unfollowed := true, recurses := true, apart := false }
def IdealInstallsSaid : Prop := idealInstallsRow.holds Try.pinned (OpenSpec.ofChange idealInstallsSpec)

/-- ITS FALSE NEIGHBOUR: 'it returns false'. Refute it at one input. -/
def idealInstallsWrong : ChangeSpec := { name := "idealInstalls", fn := fun _ => fun
  | [d1, d2, d3] => { results := [.lit (.bool false)], args := [d1, d2, d3] }
  | _ => none }
def IdealInstallsWrongFalsely : Prop := idealInstallsRow.holds Try.pinned (OpenSpec.ofChange idealInstallsWrong)

/-- 'anabranchlaw20.IdealFalls': WHATEVER THE INPUT: true; the input reads as it did. -/
def idealFallsSpec : ChangeSpec := { name := "idealFalls", fn := fun _ => fun
  | [d1, d2, d3, d4] => { results := [.lit (.bool true)], args := [d1, d2, d3, d4] }
  | _ => none }
def idealFallsRow : OpenClaim := { program := "ytoaapepelbbmhaa", sum := "dc82cd466badc34cf529456e16d27ccb7cca7de8cfa7aa5d245d55a5363164f4", func := "anabranch/anabranchlaw20.IdealFalls", spec := "idealFalls", inPlace := ["math.Float64bits", "math.Float64frombits"], unfollowed := true, recurses := true, apart := false }
def IdealFallsSaid : Prop := idealFallsRow.holds Try.pinned (OpenSpec.ofChange idealFallsSpec)

/-- ITS FALSE NEIGHBOUR: 'it returns false'. Refute it at one input. -/
def idealFallsWrong : ChangeSpec := { name := "idealFalls", fn := fun _ => fun
  | [d1, d2, d3, d4] => { results := [.lit (.bool false)], args := [d1, d2, d3, d4] }
  | _ => none }
def IdealFallsWrongFalsely : Prop := idealFallsRow.holds Try.pinned (OpenSpec.ofChange idealFallsWrong)

/- THE SECOND FORM. 'bulk': how many values and letters a reading holds, each counted each time it is reached (what is shared counts as often as it is met; a slice's spare places count too). A statement '..UptoSaid' is the law's where the arguments, and the package variables that the reading takes, are together of bulk at most 1048576: NARROWER than '..Said'. Prove '..Said' where nothing that the law and all that it calls make is longer than what came in: it says more and counts as full. Else prove '..UptoSaid'. A law counts once. -/
mutual
def uptoBulk {H : Type} : DataW H → Nat
  | .lit (.string bytes) => bytes.length + 1
  | .lit _ => 1
  | .nil => 1
  | .ptr d => uptoBulk d + 1
  | .slice elems spare => uptoBulkAll elems + uptoBulkAll spare + 1
  | .agg parts => uptoBulkAll parts + 1
  | .iface _ d => uptoBulk d + 1
  | .map entries => uptoBulkEntries entries + 1
  | .held _ => 1
def uptoBulkAll {H : Type} : List (DataW H) → Nat
  | [] => 0
  | d :: r => uptoBulk d + uptoBulkAll r
def uptoBulkEntries {H : Type} : List (Lit × DataW H) → Nat
  | [] => 0
  | x :: r => uptoBulkEntry x + uptoBulkEntries r
def uptoBulkEntry {H : Type} : Lit × DataW H → Nat
  | (.string bytes, d) => bytes.length + uptoBulk d + 1
  | (_, d) => uptoBulk d + 1
 end
def uptoSmall : (H : Type) → List (DataW H) → Bool := fun _ ds => decide (uptoBulkAll ds ≤ 1048576)
def OpenSpec.upto (s : _root_.Go.ChangeSpec) : _root_.Go.OpenSpec := { _root_.Go.OpenSpec.ofChange s with cond := some uptoSmall }

/-- 'anabranchlaw20.IdealTakes', WHERE WHAT IT READS IS OF BULK AT MOST 1048576: true; the input reads as it did. -/
def idealTakesUptoRow : OpenClaim := { program := "ytoaapepelbbmhaa", sum := "dc82cd466badc34cf529456e16d27ccb7cca7de8cfa7aa5d245d55a5363164f4", func := "anabranch/anabranchlaw20.IdealTakes", spec := "idealTakes", inPlace := ["math.Float64bits", "math.Float64frombits"], unfollowed := true, recurses := true, apart := false, narrowed := true }
def IdealTakesUptoSaid : Prop := idealTakesUptoRow.holds Try.pinned (OpenSpec.upto idealTakesSpec)

/-- 'anabranchlaw20.IdealTries', WHERE WHAT IT READS IS OF BULK AT MOST 1048576: true; the input reads as it did. -/
def idealTriesUptoRow : OpenClaim := { program := "ytoaapepelbbmhaa", sum := "dc82cd466badc34cf529456e16d27ccb7cca7de8cfa7aa5d245d55a5363164f4", func := "anabranch/anabranchlaw20.IdealTries", spec := "idealTries", inPlace := ["math.Float64bits", "math.Float64frombits"], unfollowed := true, recurses := true, apart := false, narrowed := true }
def IdealTriesUptoSaid : Prop := idealTriesUptoRow.holds Try.pinned (OpenSpec.upto idealTriesSpec)

/-- 'anabranchlaw20.IdealInstalls', WHERE WHAT IT READS IS OF BULK AT MOST 1048576: true; the input reads as it did. -/
def idealInstallsUptoRow : OpenClaim := { program := "ytoaapepelbbmhaa", sum := "dc82cd466badc34cf529456e16d27ccb7cca7de8cfa7aa5d245d55a5363164f4", func := "anabranch/anabranchlaw20.IdealInstalls", spec := "idealInstalls", inPlace := ["math.Float64bits", "math.Float64frombits"], unfollowed := true, recurses := true, apart := false, narrowed := true }
def IdealInstallsUptoSaid : Prop := idealInstallsUptoRow.holds Try.pinned (OpenSpec.upto idealInstallsSpec)

/-- 'anabranchlaw20.IdealFalls', WHERE WHAT IT READS IS OF BULK AT MOST 1048576: true; the input reads as it did. -/
def idealFallsUptoRow : OpenClaim := { program := "ytoaapepelbbmhaa", sum := "dc82cd466badc34cf529456e16d27ccb7cca7de8cfa7aa5d245d55a5363164f4", func := "anabranch/anabranchlaw20.IdealFalls", spec := "idealFalls", inPlace := ["math.Float64bits", "math.Float64frombits"], unfollowed := true, recurses := true, apart := false, narrowed := true }
def IdealFallsUptoSaid : Prop := idealFallsUptoRow.holds Try.pinned (OpenSpec.upto idealFallsSpec)

end Rows
end Go.Proofs.Ytoaapepelbbmhaa
