/-
  No cell of these rows narrows 'for every input' (looked for: loops, veiled, ifaces, maps, wideKeys, modest, calm, conditions, laid).
  DERIVED. THE GIVEN ROWS OF THIS SEAT. 5 by the template 'for every input the law returns true; each argument reads behind the call as it read before'; 0 by the template 'total and deterministic' (their statements: YtinknnimmpcddaaTotals.lean).
  GIVEN WITH THE SEED: the statements are not yours to turn. If you find one false, say at which input.
  Laid BY PROGRAM, IN A SANDBOX (cutbox-rows.mjs): the forced cells as the released guide's own fill.sh prints them over the translation 79c59365c29e2ff6… (all of the seat's roots in one cut). By AI agents, Wed Nov 11 2026. No macro, syntax, notation, axiom, sorry.
-/
import Derived.Test.YtinknnimmpcddaaChecked
import GoSem.Claim
import GoSem.ClaimJoined
import GoSem.ClaimMapViews
import Derived.JoinedTies
import Derived.KernelRfl
namespace Go.Proofs.Ytinknnimmpcddaa
/- THE CELL 'sum', in the pinned program and in every row, IS THE sha256 OF THE DUMP (.gsa) THAT YtinknnimmpcddaaProg.lean LOADS. Nothing in Lean hashes anything: it is a label: what it is worth is what the hold of that sum in a sandbox is worth. -/
noncomputable def Try.pinned : Pinned := { name := "ytinknnimmpcddaa", sum := "79c59365c29e2ff6d73eee493b22d012015f0918f5b537b6b156f86bf01ed3b4", checked := Try.checked }
namespace Rows
def none {H : Type} : Left H := { results := [], args := [] }

/-- 'anabranchlaw16.LetterTurned': WHATEVER THE INPUT: true; the input reads as it did. -/
def letterTurnedSpec : ChangeSpec := { name := "letterTurned", fn := fun _ => fun
  | [d1, d2, d3, d4, d5] => { results := [.lit (.bool true)], args := [d1, d2, d3, d4, d5] }
  | _ => none }
def letterTurnedRow : OpenClaim := { program := "ytinknnimmpcddaa", sum := "79c59365c29e2ff6d73eee493b22d012015f0918f5b537b6b156f86bf01ed3b4", func := "anabranch/anabranchlaw16.LetterTurned", spec := "letterTurned", inPlace := ["math.Float64bits", "math.Float64frombits"], apart := false }
def LetterTurnedSaid : Prop := letterTurnedRow.holds Try.pinned (OpenSpec.ofChange letterTurnedSpec)

/-- ITS FALSE NEIGHBOUR: 'it returns false'. Refute it at one input. -/
def letterTurnedWrong : ChangeSpec := { name := "letterTurned", fn := fun _ => fun
  | [d1, d2, d3, d4, d5] => { results := [.lit (.bool false)], args := [d1, d2, d3, d4, d5] }
  | _ => none }
def LetterTurnedWrongFalsely : Prop := letterTurnedRow.holds Try.pinned (OpenSpec.ofChange letterTurnedWrong)

/-- 'anabranchlaw16.LetterJunk': WHATEVER THE INPUT: true; the input reads as it did. -/
def letterJunkSpec : ChangeSpec := { name := "letterJunk", fn := fun _ => fun
  | [d1, d2] => { results := [.lit (.bool true)], args := [d1, d2] }
  | _ => none }
def letterJunkRow : OpenClaim := { program := "ytinknnimmpcddaa", sum := "79c59365c29e2ff6d73eee493b22d012015f0918f5b537b6b156f86bf01ed3b4", func := "anabranch/anabranchlaw16.LetterJunk", spec := "letterJunk", inPlace := ["math.Float64bits", "math.Float64frombits"], apart := false }
def LetterJunkSaid : Prop := letterJunkRow.holds Try.pinned (OpenSpec.ofChange letterJunkSpec)

/-- ITS FALSE NEIGHBOUR: 'it returns false'. Refute it at one input. -/
def letterJunkWrong : ChangeSpec := { name := "letterJunk", fn := fun _ => fun
  | [d1, d2] => { results := [.lit (.bool false)], args := [d1, d2] }
  | _ => none }
def LetterJunkWrongFalsely : Prop := letterJunkRow.holds Try.pinned (OpenSpec.ofChange letterJunkWrong)

/-- 'anabranchlaw10.ManifestErrs': WHATEVER THE INPUT: true; the input reads as it did. -/
def manifestErrsSpec : ChangeSpec := { name := "manifestErrs", fn := fun _ => fun
  | [d1, d2, d3] => { results := [.lit (.bool true)], args := [d1, d2, d3] }
  | _ => none }
def manifestErrsRow : OpenClaim := { program := "ytinknnimmpcddaa", sum := "79c59365c29e2ff6d73eee493b22d012015f0918f5b537b6b156f86bf01ed3b4", func := "anabranch/anabranchlaw10.ManifestErrs", spec := "manifestErrs", unfollowed := true, recurses := true, apart := false }
def ManifestErrsSaid : Prop := manifestErrsRow.holds Try.pinned (OpenSpec.ofChange manifestErrsSpec)

/-- ITS FALSE NEIGHBOUR: 'it returns false'. Refute it at one input. -/
def manifestErrsWrong : ChangeSpec := { name := "manifestErrs", fn := fun _ => fun
  | [d1, d2, d3] => { results := [.lit (.bool false)], args := [d1, d2, d3] }
  | _ => none }
def ManifestErrsWrongFalsely : Prop := manifestErrsRow.holds Try.pinned (OpenSpec.ofChange manifestErrsWrong)

/-- 'anabranchlaw10.ManifestBytes': WHATEVER THE INPUT: true; the input reads as it did. -/
def manifestBytesSpec : ChangeSpec := { name := "manifestBytes", fn := fun _ => fun
  | [d1, d2, d3, d4, d5] => { results := [.lit (.bool true)], args := [d1, d2, d3, d4, d5] }
  | _ => none }
def manifestBytesRow : OpenClaim := { program := "ytinknnimmpcddaa", sum := "79c59365c29e2ff6d73eee493b22d012015f0918f5b537b6b156f86bf01ed3b4", func := "anabranch/anabranchlaw10.ManifestBytes", spec := "manifestBytes", unfollowed := true, recurses := true, apart := false }
def ManifestBytesSaid : Prop := manifestBytesRow.holds Try.pinned (OpenSpec.ofChange manifestBytesSpec)

/-- ITS FALSE NEIGHBOUR: 'it returns false'. Refute it at one input. -/
def manifestBytesWrong : ChangeSpec := { name := "manifestBytes", fn := fun _ => fun
  | [d1, d2, d3, d4, d5] => { results := [.lit (.bool false)], args := [d1, d2, d3, d4, d5] }
  | _ => none }
def ManifestBytesWrongFalsely : Prop := manifestBytesRow.holds Try.pinned (OpenSpec.ofChange manifestBytesWrong)

/-- 'anabranchlaw10.ManifestSwaps': WHATEVER THE INPUT: true; the input reads as it did. -/
def manifestSwapsSpec : ChangeSpec := { name := "manifestSwaps", fn := fun _ => fun
  | [d1, d2, d3, d4, d5] => { results := [.lit (.bool true)], args := [d1, d2, d3, d4, d5] }
  | _ => none }
def manifestSwapsRow : OpenClaim := { program := "ytinknnimmpcddaa", sum := "79c59365c29e2ff6d73eee493b22d012015f0918f5b537b6b156f86bf01ed3b4", func := "anabranch/anabranchlaw10.ManifestSwaps", spec := "manifestSwaps", unfollowed := true, recurses := true, apart := false }
def ManifestSwapsSaid : Prop := manifestSwapsRow.holds Try.pinned (OpenSpec.ofChange manifestSwapsSpec)

/-- ITS FALSE NEIGHBOUR: 'it returns false'. Refute it at one input. -/
def manifestSwapsWrong : ChangeSpec := { name := "manifestSwaps", fn := fun _ => fun
  | [d1, d2, d3, d4, d5] => { results := [.lit (.bool false)], args := [d1, d2, d3, d4, d5] }
  | _ => none }
def ManifestSwapsWrongFalsely : Prop := manifestSwapsRow.holds Try.pinned (OpenSpec.ofChange manifestSwapsWrong)

/- THE SECOND FORM. 'bulk': how many values and letters a reading holds, each counted each time it is reached (what is shared counts as often as it is met; a slice's spare places count too). A statement '..UptoSaid' is the law's where the arguments, and the package variables that the reading takes, are together of bulk at most 1048576: NARROWER than '..Said'. Prove '..Said' where nothing that the law and all that it calls make is longer than what came in: it says more and counts as full. Else prove '..UptoSaid'. A law counts once. -/
mutual
def uptoBulk {H : Type} : DataW H → Nat
  | .lit (.string bytes) => bytes.length + 1
  | .lit _ => 1
  | .nil => 1
  | .ptr d => uptoBulk d + 1
  | .slice elems spare => uptoBulkAll elems + uptoBulkAll spare + 1
  | .agg parts => uptoBulkAll parts + 1
  | .iface _ d => uptoBulk d + 1
  | .map entries => uptoBulkEntries entries + 1
  | .held _ => 1
def uptoBulkAll {H : Type} : List (DataW H) → Nat
  | [] => 0
  | d :: r => uptoBulk d + uptoBulkAll r
def uptoBulkEntries {H : Type} : List (Lit × DataW H) → Nat
  | [] => 0
  | x :: r => uptoBulkEntry x + uptoBulkEntries r
def uptoBulkEntry {H : Type} : Lit × DataW H → Nat
  | (.string bytes, d) => bytes.length + uptoBulk d + 1
  | (_, d) => uptoBulk d + 1
 end
def uptoSmall : (H : Type) → List (DataW H) → Bool := fun _ ds => decide (uptoBulkAll ds ≤ 1048576)
def OpenSpec.upto (s : _root_.Go.ChangeSpec) : _root_.Go.OpenSpec := { _root_.Go.OpenSpec.ofChange s with cond := some uptoSmall }

/-- 'anabranchlaw16.LetterTurned', WHERE WHAT IT READS IS OF BULK AT MOST 1048576: true; the input reads as it did. -/
def letterTurnedUptoRow : OpenClaim := { program := "ytinknnimmpcddaa", sum := "79c59365c29e2ff6d73eee493b22d012015f0918f5b537b6b156f86bf01ed3b4", func := "anabranch/anabranchlaw16.LetterTurned", spec := "letterTurned", inPlace := ["math.Float64bits", "math.Float64frombits"], apart := false, narrowed := true }
def LetterTurnedUptoSaid : Prop := letterTurnedUptoRow.holds Try.pinned (OpenSpec.upto letterTurnedSpec)

/-- 'anabranchlaw16.LetterJunk', WHERE WHAT IT READS IS OF BULK AT MOST 1048576: true; the input reads as it did. -/
def letterJunkUptoRow : OpenClaim := { program := "ytinknnimmpcddaa", sum := "79c59365c29e2ff6d73eee493b22d012015f0918f5b537b6b156f86bf01ed3b4", func := "anabranch/anabranchlaw16.LetterJunk", spec := "letterJunk", inPlace := ["math.Float64bits", "math.Float64frombits"], apart := false, narrowed := true }
def LetterJunkUptoSaid : Prop := letterJunkUptoRow.holds Try.pinned (OpenSpec.upto letterJunkSpec)

/-- 'anabranchlaw10.ManifestErrs', WHERE WHAT IT READS IS OF BULK AT MOST 1048576: true; the input reads as it did. -/
def manifestErrsUptoRow : OpenClaim := { program := "ytinknnimmpcddaa", sum := "79c59365c29e2ff6d73eee493b22d012015f0918f5b537b6b156f86bf01ed3b4", func := "anabranch/anabranchlaw10.ManifestErrs", spec := "manifestErrs", unfollowed := true, recurses := true, apart := false, narrowed := true }
def ManifestErrsUptoSaid : Prop := manifestErrsUptoRow.holds Try.pinned (OpenSpec.upto manifestErrsSpec)

/-- 'anabranchlaw10.ManifestBytes', WHERE WHAT IT READS IS OF BULK AT MOST 1048576: true; the input reads as it did. -/
def manifestBytesUptoRow : OpenClaim := { program := "ytinknnimmpcddaa", sum := "79c59365c29e2ff6d73eee493b22d012015f0918f5b537b6b156f86bf01ed3b4", func := "anabranch/anabranchlaw10.ManifestBytes", spec := "manifestBytes", unfollowed := true, recurses := true, apart := false, narrowed := true }
def ManifestBytesUptoSaid : Prop := manifestBytesUptoRow.holds Try.pinned (OpenSpec.upto manifestBytesSpec)

/-- 'anabranchlaw10.ManifestSwaps', WHERE WHAT IT READS IS OF BULK AT MOST 1048576: true; the input reads as it did. -/
def manifestSwapsUptoRow : OpenClaim := { program := "ytinknnimmpcddaa", sum := "79c59365c29e2ff6d73eee493b22d012015f0918f5b537b6b156f86bf01ed3b4", func := "anabranch/anabranchlaw10.ManifestSwaps", spec := "manifestSwaps", unfollowed := true, recurses := true, apart := false, narrowed := true }
def ManifestSwapsUptoSaid : Prop := manifestSwapsUptoRow.holds Try.pinned (OpenSpec.upto manifestSwapsSpec)

end Rows
end Go.Proofs.Ytinknnimmpcddaa
