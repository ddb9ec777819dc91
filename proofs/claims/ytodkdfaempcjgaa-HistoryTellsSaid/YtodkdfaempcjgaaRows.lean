/-
  No cell of these rows narrows 'for every input' (looked for: loops, veiled, ifaces, maps, wideKeys, modest, calm, conditions, laid).
  DERIVED. THE GIVEN ROWS OF THIS SEAT. 5 by the template 'for every input the law returns true; each argument reads behind the call as it read before'; 0 by the template 'total and deterministic' (their statements: YtodkdfaempcjgaaTotals.lean).
  GIVEN WITH THE SEED: the statements are not yours to turn. If you find one false, say at which input.
  Laid BY PROGRAM, IN A SANDBOX (cutbox-rows.mjs): the forced cells as the released guide's own fill.sh prints them over the translation 9128204c7ba92d18… (all of the seat's roots in one cut). By AI agents, Wed Nov 11 2026. No macro, syntax, notation, axiom, sorry.
-/
import Derived.Test.YtodkdfaempcjgaaChecked
import GoSem.Claim
import GoSem.ClaimJoined
import GoSem.ClaimMapViews
import Derived.JoinedTies
import Derived.KernelRfl
namespace Go.Proofs.Ytodkdfaempcjgaa
/- THE CELL 'sum', in the pinned program and in every row, IS THE sha256 OF THE DUMP (.gsa) THAT YtodkdfaempcjgaaProg.lean LOADS. Nothing in Lean hashes anything: it is a label: what it is worth is what the hold of that sum in a sandbox is worth. -/
noncomputable def Try.pinned : Pinned := { name := "ytodkdfaempcjgaa", sum := "9128204c7ba92d18b2fdffdcb2eb9fdabbcd98b348f27a2c455092e9c83fa50c", checked := Try.checked }
namespace Rows
def none {H : Type} : Left H := { results := [], args := [] }

/-- 'anabranchlaw25.HistoryTells': WHATEVER THE INPUT: true; the input reads as it did. -/
def historyTellsSpec : ChangeSpec := { name := "historyTells", fn := fun _ => fun
  | [d1, d2, d3, d4, d5] => { results := [.lit (.bool true)], args := [d1, d2, d3, d4, d5] }
  | _ => none }
def historyTellsRow : OpenClaim := { program := "ytodkdfaempcjgaa", sum := "9128204c7ba92d18b2fdffdcb2eb9fdabbcd98b348f27a2c455092e9c83fa50c", func := "anabranch/anabranchlaw25.HistoryTells", spec := "historyTells", inPlace := ["math.Float64bits", "math.Float64frombits", "maps.clone", "slices.overlaps[int]"], unfollowed := true, recurses := true, apart := false }
def HistoryTellsSaid : Prop := historyTellsRow.holds Try.pinned (OpenSpec.ofChange historyTellsSpec)

/-- ITS FALSE NEIGHBOUR: 'it returns false'. Refute it at one input. -/
def historyTellsWrong : ChangeSpec := { name := "historyTells", fn := fun _ => fun
  | [d1, d2, d3, d4, d5] => { results := [.lit (.bool false)], args := [d1, d2, d3, d4, d5] }
  | _ => none }
def HistoryTellsWrongFalsely : Prop := historyTellsRow.holds Try.pinned (OpenSpec.ofChange historyTellsWrong)

/-- 'anabranchlaw25.HistoryConverges': WHATEVER THE INPUT: true; the input reads as it did. -/
def historyConvergesSpec : ChangeSpec := { name := "historyConverges", fn := fun _ => fun
  | [d1, d2, d3, d4] => { results := [.lit (.bool true)], args := [d1, d2, d3, d4] }
  | _ => none }
def historyConvergesRow : OpenClaim := { program := "ytodkdfaempcjgaa", sum := "9128204c7ba92d18b2fdffdcb2eb9fdabbcd98b348f27a2c455092e9c83fa50c", func := "anabranch/anabranchlaw25.HistoryConverges", spec := "historyConverges", inPlace := ["math.Float64bits", "math.Float64frombits", "maps.clone", "slices.overlaps[int]"], unfollowed := true, recurses := true, apart := false }
def HistoryConvergesSaid : Prop := historyConvergesRow.holds Try.pinned (OpenSpec.ofChange historyConvergesSpec)

/-- ITS FALSE NEIGHBOUR: 'it returns false'. Refute it at one input. -/
def historyConvergesWrong : ChangeSpec := { name := "historyConverges", fn := fun _ => fun
  | [d1, d2, d3, d4] => { results := [.lit (.bool false)], args := [d1, d2, d3, d4] }
  | _ => none }
def HistoryConvergesWrongFalsely : Prop := historyConvergesRow.holds Try.pinned (OpenSpec.ofChange historyConvergesWrong)

/-- 'anabranchlaw11.FoldCopies': WHATEVER THE INPUT: true; the input reads as it did. -/
def foldCopiesSpec : ChangeSpec := { name := "foldCopies", fn := fun _ => fun
  | [d1, d2, d3] => { results := [.lit (.bool true)], args := [d1, d2, d3] }
  | _ => none }
def foldCopiesRow : OpenClaim := { program := "ytodkdfaempcjgaa", sum := "9128204c7ba92d18b2fdffdcb2eb9fdabbcd98b348f27a2c455092e9c83fa50c", func := "anabranch/anabranchlaw11.FoldCopies", spec := "foldCopies", inPlace := ["math.Float64bits", "math.Float64frombits", "maps.clone"], unfollowed := true, recurses := true, apart := false }
def FoldCopiesSaid : Prop := foldCopiesRow.holds Try.pinned (OpenSpec.ofChange foldCopiesSpec)

/-- ITS FALSE NEIGHBOUR: 'it returns false'. Refute it at one input. -/
def foldCopiesWrong : ChangeSpec := { name := "foldCopies", fn := fun _ => fun
  | [d1, d2, d3] => { results := [.lit (.bool false)], args := [d1, d2, d3] }
  | _ => none }
def FoldCopiesWrongFalsely : Prop := foldCopiesRow.holds Try.pinned (OpenSpec.ofChange foldCopiesWrong)

/-- 'anabranchlaw11.FoldNil': WHATEVER THE INPUT: true; the input reads as it did. -/
def foldNilSpec : ChangeSpec := { name := "foldNil", fn := fun _ => fun
  | [d1, d2, d3] => { results := [.lit (.bool true)], args := [d1, d2, d3] }
  | _ => none }
def foldNilRow : OpenClaim := { program := "ytodkdfaempcjgaa", sum := "9128204c7ba92d18b2fdffdcb2eb9fdabbcd98b348f27a2c455092e9c83fa50c", func := "anabranch/anabranchlaw11.FoldNil", spec := "foldNil", inPlace := ["math.Float64bits", "math.Float64frombits", "maps.clone"], unfollowed := true, recurses := true, apart := false }
def FoldNilSaid : Prop := foldNilRow.holds Try.pinned (OpenSpec.ofChange foldNilSpec)

/-- ITS FALSE NEIGHBOUR: 'it returns false'. Refute it at one input. -/
def foldNilWrong : ChangeSpec := { name := "foldNil", fn := fun _ => fun
  | [d1, d2, d3] => { results := [.lit (.bool false)], args := [d1, d2, d3] }
  | _ => none }
def FoldNilWrongFalsely : Prop := foldNilRow.holds Try.pinned (OpenSpec.ofChange foldNilWrong)

/-- 'anabranchlaw25.HistorySame': WHATEVER THE INPUT: true; the input reads as it did. -/
def historySameSpec : ChangeSpec := { name := "historySame", fn := fun _ => fun
  | [d1, d2, d3, d4] => { results := [.lit (.bool true)], args := [d1, d2, d3, d4] }
  | _ => none }
def historySameRow : OpenClaim := { program := "ytodkdfaempcjgaa", sum := "9128204c7ba92d18b2fdffdcb2eb9fdabbcd98b348f27a2c455092e9c83fa50c", func := "anabranch/anabranchlaw25.HistorySame", spec := "historySame", inPlace := ["math.Float64bits", "math.Float64frombits", "maps.clone", "slices.overlaps[int]"], unfollowed := true, recurses := true, apart := false }
def HistorySameSaid : Prop := historySameRow.holds Try.pinned (OpenSpec.ofChange historySameSpec)

/-- ITS FALSE NEIGHBOUR: 'it returns false'. Refute it at one input. -/
def historySameWrong : ChangeSpec := { name := "historySame", fn := fun _ => fun
  | [d1, d2, d3, d4] => { results := [.lit (.bool false)], args := [d1, d2, d3, d4] }
  | _ => none }
def HistorySameWrongFalsely : Prop := historySameRow.holds Try.pinned (OpenSpec.ofChange historySameWrong)

/- THE SECOND FORM. 'bulk': how many values and letters a reading holds, each counted each time it is reached (what is shared counts as often as it is met; a slice's spare places count too). A statement '..UptoSaid' is the law's where the arguments, and the package variables that the reading takes, are together of bulk at most 1048576: NARROWER than '..Said'. Prove '..Said' where nothing that the law and all that it calls make is longer than what came in: it says more and counts as full. Else prove '..UptoSaid'. A law counts once. -/
mutual
def uptoBulk {H : Type} : DataW H → Nat
  | .lit (.string bytes) => bytes.length + 1
  | .lit _ => 1
  | .nil => 1
  | .ptr d => uptoBulk d + 1
  | .slice elems spare => uptoBulkAll elems + uptoBulkAll spare + 1
  | .agg parts => uptoBulkAll parts + 1
  | .iface _ d => uptoBulk d + 1
  | .map entries => uptoBulkEntries entries + 1
  | .held _ => 1
def uptoBulkAll {H : Type} : List (DataW H) → Nat
  | [] => 0
  | d :: r => uptoBulk d + uptoBulkAll r
def uptoBulkEntries {H : Type} : List (Lit × DataW H) → Nat
  | [] => 0
  | x :: r => uptoBulkEntry x + uptoBulkEntries r
def uptoBulkEntry {H : Type} : Lit × DataW H → Nat
  | (.string bytes, d) => bytes.length + uptoBulk d + 1
  | (_, d) => uptoBulk d + 1
 end
def uptoSmall : (H : Type) → List (DataW H) → Bool := fun _ ds => decide (uptoBulkAll ds ≤ 1048576)
def OpenSpec.upto (s : _root_.Go.ChangeSpec) : _root_.Go.OpenSpec := { _root_.Go.OpenSpec.ofChange s with cond := some uptoSmall }

/-- 'anabranchlaw25.HistoryTells', WHERE WHAT IT READS IS OF BULK AT MOST 1048576: true; the input reads as it did. -/
def historyTellsUptoRow : OpenClaim := { program := "ytodkdfaempcjgaa", sum := "9128204c7ba92d18b2fdffdcb2eb9fdabbcd98b348f27a2c455092e9c83fa50c", func := "anabranch/anabranchlaw25.HistoryTells", spec := "historyTells", inPlace := ["math.Float64bits", "math.Float64frombits", "maps.clone", "slices.overlaps[int]"], unfollowed := true, recurses := true, apart := false, narrowed := true }
def HistoryTellsUptoSaid : Prop := historyTellsUptoRow.holds Try.pinned (OpenSpec.upto historyTellsSpec)

/-- 'anabranchlaw25.HistoryConverges', WHERE WHAT IT READS IS OF BULK AT MOST 1048576: true; the input reads as it did. -/
def historyConvergesUptoRow : OpenClaim := { program := "ytodkdfaempcjgaa", sum := "9128204c7ba92d18b2fdffdcb2eb9fdabbcd98b348f27a2c455092e9c83fa50c", func := "anabranch/anabranchlaw25.HistoryConverges", spec := "historyConverges", inPlace := ["math.Float64bits", "math.Float64frombits", "maps.clone", "slices.overlaps[int]"], unfollowed := true, recurses := true, apart := false, narrowed := true }
def HistoryConvergesUptoSaid : Prop := historyConvergesUptoRow.holds Try.pinned (OpenSpec.upto historyConvergesSpec)

/-- 'anabranchlaw11.FoldCopies', WHERE WHAT IT READS IS OF BULK AT MOST 1048576: true; the input reads as it did. -/
def foldCopiesUptoRow : OpenClaim := { program := "ytodkdfaempcjgaa", sum := "9128204c7ba92d18b2fdffdcb2eb9fdabbcd98b348f27a2c455092e9c83fa50c", func := "anabranch/anabranchlaw11.FoldCopies", spec := "foldCopies", inPlace := ["math.Float64bits", "math.Float64frombits", "maps.clone"], unfollowed := true, recurses := true, apart := false, narrowed := true }
def FoldCopiesUptoSaid : Prop := foldCopiesUptoRow.holds Try.pinned (OpenSpec.upto foldCopiesSpec)

/-- 'anabranchlaw11.FoldNil', WHERE WHAT IT READS IS OF BULK AT MOST 1048576: true; the input reads as it did. -/
def foldNilUptoRow : OpenClaim := { program := "ytodkdfaempcjgaa", sum := "9128204c7ba92d18b2fdffdcb2eb9fdabbcd98b348f27a2c455092e9c83fa50c", func := "anabranch/anabranchlaw11.FoldNil", spec := "foldNil", inPlace := ["math.Float64bits", "math.Float64frombits", "maps.clone"], unfollowed := true, recurses := true, apart := false, narrowed := true }
def FoldNilUptoSaid : Prop := foldNilUptoRow.holds Try.pinned (OpenSpec.upto foldNilSpec)

/-- 'anabranchlaw25.HistorySame', WHERE WHAT IT READS IS OF BULK AT MOST 1048576: true; the input reads as it did. -/
def historySameUptoRow : OpenClaim := { program := "ytodkdfaempcjgaa", sum := "9128204c7ba92d18b2fdffdcb2eb9fdabbcd98b348f27a2c455092e9c83fa50c", func := "anabranch/anabranchlaw25.HistorySame", spec := "historySame", inPlace := ["math.Float64bits", "math.Float64frombits", "maps.clone", "slices.overlaps[int]"], unfollowed := true, recurses := true, apart := false, narrowed := true }
def HistorySameUptoSaid : Prop := historySameUptoRow.holds Try.pinned (OpenSpec.upto historySameSpec)

end Rows
end Go.Proofs.Ytodkdfaempcjgaa
