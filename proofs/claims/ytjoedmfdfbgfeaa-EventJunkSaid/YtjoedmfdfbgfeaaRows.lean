/-
  No cell of these rows narrows 'for every input' (looked for: loops, veiled, ifaces, maps, wideKeys, modest, calm, conditions, laid).
  DERIVED. THE GIVEN ROWS OF THIS SEAT. 10 by the template 'for every input the law returns true; each argument reads behind the call as it read before'; 0 by the template 'total and deterministic' (their statements: YtjoedmfdfbgfeaaTotals.lean).
  GIVEN WITH THE SEED: the statements are not yours to turn. If you find one false, say at which input.
  Laid BY PROGRAM, IN A SANDBOX (cutbox-rows.mjs): the forced cells as the released guide's own fill.sh prints them over the translation c712dc6b4cdd4732… (all of the seat's roots in one cut). By AI agents, Wed Nov 11 2026. No macro, syntax, notation, axiom, sorry.
-/
import Derived.Test.YtjoedmfdfbgfeaaChecked
import GoSem.Claim
import GoSem.ClaimJoined
import GoSem.ClaimMapViews
import Derived.JoinedTies
import Derived.KernelRfl
namespace Go.Proofs.Ytjoedmfdfbgfeaa
/- THE CELL 'sum', in the pinned program and in every row, IS THE sha256 OF THE DUMP (.gsa) THAT YtjoedmfdfbgfeaaProg.lean LOADS. Nothing in Lean hashes anything: it is a label: what it is worth is what the hold of that sum in a sandbox is worth. -/
noncomputable def Try.pinned : Pinned := { name := "ytjoedmfdfbgfeaa", sum := "c712dc6b4cdd4732343b26b2087d4b834c48945c7bf4e4b46a8a6edf541823f9", checked := Try.checked }
namespace Rows
def none {H : Type} : Left H := { results := [], args := [] }

/-- 'anabranchlaw07.VectorLacks': WHATEVER THE INPUT: true; the input reads as it did. -/
def vectorLacksSpec : ChangeSpec := { name := "vectorLacks", fn := fun _ => fun
  | [d1, d2] => { results := [.lit (.bool true)], args := [d1, d2] }
  | _ => none }
def vectorLacksRow : OpenClaim := { program := "ytjoedmfdfbgfeaa", sum := "c712dc6b4cdd4732343b26b2087d4b834c48945c7bf4e4b46a8a6edf541823f9", func := "anabranch/anabranchlaw07.VectorLacks", spec := "vectorLacks", unfollowed := true, recurses := true, apart := false }
def VectorLacksSaid : Prop := vectorLacksRow.holds Try.pinned (OpenSpec.ofChange vectorLacksSpec)

/-- ITS FALSE NEIGHBOUR: 'it returns false'. Refute it at one input. -/
def vectorLacksWrong : ChangeSpec := { name := "vectorLacks", fn := fun _ => fun
  | [d1, d2] => { results := [.lit (.bool false)], args := [d1, d2] }
  | _ => none }
def VectorLacksWrongFalsely : Prop := vectorLacksRow.holds Try.pinned (OpenSpec.ofChange vectorLacksWrong)

/-- 'anabranchlaw07.VectorJoins': WHATEVER THE INPUT: true; the input reads as it did. -/
def vectorJoinsSpec : ChangeSpec := { name := "vectorJoins", fn := fun _ => fun
  | [d1, d2] => { results := [.lit (.bool true)], args := [d1, d2] }
  | _ => none }
def vectorJoinsRow : OpenClaim := { program := "ytjoedmfdfbgfeaa", sum := "c712dc6b4cdd4732343b26b2087d4b834c48945c7bf4e4b46a8a6edf541823f9", func := "anabranch/anabranchlaw07.VectorJoins", spec := "vectorJoins", unfollowed := true, recurses := true, apart := false }
def VectorJoinsSaid : Prop := vectorJoinsRow.holds Try.pinned (OpenSpec.ofChange vectorJoinsSpec)

/-- ITS FALSE NEIGHBOUR: 'it returns false'. Refute it at one input. -/
def vectorJoinsWrong : ChangeSpec := { name := "vectorJoins", fn := fun _ => fun
  | [d1, d2] => { results := [.lit (.bool false)], args := [d1, d2] }
  | _ => none }
def VectorJoinsWrongFalsely : Prop := vectorJoinsRow.holds Try.pinned (OpenSpec.ofChange vectorJoinsWrong)

/-- 'anabranchlaw07.VectorOrders': WHATEVER THE INPUT: true; the input reads as it did. -/
def vectorOrdersSpec : ChangeSpec := { name := "vectorOrders", fn := fun _ => fun
  | [d1, d2, d3] => { results := [.lit (.bool true)], args := [d1, d2, d3] }
  | _ => none }
def vectorOrdersRow : OpenClaim := { program := "ytjoedmfdfbgfeaa", sum := "c712dc6b4cdd4732343b26b2087d4b834c48945c7bf4e4b46a8a6edf541823f9", func := "anabranch/anabranchlaw07.VectorOrders", spec := "vectorOrders", unfollowed := true, recurses := true, apart := false }
def VectorOrdersSaid : Prop := vectorOrdersRow.holds Try.pinned (OpenSpec.ofChange vectorOrdersSpec)

/-- ITS FALSE NEIGHBOUR: 'it returns false'. Refute it at one input. -/
def vectorOrdersWrong : ChangeSpec := { name := "vectorOrders", fn := fun _ => fun
  | [d1, d2, d3] => { results := [.lit (.bool false)], args := [d1, d2, d3] }
  | _ => none }
def VectorOrdersWrongFalsely : Prop := vectorOrdersRow.holds Try.pinned (OpenSpec.ofChange vectorOrdersWrong)

/-- 'anabranchlaw06.EventRight': WHATEVER THE INPUT: true; the input reads as it did. -/
def eventRightSpec : ChangeSpec := { name := "eventRight", fn := fun _ => fun
  | [d1, d2] => { results := [.lit (.bool true)], args := [d1, d2] }
  | _ => none }
def eventRightRow : OpenClaim := { program := "ytjoedmfdfbgfeaa", sum := "c712dc6b4cdd4732343b26b2087d4b834c48945c7bf4e4b46a8a6edf541823f9", func := "anabranch/anabranchlaw06.EventRight", spec := "eventRight", inPlace := ["math.Float64bits"], apart := false }
def EventRightSaid : Prop := eventRightRow.holds Try.pinned (OpenSpec.ofChange eventRightSpec)

/-- ITS FALSE NEIGHBOUR: 'it returns false'. Refute it at one input. -/
def eventRightWrong : ChangeSpec := { name := "eventRight", fn := fun _ => fun
  | [d1, d2] => { results := [.lit (.bool false)], args := [d1, d2] }
  | _ => none }
def EventRightWrongFalsely : Prop := eventRightRow.holds Try.pinned (OpenSpec.ofChange eventRightWrong)

/-- 'anabranchlaw06.EventSame': WHATEVER THE INPUT: true; the input reads as it did. -/
def eventSameSpec : ChangeSpec := { name := "eventSame", fn := fun _ => fun
  | [d1, d2, d3, d4] => { results := [.lit (.bool true)], args := [d1, d2, d3, d4] }
  | _ => none }
def eventSameRow : OpenClaim := { program := "ytjoedmfdfbgfeaa", sum := "c712dc6b4cdd4732343b26b2087d4b834c48945c7bf4e4b46a8a6edf541823f9", func := "anabranch/anabranchlaw06.EventSame", spec := "eventSame", inPlace := ["math.Float64bits", "math.Float64frombits"], apart := false }
def EventSameSaid : Prop := eventSameRow.holds Try.pinned (OpenSpec.ofChange eventSameSpec)

/-- ITS FALSE NEIGHBOUR: 'it returns false'. Refute it at one input. -/
def eventSameWrong : ChangeSpec := { name := "eventSame", fn := fun _ => fun
  | [d1, d2, d3, d4] => { results := [.lit (.bool false)], args := [d1, d2, d3, d4] }
  | _ => none }
def EventSameWrongFalsely : Prop := eventSameRow.holds Try.pinned (OpenSpec.ofChange eventSameWrong)

/-- 'anabranchlaw06.EventOrders': WHATEVER THE INPUT: true; the input reads as it did. -/
def eventOrdersSpec : ChangeSpec := { name := "eventOrders", fn := fun _ => fun
  | [d1, d2, d3] => { results := [.lit (.bool true)], args := [d1, d2, d3] }
  | _ => none }
def eventOrdersRow : OpenClaim := { program := "ytjoedmfdfbgfeaa", sum := "c712dc6b4cdd4732343b26b2087d4b834c48945c7bf4e4b46a8a6edf541823f9", func := "anabranch/anabranchlaw06.EventOrders", spec := "eventOrders", inPlace := ["math.Float64bits"], apart := false }
def EventOrdersSaid : Prop := eventOrdersRow.holds Try.pinned (OpenSpec.ofChange eventOrdersSpec)

/-- ITS FALSE NEIGHBOUR: 'it returns false'. Refute it at one input. -/
def eventOrdersWrong : ChangeSpec := { name := "eventOrders", fn := fun _ => fun
  | [d1, d2, d3] => { results := [.lit (.bool false)], args := [d1, d2, d3] }
  | _ => none }
def EventOrdersWrongFalsely : Prop := eventOrdersRow.holds Try.pinned (OpenSpec.ofChange eventOrdersWrong)

/-- 'anabranchlaw07.VectorReads': WHATEVER THE INPUT: true; the input reads as it did. -/
def vectorReadsSpec : ChangeSpec := { name := "vectorReads", fn := fun _ => fun
  | [d1, d2] => { results := [.lit (.bool true)], args := [d1, d2] }
  | _ => none }
def vectorReadsRow : OpenClaim := { program := "ytjoedmfdfbgfeaa", sum := "c712dc6b4cdd4732343b26b2087d4b834c48945c7bf4e4b46a8a6edf541823f9", func := "anabranch/anabranchlaw07.VectorReads", spec := "vectorReads", unfollowed := true, recurses := true, apart := false }
def VectorReadsSaid : Prop := vectorReadsRow.holds Try.pinned (OpenSpec.ofChange vectorReadsSpec)

/-- ITS FALSE NEIGHBOUR: 'it returns false'. Refute it at one input. -/
def vectorReadsWrong : ChangeSpec := { name := "vectorReads", fn := fun _ => fun
  | [d1, d2] => { results := [.lit (.bool false)], args := [d1, d2] }
  | _ => none }
def VectorReadsWrongFalsely : Prop := vectorReadsRow.holds Try.pinned (OpenSpec.ofChange vectorReadsWrong)

/-- 'anabranchlaw07.VectorBytes': WHATEVER THE INPUT: true; the input reads as it did. -/
def vectorBytesSpec : ChangeSpec := { name := "vectorBytes", fn := fun _ => fun
  | [d1, d2] => { results := [.lit (.bool true)], args := [d1, d2] }
  | _ => none }
def vectorBytesRow : OpenClaim := { program := "ytjoedmfdfbgfeaa", sum := "c712dc6b4cdd4732343b26b2087d4b834c48945c7bf4e4b46a8a6edf541823f9", func := "anabranch/anabranchlaw07.VectorBytes", spec := "vectorBytes", unfollowed := true, recurses := true, apart := false }
def VectorBytesSaid : Prop := vectorBytesRow.holds Try.pinned (OpenSpec.ofChange vectorBytesSpec)

/-- ITS FALSE NEIGHBOUR: 'it returns false'. Refute it at one input. -/
def vectorBytesWrong : ChangeSpec := { name := "vectorBytes", fn := fun _ => fun
  | [d1, d2] => { results := [.lit (.bool false)], args := [d1, d2] }
  | _ => none }
def VectorBytesWrongFalsely : Prop := vectorBytesRow.holds Try.pinned (OpenSpec.ofChange vectorBytesWrong)

/-- 'anabranchlaw06.EventJunk': WHATEVER THE INPUT: true; the input reads as it did. -/
def eventJunkSpec : ChangeSpec := { name := "eventJunk", fn := fun _ => fun
  | [d1, d2, d3, d4, d5] => { results := [.lit (.bool true)], args := [d1, d2, d3, d4, d5] }
  | _ => none }
def eventJunkRow : OpenClaim := { program := "ytjoedmfdfbgfeaa", sum := "c712dc6b4cdd4732343b26b2087d4b834c48945c7bf4e4b46a8a6edf541823f9", func := "anabranch/anabranchlaw06.EventJunk", spec := "eventJunk", inPlace := ["math.Float64bits", "math.Float64frombits"], apart := false }
def EventJunkSaid : Prop := eventJunkRow.holds Try.pinned (OpenSpec.ofChange eventJunkSpec)

/-- ITS FALSE NEIGHBOUR: 'it returns false'. Refute it at one input. -/
def eventJunkWrong : ChangeSpec := { name := "eventJunk", fn := fun _ => fun
  | [d1, d2, d3, d4, d5] => { results := [.lit (.bool false)], args := [d1, d2, d3, d4, d5] }
  | _ => none }
def EventJunkWrongFalsely : Prop := eventJunkRow.holds Try.pinned (OpenSpec.ofChange eventJunkWrong)

/-- 'anabranchlaw06.EventBytes': WHATEVER THE INPUT: true; the input reads as it did. -/
def eventBytesSpec : ChangeSpec := { name := "eventBytes", fn := fun _ => fun
  | [d1, d2] => { results := [.lit (.bool true)], args := [d1, d2] }
  | _ => none }
def eventBytesRow : OpenClaim := { program := "ytjoedmfdfbgfeaa", sum := "c712dc6b4cdd4732343b26b2087d4b834c48945c7bf4e4b46a8a6edf541823f9", func := "anabranch/anabranchlaw06.EventBytes", spec := "eventBytes", inPlace := ["math.Float64bits", "math.Float64frombits"], apart := false }
def EventBytesSaid : Prop := eventBytesRow.holds Try.pinned (OpenSpec.ofChange eventBytesSpec)

/-- ITS FALSE NEIGHBOUR: 'it returns false'. Refute it at one input. -/
def eventBytesWrong : ChangeSpec := { name := "eventBytes", fn := fun _ => fun
  | [d1, d2] => { results := [.lit (.bool false)], args := [d1, d2] }
  | _ => none }
def EventBytesWrongFalsely : Prop := eventBytesRow.holds Try.pinned (OpenSpec.ofChange eventBytesWrong)

/- THE SECOND FORM. 'bulk': how many values and letters a reading holds, each counted each time it is reached (what is shared counts as often as it is met; a slice's spare places count too). A statement '..UptoSaid' is the law's where the arguments, and the package variables that the reading takes, are together of bulk at most 1048576: NARROWER than '..Said'. Prove '..Said' where nothing that the law and all that it calls make is longer than what came in: it says more and counts as full. Else prove '..UptoSaid'. A law counts once. -/
mutual
def uptoBulk {H : Type} : DataW H → Nat
  | .lit (.string bytes) => bytes.length + 1
  | .lit _ => 1
  | .nil => 1
  | .ptr d => uptoBulk d + 1
  | .slice elems spare => uptoBulkAll elems + uptoBulkAll spare + 1
  | .agg parts => uptoBulkAll parts + 1
  | .iface _ d => uptoBulk d + 1
  | .map entries => uptoBulkEntries entries + 1
  | .held _ => 1
def uptoBulkAll {H : Type} : List (DataW H) → Nat
  | [] => 0
  | d :: r => uptoBulk d + uptoBulkAll r
def uptoBulkEntries {H : Type} : List (Lit × DataW H) → Nat
  | [] => 0
  | x :: r => uptoBulkEntry x + uptoBulkEntries r
def uptoBulkEntry {H : Type} : Lit × DataW H → Nat
  | (.string bytes, d) => bytes.length + uptoBulk d + 1
  | (_, d) => uptoBulk d + 1
 end
def uptoSmall : (H : Type) → List (DataW H) → Bool := fun _ ds => decide (uptoBulkAll ds ≤ 1048576)
def OpenSpec.upto (s : _root_.Go.ChangeSpec) : _root_.Go.OpenSpec := { _root_.Go.OpenSpec.ofChange s with cond := some uptoSmall }

/-- 'anabranchlaw07.VectorLacks', WHERE WHAT IT READS IS OF BULK AT MOST 1048576: true; the input reads as it did. -/
def vectorLacksUptoRow : OpenClaim := { program := "ytjoedmfdfbgfeaa", sum := "c712dc6b4cdd4732343b26b2087d4b834c48945c7bf4e4b46a8a6edf541823f9", func := "anabranch/anabranchlaw07.VectorLacks", spec := "vectorLacks", unfollowed := true, recurses := true, apart := false, narrowed := true }
def VectorLacksUptoSaid : Prop := vectorLacksUptoRow.holds Try.pinned (OpenSpec.upto vectorLacksSpec)

/-- 'anabranchlaw07.VectorJoins', WHERE WHAT IT READS IS OF BULK AT MOST 1048576: true; the input reads as it did. -/
def vectorJoinsUptoRow : OpenClaim := { program := "ytjoedmfdfbgfeaa", sum := "c712dc6b4cdd4732343b26b2087d4b834c48945c7bf4e4b46a8a6edf541823f9", func := "anabranch/anabranchlaw07.VectorJoins", spec := "vectorJoins", unfollowed := true, recurses := true, apart := false, narrowed := true }
def VectorJoinsUptoSaid : Prop := vectorJoinsUptoRow.holds Try.pinned (OpenSpec.upto vectorJoinsSpec)

/-- 'anabranchlaw07.VectorOrders', WHERE WHAT IT READS IS OF BULK AT MOST 1048576: true; the input reads as it did. -/
def vectorOrdersUptoRow : OpenClaim := { program := "ytjoedmfdfbgfeaa", sum := "c712dc6b4cdd4732343b26b2087d4b834c48945c7bf4e4b46a8a6edf541823f9", func := "anabranch/anabranchlaw07.VectorOrders", spec := "vectorOrders", unfollowed := true, recurses := true, apart := false, narrowed := true }
def VectorOrdersUptoSaid : Prop := vectorOrdersUptoRow.holds Try.pinned (OpenSpec.upto vectorOrdersSpec)

/-- 'anabranchlaw06.EventRight', WHERE WHAT IT READS IS OF BULK AT MOST 1048576: true; the input reads as it did. -/
def eventRightUptoRow : OpenClaim := { program := "ytjoedmfdfbgfeaa", sum := "c712dc6b4cdd4732343b26b2087d4b834c48945c7bf4e4b46a8a6edf541823f9", func := "anabranch/anabranchlaw06.EventRight", spec := "eventRight", inPlace := ["math.Float64bits"], apart := false, narrowed := true }
def EventRightUptoSaid : Prop := eventRightUptoRow.holds Try.pinned (OpenSpec.upto eventRightSpec)

/-- 'anabranchlaw06.EventSame', WHERE WHAT IT READS IS OF BULK AT MOST 1048576: true; the input reads as it did. -/
def eventSameUptoRow : OpenClaim := { program := "ytjoedmfdfbgfeaa", sum := "c712dc6b4cdd4732343b26b2087d4b834c48945c7bf4e4b46a8a6edf541823f9", func := "anabranch/anabranchlaw06.EventSame", spec := "eventSame", inPlace := ["math.Float64bits", "math.Float64frombits"], apart := false, narrowed := true }
def EventSameUptoSaid : Prop := eventSameUptoRow.holds Try.pinned (OpenSpec.upto eventSameSpec)

/-- 'anabranchlaw06.EventOrders', WHERE WHAT IT READS IS OF BULK AT MOST 1048576: true; the input reads as it did. -/
def eventOrdersUptoRow : OpenClaim := { program := "ytjoedmfdfbgfeaa", sum := "c712dc6b4cdd4732343b26b2087d4b834c48945c7bf4e4b46a8a6edf541823f9", func := "anabranch/anabranchlaw06.EventOrders", spec := "eventOrders", inPlace := ["math.Float64bits"], apart := false, narrowed := true }
def EventOrdersUptoSaid : Prop := eventOrdersUptoRow.holds Try.pinned (OpenSpec.upto eventOrdersSpec)

/-- 'anabranchlaw07.VectorReads', WHERE WHAT IT READS IS OF BULK AT MOST 1048576: true; the input reads as it did. -/
def vectorReadsUptoRow : OpenClaim := { program := "ytjoedmfdfbgfeaa", sum := "c712dc6b4cdd4732343b26b2087d4b834c48945c7bf4e4b46a8a6edf541823f9", func := "anabranch/anabranchlaw07.VectorReads", spec := "vectorReads", unfollowed := true, recurses := true, apart := false, narrowed := true }
def VectorReadsUptoSaid : Prop := vectorReadsUptoRow.holds Try.pinned (OpenSpec.upto vectorReadsSpec)

/-- 'anabranchlaw07.VectorBytes', WHERE WHAT IT READS IS OF BULK AT MOST 1048576: true; the input reads as it did. -/
def vectorBytesUptoRow : OpenClaim := { program := "ytjoedmfdfbgfeaa", sum := "c712dc6b4cdd4732343b26b2087d4b834c48945c7bf4e4b46a8a6edf541823f9", func := "anabranch/anabranchlaw07.VectorBytes", spec := "vectorBytes", unfollowed := true, recurses := true, apart := false, narrowed := true }
def VectorBytesUptoSaid : Prop := vectorBytesUptoRow.holds Try.pinned (OpenSpec.upto vectorBytesSpec)

/-- 'anabranchlaw06.EventJunk', WHERE WHAT IT READS IS OF BULK AT MOST 1048576: true; the input reads as it did. -/
def eventJunkUptoRow : OpenClaim := { program := "ytjoedmfdfbgfeaa", sum := "c712dc6b4cdd4732343b26b2087d4b834c48945c7bf4e4b46a8a6edf541823f9", func := "anabranch/anabranchlaw06.EventJunk", spec := "eventJunk", inPlace := ["math.Float64bits", "math.Float64frombits"], apart := false, narrowed := true }
def EventJunkUptoSaid : Prop := eventJunkUptoRow.holds Try.pinned (OpenSpec.upto eventJunkSpec)

/-- 'anabranchlaw06.EventBytes', WHERE WHAT IT READS IS OF BULK AT MOST 1048576: true; the input reads as it did. -/
def eventBytesUptoRow : OpenClaim := { program := "ytjoedmfdfbgfeaa", sum := "c712dc6b4cdd4732343b26b2087d4b834c48945c7bf4e4b46a8a6edf541823f9", func := "anabranch/anabranchlaw06.EventBytes", spec := "eventBytes", inPlace := ["math.Float64bits", "math.Float64frombits"], apart := false, narrowed := true }
def EventBytesUptoSaid : Prop := eventBytesUptoRow.holds Try.pinned (OpenSpec.upto eventBytesSpec)

end Rows
end Go.Proofs.Ytjoedmfdfbgfeaa
