/-
  No cell of these rows narrows 'for every input' (looked for: loops, veiled, ifaces, maps, wideKeys, modest, calm, conditions, laid).
  DERIVED. THE GIVEN ROWS OF THIS SEAT. 5 by the template 'for every input the law returns true; each argument reads behind the call as it read before'; 0 by the template 'total and deterministic' (their statements: YtnbacinpmfjpnaaTotals.lean).
  GIVEN WITH THE SEED: the statements are not yours to turn. If you find one false, say at which input.
  Laid BY PROGRAM, IN A SANDBOX (cutbox-rows.mjs): the forced cells as the released guide's own fill.sh prints them over the translation 778257b947238c15… (all of the seat's roots in one cut). By AI agents, Wed Nov 11 2026. No macro, syntax, notation, axiom, sorry.
-/
import Derived.Test.YtnbacinpmfjpnaaChecked
import GoSem.Claim
import GoSem.ClaimJoined
import GoSem.ClaimMapViews
import Derived.JoinedTies
import Derived.KernelRfl
namespace Go.Proofs.Ytnbacinpmfjpnaa
/- THE CELL 'sum', in the pinned program and in every row, IS THE sha256 OF THE DUMP (.gsa) THAT YtnbacinpmfjpnaaProg.lean LOADS. Nothing in Lean hashes anything: it is a label: what it is worth is what the hold of that sum in a sandbox is worth. -/
noncomputable def Try.pinned : Pinned := { name := "ytnbacinpmfjpnaa", sum := "778257b947238c157d2e0744f699afa71386114c054c49416c765b474a655d38", checked := Try.checked }
namespace Rows
def none {H : Type} : Left H := { results := [], args := [] }

/-- 'anabranchlaw12.OrderSeeks': WHATEVER THE INPUT: true; the input reads as it did. -/
def orderSeeksSpec : ChangeSpec := { name := "orderSeeks", fn := fun _ => fun
  | [d1, d2, d3, d4, d5] => { results := [.lit (.bool true)], args := [d1, d2, d3, d4, d5] }
  | _ => none }
def orderSeeksRow : OpenClaim := { program := "ytnbacinpmfjpnaa", sum := "778257b947238c157d2e0744f699afa71386114c054c49416c765b474a655d38", func := "anabranch/anabranchlaw12.OrderSeeks", spec := "orderSeeks", inPlace := ["math.Float64bits"], unfollowed := true, recurses := true, apart := false }
def OrderSeeksSaid : Prop := orderSeeksRow.holds Try.pinned (OpenSpec.ofChange orderSeeksSpec)

/-- ITS FALSE NEIGHBOUR: 'it returns false'. Refute it at one input. -/
def orderSeeksWrong : ChangeSpec := { name := "orderSeeks", fn := fun _ => fun
  | [d1, d2, d3, d4, d5] => { results := [.lit (.bool false)], args := [d1, d2, d3, d4, d5] }
  | _ => none }
def OrderSeeksWrongFalsely : Prop := orderSeeksRow.holds Try.pinned (OpenSpec.ofChange orderSeeksWrong)

/-- 'anabranchlaw12.OrderRanges': WHATEVER THE INPUT: true; the input reads as it did. -/
def orderRangesSpec : ChangeSpec := { name := "orderRanges", fn := fun _ => fun
  | [d1, d2, d3, d4, d5] => { results := [.lit (.bool true)], args := [d1, d2, d3, d4, d5] }
  | _ => none }
def orderRangesRow : OpenClaim := { program := "ytnbacinpmfjpnaa", sum := "778257b947238c157d2e0744f699afa71386114c054c49416c765b474a655d38", func := "anabranch/anabranchlaw12.OrderRanges", spec := "orderRanges", inPlace := ["math.Float64bits"], unfollowed := true, recurses := true, apart := false }
def OrderRangesSaid : Prop := orderRangesRow.holds Try.pinned (OpenSpec.ofChange orderRangesSpec)

/-- ITS FALSE NEIGHBOUR: 'it returns false'. Refute it at one input. -/
def orderRangesWrong : ChangeSpec := { name := "orderRanges", fn := fun _ => fun
  | [d1, d2, d3, d4, d5] => { results := [.lit (.bool false)], args := [d1, d2, d3, d4, d5] }
  | _ => none }
def OrderRangesWrongFalsely : Prop := orderRangesRow.holds Try.pinned (OpenSpec.ofChange orderRangesWrong)

/-- 'anabranchlaw12.OrderRights': WHATEVER THE INPUT: true; the input reads as it did. -/
def orderRightsSpec : ChangeSpec := { name := "orderRights", fn := fun _ => fun
  | [d1, d2] => { results := [.lit (.bool true)], args := [d1, d2] }
  | _ => none }
def orderRightsRow : OpenClaim := { program := "ytnbacinpmfjpnaa", sum := "778257b947238c157d2e0744f699afa71386114c054c49416c765b474a655d38", func := "anabranch/anabranchlaw12.OrderRights", spec := "orderRights", unfollowed := true, recurses := true, apart := false }
def OrderRightsSaid : Prop := orderRightsRow.holds Try.pinned (OpenSpec.ofChange orderRightsSpec)

/-- ITS FALSE NEIGHBOUR: 'it returns false'. Refute it at one input. -/
def orderRightsWrong : ChangeSpec := { name := "orderRights", fn := fun _ => fun
  | [d1, d2] => { results := [.lit (.bool false)], args := [d1, d2] }
  | _ => none }
def OrderRightsWrongFalsely : Prop := orderRightsRow.holds Try.pinned (OpenSpec.ofChange orderRightsWrong)

/-- 'anabranchlaw12.OrderMerges': WHATEVER THE INPUT: true; the input reads as it did. -/
def orderMergesSpec : ChangeSpec := { name := "orderMerges", fn := fun _ => fun
  | [d1, d2] => { results := [.lit (.bool true)], args := [d1, d2] }
  | _ => none }
def orderMergesRow : OpenClaim := { program := "ytnbacinpmfjpnaa", sum := "778257b947238c157d2e0744f699afa71386114c054c49416c765b474a655d38", func := "anabranch/anabranchlaw12.OrderMerges", spec := "orderMerges", inPlace := ["math.Float64bits"], unfollowed := true, recurses := true, apart := false }
def OrderMergesSaid : Prop := orderMergesRow.holds Try.pinned (OpenSpec.ofChange orderMergesSpec)

/-- ITS FALSE NEIGHBOUR: 'it returns false'. Refute it at one input. -/
def orderMergesWrong : ChangeSpec := { name := "orderMerges", fn := fun _ => fun
  | [d1, d2] => { results := [.lit (.bool false)], args := [d1, d2] }
  | _ => none }
def OrderMergesWrongFalsely : Prop := orderMergesRow.holds Try.pinned (OpenSpec.ofChange orderMergesWrong)

/-- 'anabranchlaw12.OrderCounts': WHATEVER THE INPUT: true; the input reads as it did. -/
def orderCountsSpec : ChangeSpec := { name := "orderCounts", fn := fun _ => fun
  | [d1, d2, d3, d4] => { results := [.lit (.bool true)], args := [d1, d2, d3, d4] }
  | _ => none }
def orderCountsRow : OpenClaim := { program := "ytnbacinpmfjpnaa", sum := "778257b947238c157d2e0744f699afa71386114c054c49416c765b474a655d38", func := "anabranch/anabranchlaw12.OrderCounts", spec := "orderCounts", unfollowed := true, recurses := true, apart := false }
def OrderCountsSaid : Prop := orderCountsRow.holds Try.pinned (OpenSpec.ofChange orderCountsSpec)

/-- ITS FALSE NEIGHBOUR: 'it returns false'. Refute it at one input. -/
def orderCountsWrong : ChangeSpec := { name := "orderCounts", fn := fun _ => fun
  | [d1, d2, d3, d4] => { results := [.lit (.bool false)], args := [d1, d2, d3, d4] }
  | _ => none }
def OrderCountsWrongFalsely : Prop := orderCountsRow.holds Try.pinned (OpenSpec.ofChange orderCountsWrong)

/- THE SECOND FORM. 'bulk': how many values and letters a reading holds, each counted each time it is reached (what is shared counts as often as it is met; a slice's spare places count too). A statement '..UptoSaid' is the law's where the arguments, and the package variables that the reading takes, are together of bulk at most 1048576: NARROWER than '..Said'. Prove '..Said' where nothing that the law and all that it calls make is longer than what came in: it says more and counts as full. Else prove '..UptoSaid'. A law counts once. -/
mutual
def uptoBulk {H : Type} : DataW H → Nat
  | .lit (.string bytes) => bytes.length + 1
  | .lit _ => 1
  | .nil => 1
  | .ptr d => uptoBulk d + 1
  | .slice elems spare => uptoBulkAll elems + uptoBulkAll spare + 1
  | .agg parts => uptoBulkAll parts + 1
  | .iface _ d => uptoBulk d + 1
  | .map entries => uptoBulkEntries entries + 1
  | .held _ => 1
def uptoBulkAll {H : Type} : List (DataW H) → Nat
  | [] => 0
  | d :: r => uptoBulk d + uptoBulkAll r
def uptoBulkEntries {H : Type} : List (Lit × DataW H) → Nat
  | [] => 0
  | x :: r => uptoBulkEntry x + uptoBulkEntries r
def uptoBulkEntry {H : Type} : Lit × DataW H → Nat
  | (.string bytes, d) => bytes.length + uptoBulk d + 1
  | (_, d) => uptoBulk d + 1
 end
def uptoSmall : (H : Type) → List (DataW H) → Bool := fun _ ds => decide (uptoBulkAll ds ≤ 1048576)
def OpenSpec.upto (s : _root_.Go.ChangeSpec) : _root_.Go.OpenSpec := { _root_.Go.OpenSpec.ofChange s with cond := some uptoSmall }

/-- 'anabranchlaw12.OrderSeeks', WHERE WHAT IT READS IS OF BULK AT MOST 1048576: true; the input reads as it did. -/
def orderSeeksUptoRow : OpenClaim := { program := "ytnbacinpmfjpnaa", sum := "778257b947238c157d2e0744f699afa71386114c054c49416c765b474a655d38", func := "anabranch/anabranchlaw12.OrderSeeks", spec := "orderSeeks", inPlace := ["math.Float64bits"], unfollowed := true, recurses := true, apart := false, narrowed := true }
def OrderSeeksUptoSaid : Prop := orderSeeksUptoRow.holds Try.pinned (OpenSpec.upto orderSeeksSpec)

/-- 'anabranchlaw12.OrderRanges', WHERE WHAT IT READS IS OF BULK AT MOST 1048576: true; the input reads as it did. -/
def orderRangesUptoRow : OpenClaim := { program := "ytnbacinpmfjpnaa", sum := "778257b947238c157d2e0744f699afa71386114c054c49416c765b474a655d38", func := "anabranch/anabranchlaw12.OrderRanges", spec := "orderRanges", inPlace := ["math.Float64bits"], unfollowed := true, recurses := true, apart := false, narrowed := true }
def OrderRangesUptoSaid : Prop := orderRangesUptoRow.holds Try.pinned (OpenSpec.upto orderRangesSpec)

/-- 'anabranchlaw12.OrderRights', WHERE WHAT IT READS IS OF BULK AT MOST 1048576: true; the input reads as it did. -/
def orderRightsUptoRow : OpenClaim := { program := "ytnbacinpmfjpnaa", sum := "778257b947238c157d2e0744f699afa71386114c054c49416c765b474a655d38", func := "anabranch/anabranchlaw12.OrderRights", spec := "orderRights", unfollowed := true, recurses := true, apart := false, narrowed := true }
def OrderRightsUptoSaid : Prop := orderRightsUptoRow.holds Try.pinned (OpenSpec.upto orderRightsSpec)

/-- 'anabranchlaw12.OrderMerges', WHERE WHAT IT READS IS OF BULK AT MOST 1048576: true; the input reads as it did. -/
def orderMergesUptoRow : OpenClaim := { program := "ytnbacinpmfjpnaa", sum := "778257b947238c157d2e0744f699afa71386114c054c49416c765b474a655d38", func := "anabranch/anabranchlaw12.OrderMerges", spec := "orderMerges", inPlace := ["math.Float64bits"], unfollowed := true, recurses := true, apart := false, narrowed := true }
def OrderMergesUptoSaid : Prop := orderMergesUptoRow.holds Try.pinned (OpenSpec.upto orderMergesSpec)

/-- 'anabranchlaw12.OrderCounts', WHERE WHAT IT READS IS OF BULK AT MOST 1048576: true; the input reads as it did. -/
def orderCountsUptoRow : OpenClaim := { program := "ytnbacinpmfjpnaa", sum := "778257b947238c157d2e0744f699afa71386114c054c49416c765b474a655d38", func := "anabranch/anabranchlaw12.OrderCounts", spec := "orderCounts", unfollowed := true, recurses := true, apart := false, narrowed := true }
def OrderCountsUptoSaid : Prop := orderCountsUptoRow.holds Try.pinned (OpenSpec.upto orderCountsSpec)

end Rows
end Go.Proofs.Ytnbacinpmfjpnaa
