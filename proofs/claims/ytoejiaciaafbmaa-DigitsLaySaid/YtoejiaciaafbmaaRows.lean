/-
  No cell of these rows narrows 'for every input' (looked for: loops, veiled, ifaces, maps, wideKeys, modest, calm, conditions, laid).
  DERIVED. THE GIVEN ROWS OF THIS SEAT. 7 by the template 'for every input the law returns true; each argument reads behind the call as it read before'; 0 by the template 'total and deterministic' (their statements: YtoejiaciaafbmaaTotals.lean).
  GIVEN WITH THE SEED: the statements are not yours to turn. If you find one false, say at which input.
  Laid BY PROGRAM, IN A SANDBOX (cutbox-rows.mjs): the forced cells as the released guide's own fill.sh prints them over the translation 305a92f0a1d35059… (all of the seat's roots in one cut). By AI agents, Wed Nov 11 2026. No macro, syntax, notation, axiom, sorry.
-/
import Derived.Test.YtoejiaciaafbmaaChecked
import GoSem.Claim
import GoSem.ClaimJoined
import GoSem.ClaimMapViews
import Derived.JoinedTies
import Derived.KernelRfl
namespace Go.Proofs.Ytoejiaciaafbmaa
/- THE CELL 'sum', in the pinned program and in every row, IS THE sha256 OF THE DUMP (.gsa) THAT YtoejiaciaafbmaaProg.lean LOADS. Nothing in Lean hashes anything: it is a label: what it is worth is what the hold of that sum in a sandbox is worth. -/
noncomputable def Try.pinned : Pinned := { name := "ytoejiaciaafbmaa", sum := "305a92f0a1d350594356b6dd0296a90fd657cb4e0f12971474927f3332731ee3", checked := Try.checked }
namespace Rows
def none {H : Type} : Left H := { results := [], args := [] }

/-- 'anabranchlaw03.CheckSums': WHATEVER THE INPUT: true; the input reads as it did. -/
def checkSumsSpec : ChangeSpec := { name := "checkSums", fn := fun _ => fun
  | [d] => { results := [.lit (.bool true)], args := [d] }
  | _ => none }
def checkSumsRow : OpenClaim := { program := "ytoejiaciaafbmaa", sum := "305a92f0a1d350594356b6dd0296a90fd657cb4e0f12971474927f3332731ee3", func := "anabranch/anabranchlaw03.CheckSums", spec := "checkSums", apart := false }
def CheckSumsSaid : Prop := checkSumsRow.holds Try.pinned (OpenSpec.ofChange checkSumsSpec)

/-- ITS FALSE NEIGHBOUR: 'it returns false'. Refute it at one input. -/
def checkSumsWrong : ChangeSpec := { name := "checkSums", fn := fun _ => fun
  | [d] => { results := [.lit (.bool false)], args := [d] }
  | _ => none }
def CheckSumsWrongFalsely : Prop := checkSumsRow.holds Try.pinned (OpenSpec.ofChange checkSumsWrong)

/-- 'anabranchlaw02.DigitsFixed': WHATEVER THE INPUT: true; the input reads as it did. -/
def digitsFixedSpec : ChangeSpec := { name := "digitsFixed", fn := fun _ => fun
  | [d1, d2] => { results := [.lit (.bool true)], args := [d1, d2] }
  | _ => none }
def digitsFixedRow : OpenClaim := { program := "ytoejiaciaafbmaa", sum := "305a92f0a1d350594356b6dd0296a90fd657cb4e0f12971474927f3332731ee3", func := "anabranch/anabranchlaw02.DigitsFixed", spec := "digitsFixed", apart := false }
def DigitsFixedSaid : Prop := digitsFixedRow.holds Try.pinned (OpenSpec.ofChange digitsFixedSpec)

/-- ITS FALSE NEIGHBOUR: 'it returns false'. Refute it at one input. -/
def digitsFixedWrong : ChangeSpec := { name := "digitsFixed", fn := fun _ => fun
  | [d1, d2] => { results := [.lit (.bool false)], args := [d1, d2] }
  | _ => none }
def DigitsFixedWrongFalsely : Prop := digitsFixedRow.holds Try.pinned (OpenSpec.ofChange digitsFixedWrong)

/-- 'anabranchlaw02.DigitsLay': WHATEVER THE INPUT: true; the input reads as it did. -/
def digitsLaySpec : ChangeSpec := { name := "digitsLay", fn := fun _ => fun
  | [d1, d2, d3] => { results := [.lit (.bool true)], args := [d1, d2, d3] }
  | _ => none }
def digitsLayRow : OpenClaim := { program := "ytoejiaciaafbmaa", sum := "305a92f0a1d350594356b6dd0296a90fd657cb4e0f12971474927f3332731ee3", func := "anabranch/anabranchlaw02.DigitsLay", spec := "digitsLay", apart := false }
def DigitsLaySaid : Prop := digitsLayRow.holds Try.pinned (OpenSpec.ofChange digitsLaySpec)

/-- ITS FALSE NEIGHBOUR: 'it returns false'. Refute it at one input. -/
def digitsLayWrong : ChangeSpec := { name := "digitsLay", fn := fun _ => fun
  | [d1, d2, d3] => { results := [.lit (.bool false)], args := [d1, d2, d3] }
  | _ => none }
def DigitsLayWrongFalsely : Prop := digitsLayRow.holds Try.pinned (OpenSpec.ofChange digitsLayWrong)

/-- 'anabranchlaw03.CheckOpens': WHATEVER THE INPUT: true; the input reads as it did. -/
def checkOpensSpec : ChangeSpec := { name := "checkOpens", fn := fun _ => fun
  | [d1, d2, d3] => { results := [.lit (.bool true)], args := [d1, d2, d3] }
  | _ => none }
def checkOpensRow : OpenClaim := { program := "ytoejiaciaafbmaa", sum := "305a92f0a1d350594356b6dd0296a90fd657cb4e0f12971474927f3332731ee3", func := "anabranch/anabranchlaw03.CheckOpens", spec := "checkOpens", apart := false }
def CheckOpensSaid : Prop := checkOpensRow.holds Try.pinned (OpenSpec.ofChange checkOpensSpec)

/-- ITS FALSE NEIGHBOUR: 'it returns false'. Refute it at one input. -/
def checkOpensWrong : ChangeSpec := { name := "checkOpens", fn := fun _ => fun
  | [d1, d2, d3] => { results := [.lit (.bool false)], args := [d1, d2, d3] }
  | _ => none }
def CheckOpensWrongFalsely : Prop := checkOpensRow.holds Try.pinned (OpenSpec.ofChange checkOpensWrong)

/-- 'anabranchlaw03.CheckTurns': WHATEVER THE INPUT: true; the input reads as it did. -/
def checkTurnsSpec : ChangeSpec := { name := "checkTurns", fn := fun _ => fun
  | [d1, d2, d3, d4] => { results := [.lit (.bool true)], args := [d1, d2, d3, d4] }
  | _ => none }
def checkTurnsRow : OpenClaim := { program := "ytoejiaciaafbmaa", sum := "305a92f0a1d350594356b6dd0296a90fd657cb4e0f12971474927f3332731ee3", func := "anabranch/anabranchlaw03.CheckTurns", spec := "checkTurns", apart := false }
def CheckTurnsSaid : Prop := checkTurnsRow.holds Try.pinned (OpenSpec.ofChange checkTurnsSpec)

/-- ITS FALSE NEIGHBOUR: 'it returns false'. Refute it at one input. -/
def checkTurnsWrong : ChangeSpec := { name := "checkTurns", fn := fun _ => fun
  | [d1, d2, d3, d4] => { results := [.lit (.bool false)], args := [d1, d2, d3, d4] }
  | _ => none }
def CheckTurnsWrongFalsely : Prop := checkTurnsRow.holds Try.pinned (OpenSpec.ofChange checkTurnsWrong)

/-- 'anabranchlaw03.CheckAlls': WHATEVER THE INPUT: true; the input reads as it did. -/
def checkAllsSpec : ChangeSpec := { name := "checkAlls", fn := fun _ => fun
  | [d1, d2, d3] => { results := [.lit (.bool true)], args := [d1, d2, d3] }
  | _ => none }
def checkAllsRow : OpenClaim := { program := "ytoejiaciaafbmaa", sum := "305a92f0a1d350594356b6dd0296a90fd657cb4e0f12971474927f3332731ee3", func := "anabranch/anabranchlaw03.CheckAlls", spec := "checkAlls", apart := false }
def CheckAllsSaid : Prop := checkAllsRow.holds Try.pinned (OpenSpec.ofChange checkAllsSpec)

/-- ITS FALSE NEIGHBOUR: 'it returns false'. Refute it at one input. -/
def checkAllsWrong : ChangeSpec := { name := "checkAlls", fn := fun _ => fun
  | [d1, d2, d3] => { results := [.lit (.bool false)], args := [d1, d2, d3] }
  | _ => none }
def CheckAllsWrongFalsely : Prop := checkAllsRow.holds Try.pinned (OpenSpec.ofChange checkAllsWrong)

/-- 'anabranchlaw03.CheckWraps': WHATEVER THE INPUT: true; the input reads as it did. -/
def checkWrapsSpec : ChangeSpec := { name := "checkWraps", fn := fun _ => fun
  | [d1, d2] => { results := [.lit (.bool true)], args := [d1, d2] }
  | _ => none }
def checkWrapsRow : OpenClaim := { program := "ytoejiaciaafbmaa", sum := "305a92f0a1d350594356b6dd0296a90fd657cb4e0f12971474927f3332731ee3", func := "anabranch/anabranchlaw03.CheckWraps", spec := "checkWraps", apart := false }
def CheckWrapsSaid : Prop := checkWrapsRow.holds Try.pinned (OpenSpec.ofChange checkWrapsSpec)

/-- ITS FALSE NEIGHBOUR: 'it returns false'. Refute it at one input. -/
def checkWrapsWrong : ChangeSpec := { name := "checkWraps", fn := fun _ => fun
  | [d1, d2] => { results := [.lit (.bool false)], args := [d1, d2] }
  | _ => none }
def CheckWrapsWrongFalsely : Prop := checkWrapsRow.holds Try.pinned (OpenSpec.ofChange checkWrapsWrong)

/- THE SECOND FORM. 'bulk': how many values and letters a reading holds, each counted each time it is reached (what is shared counts as often as it is met; a slice's spare places count too). A statement '..UptoSaid' is the law's where the arguments, and the package variables that the reading takes, are together of bulk at most 1048576: NARROWER than '..Said'. Prove '..Said' where nothing that the law and all that it calls make is longer than what came in: it says more and counts as full. Else prove '..UptoSaid'. A law counts once. -/
mutual
def uptoBulk {H : Type} : DataW H → Nat
  | .lit (.string bytes) => bytes.length + 1
  | .lit _ => 1
  | .nil => 1
  | .ptr d => uptoBulk d + 1
  | .slice elems spare => uptoBulkAll elems + uptoBulkAll spare + 1
  | .agg parts => uptoBulkAll parts + 1
  | .iface _ d => uptoBulk d + 1
  | .map entries => uptoBulkEntries entries + 1
  | .held _ => 1
def uptoBulkAll {H : Type} : List (DataW H) → Nat
  | [] => 0
  | d :: r => uptoBulk d + uptoBulkAll r
def uptoBulkEntries {H : Type} : List (Lit × DataW H) → Nat
  | [] => 0
  | x :: r => uptoBulkEntry x + uptoBulkEntries r
def uptoBulkEntry {H : Type} : Lit × DataW H → Nat
  | (.string bytes, d) => bytes.length + uptoBulk d + 1
  | (_, d) => uptoBulk d + 1
 end
def uptoSmall : (H : Type) → List (DataW H) → Bool := fun _ ds => decide (uptoBulkAll ds ≤ 1048576)
def OpenSpec.upto (s : _root_.Go.ChangeSpec) : _root_.Go.OpenSpec := { _root_.Go.OpenSpec.ofChange s with cond := some uptoSmall }

/-- 'anabranchlaw03.CheckSums', WHERE WHAT IT READS IS OF BULK AT MOST 1048576: true; the input reads as it did. -/
def checkSumsUptoRow : OpenClaim := { program := "ytoejiaciaafbmaa", sum := "305a92f0a1d350594356b6dd0296a90fd657cb4e0f12971474927f3332731ee3", func := "anabranch/anabranchlaw03.CheckSums", spec := "checkSums", apart := false, narrowed := true }
def CheckSumsUptoSaid : Prop := checkSumsUptoRow.holds Try.pinned (OpenSpec.upto checkSumsSpec)

/-- 'anabranchlaw02.DigitsFixed', WHERE WHAT IT READS IS OF BULK AT MOST 1048576: true; the input reads as it did. -/
def digitsFixedUptoRow : OpenClaim := { program := "ytoejiaciaafbmaa", sum := "305a92f0a1d350594356b6dd0296a90fd657cb4e0f12971474927f3332731ee3", func := "anabranch/anabranchlaw02.DigitsFixed", spec := "digitsFixed", apart := false, narrowed := true }
def DigitsFixedUptoSaid : Prop := digitsFixedUptoRow.holds Try.pinned (OpenSpec.upto digitsFixedSpec)

/-- 'anabranchlaw02.DigitsLay', WHERE WHAT IT READS IS OF BULK AT MOST 1048576: true; the input reads as it did. -/
def digitsLayUptoRow : OpenClaim := { program := "ytoejiaciaafbmaa", sum := "305a92f0a1d350594356b6dd0296a90fd657cb4e0f12971474927f3332731ee3", func := "anabranch/anabranchlaw02.DigitsLay", spec := "digitsLay", apart := false, narrowed := true }
def DigitsLayUptoSaid : Prop := digitsLayUptoRow.holds Try.pinned (OpenSpec.upto digitsLaySpec)

/-- 'anabranchlaw03.CheckOpens', WHERE WHAT IT READS IS OF BULK AT MOST 1048576: true; the input reads as it did. -/
def checkOpensUptoRow : OpenClaim := { program := "ytoejiaciaafbmaa", sum := "305a92f0a1d350594356b6dd0296a90fd657cb4e0f12971474927f3332731ee3", func := "anabranch/anabranchlaw03.CheckOpens", spec := "checkOpens", apart := false, narrowed := true }
def CheckOpensUptoSaid : Prop := checkOpensUptoRow.holds Try.pinned (OpenSpec.upto checkOpensSpec)

/-- 'anabranchlaw03.CheckTurns', WHERE WHAT IT READS IS OF BULK AT MOST 1048576: true; the input reads as it did. -/
def checkTurnsUptoRow : OpenClaim := { program := "ytoejiaciaafbmaa", sum := "305a92f0a1d350594356b6dd0296a90fd657cb4e0f12971474927f3332731ee3", func := "anabranch/anabranchlaw03.CheckTurns", spec := "checkTurns", apart := false, narrowed := true }
def CheckTurnsUptoSaid : Prop := checkTurnsUptoRow.holds Try.pinned (OpenSpec.upto checkTurnsSpec)

/-- 'anabranchlaw03.CheckAlls', WHERE WHAT IT READS IS OF BULK AT MOST 1048576: true; the input reads as it did. -/
def checkAllsUptoRow : OpenClaim := { program := "ytoejiaciaafbmaa", sum := "305a92f0a1d350594356b6dd0296a90fd657cb4e0f12971474927f3332731ee3", func := "anabranch/anabranchlaw03.CheckAlls", spec := "checkAlls", apart := false, narrowed := true }
def CheckAllsUptoSaid : Prop := checkAllsUptoRow.holds Try.pinned (OpenSpec.upto checkAllsSpec)

/-- 'anabranchlaw03.CheckWraps', WHERE WHAT IT READS IS OF BULK AT MOST 1048576: true; the input reads as it did. -/
def checkWrapsUptoRow : OpenClaim := { program := "ytoejiaciaafbmaa", sum := "305a92f0a1d350594356b6dd0296a90fd657cb4e0f12971474927f3332731ee3", func := "anabranch/anabranchlaw03.CheckWraps", spec := "checkWraps", apart := false, narrowed := true }
def CheckWrapsUptoSaid : Prop := checkWrapsUptoRow.holds Try.pinned (OpenSpec.upto checkWrapsSpec)

end Rows
end Go.Proofs.Ytoejiaciaafbmaa
