/-
  No cell of these rows narrows 'for every input' (looked for: loops, veiled, ifaces, maps, wideKeys, modest, calm, conditions, laid).
  DERIVED. THE GIVEN ROWS OF THIS SEAT. 10 by the template 'for every input the law returns true; each argument reads behind the call as it read before'; 0 by the template 'total and deterministic' (their statements: YtnceikookipdnaaTotals.lean).
  GIVEN WITH THE SEED: the statements are not yours to turn. If you find one false, say at which input.
  Laid BY PROGRAM, IN A SANDBOX (cutbox-rows.mjs): the forced cells as the released guide's own fill.sh prints them over the translation 1756b56f99439e73… (all of the seat's roots in one cut). By AI agents, Wed Nov 11 2026. No macro, syntax, notation, axiom, sorry.
-/
import Derived.Test.YtnceikookipdnaaChecked
import GoSem.Claim
import GoSem.ClaimJoined
import GoSem.ClaimMapViews
import Derived.JoinedTies
import Derived.KernelRfl
namespace Go.Proofs.Ytnceikookipdnaa
/- THE CELL 'sum', in the pinned program and in every row, IS THE sha256 OF THE DUMP (.gsa) THAT YtnceikookipdnaaProg.lean LOADS. Nothing in Lean hashes anything: it is a label: what it is worth is what the hold of that sum in a sandbox is worth. -/
noncomputable def Try.pinned : Pinned := { name := "ytnceikookipdnaa", sum := "1756b56f99439e732fc0968de78cff4d481b688237dae622ce9134aef288f903", checked := Try.checked }
namespace Rows
def none {H : Type} : Left H := { results := [], args := [] }

/-- 'spatelaw4.PaneNames': WHATEVER THE INPUT: true; the input reads as it did. -/
def paneNamesSpec : ChangeSpec := { name := "paneNames", fn := fun _ => fun
  | [] => { results := [.lit (.bool true)], args := [] }
  | _ => none }
def paneNamesRow : OpenClaim := { program := "ytnceikookipdnaa", sum := "1756b56f99439e732fc0968de78cff4d481b688237dae622ce9134aef288f903", func := "spate/spatelaw4.PaneNames", spec := "paneNames", apart := false }
def PaneNamesSaid : Prop := paneNamesRow.holds Try.pinned (OpenSpec.ofChange paneNamesSpec)

/-- ITS FALSE NEIGHBOUR: 'it returns false'. Refute it at one input. -/
def paneNamesWrong : ChangeSpec := { name := "paneNames", fn := fun _ => fun
  | [] => { results := [.lit (.bool false)], args := [] }
  | _ => none }
def PaneNamesWrongFalsely : Prop := paneNamesRow.holds Try.pinned (OpenSpec.ofChange paneNamesWrong)

/-- 'spatelaw4.PaneChecks': WHATEVER THE INPUT: true; the input reads as it did. -/
def paneChecksSpec : ChangeSpec := { name := "paneChecks", fn := fun _ => fun
  | [d] => { results := [.lit (.bool true)], args := [d] }
  | _ => none }
def paneChecksRow : OpenClaim := { program := "ytnceikookipdnaa", sum := "1756b56f99439e732fc0968de78cff4d481b688237dae622ce9134aef288f903", func := "spate/spatelaw4.PaneChecks", spec := "paneChecks", apart := false }
def PaneChecksSaid : Prop := paneChecksRow.holds Try.pinned (OpenSpec.ofChange paneChecksSpec)

/-- ITS FALSE NEIGHBOUR: 'it returns false'. Refute it at one input. -/
def paneChecksWrong : ChangeSpec := { name := "paneChecks", fn := fun _ => fun
  | [d] => { results := [.lit (.bool false)], args := [d] }
  | _ => none }
def PaneChecksWrongFalsely : Prop := paneChecksRow.holds Try.pinned (OpenSpec.ofChange paneChecksWrong)

/-- 'spatelaw4.PaneStarts': WHATEVER THE INPUT: true; the input reads as it did. -/
def paneStartsSpec : ChangeSpec := { name := "paneStarts", fn := fun _ => fun
  | [d1, d2] => { results := [.lit (.bool true)], args := [d1, d2] }
  | _ => none }
def paneStartsRow : OpenClaim := { program := "ytnceikookipdnaa", sum := "1756b56f99439e732fc0968de78cff4d481b688237dae622ce9134aef288f903", func := "spate/spatelaw4.PaneStarts", spec := "paneStarts", apart := false }
def PaneStartsSaid : Prop := paneStartsRow.holds Try.pinned (OpenSpec.ofChange paneStartsSpec)

/-- ITS FALSE NEIGHBOUR: 'it returns false'. Refute it at one input. -/
def paneStartsWrong : ChangeSpec := { name := "paneStarts", fn := fun _ => fun
  | [d1, d2] => { results := [.lit (.bool false)], args := [d1, d2] }
  | _ => none }
def PaneStartsWrongFalsely : Prop := paneStartsRow.holds Try.pinned (OpenSpec.ofChange paneStartsWrong)

/-- 'spatelaw4.PaneCounts': WHATEVER THE INPUT: true; the input reads as it did. -/
def paneCountsSpec : ChangeSpec := { name := "paneCounts", fn := fun _ => fun
  | [d1, d2] => { results := [.lit (.bool true)], args := [d1, d2] }
  | _ => none }
def paneCountsRow : OpenClaim := { program := "ytnceikookipdnaa", sum := "1756b56f99439e732fc0968de78cff4d481b688237dae622ce9134aef288f903", func := "spate/spatelaw4.PaneCounts", spec := "paneCounts", apart := false }
def PaneCountsSaid : Prop := paneCountsRow.holds Try.pinned (OpenSpec.ofChange paneCountsSpec)

/-- ITS FALSE NEIGHBOUR: 'it returns false'. Refute it at one input. -/
def paneCountsWrong : ChangeSpec := { name := "paneCounts", fn := fun _ => fun
  | [d1, d2] => { results := [.lit (.bool false)], args := [d1, d2] }
  | _ => none }
def PaneCountsWrongFalsely : Prop := paneCountsRow.holds Try.pinned (OpenSpec.ofChange paneCountsWrong)

/-- 'spatelaw4.PaneTimes': WHATEVER THE INPUT: true; the input reads as it did. -/
def paneTimesSpec : ChangeSpec := { name := "paneTimes", fn := fun _ => fun
  | [d1, d2, d3] => { results := [.lit (.bool true)], args := [d1, d2, d3] }
  | _ => none }
def paneTimesRow : OpenClaim := { program := "ytnceikookipdnaa", sum := "1756b56f99439e732fc0968de78cff4d481b688237dae622ce9134aef288f903", func := "spate/spatelaw4.PaneTimes", spec := "paneTimes", apart := false }
def PaneTimesSaid : Prop := paneTimesRow.holds Try.pinned (OpenSpec.ofChange paneTimesSpec)

/-- ITS FALSE NEIGHBOUR: 'it returns false'. Refute it at one input. -/
def paneTimesWrong : ChangeSpec := { name := "paneTimes", fn := fun _ => fun
  | [d1, d2, d3] => { results := [.lit (.bool false)], args := [d1, d2, d3] }
  | _ => none }
def PaneTimesWrongFalsely : Prop := paneTimesRow.holds Try.pinned (OpenSpec.ofChange paneTimesWrong)

/-- 'spatelaw4.PaneEnds': WHATEVER THE INPUT: true; the input reads as it did. -/
def paneEndsSpec : ChangeSpec := { name := "paneEnds", fn := fun _ => fun
  | [d1, d2, d3] => { results := [.lit (.bool true)], args := [d1, d2, d3] }
  | _ => none }
def paneEndsRow : OpenClaim := { program := "ytnceikookipdnaa", sum := "1756b56f99439e732fc0968de78cff4d481b688237dae622ce9134aef288f903", func := "spate/spatelaw4.PaneEnds", spec := "paneEnds", apart := false }
def PaneEndsSaid : Prop := paneEndsRow.holds Try.pinned (OpenSpec.ofChange paneEndsSpec)

/-- ITS FALSE NEIGHBOUR: 'it returns false'. Refute it at one input. -/
def paneEndsWrong : ChangeSpec := { name := "paneEnds", fn := fun _ => fun
  | [d1, d2, d3] => { results := [.lit (.bool false)], args := [d1, d2, d3] }
  | _ => none }
def PaneEndsWrongFalsely : Prop := paneEndsRow.holds Try.pinned (OpenSpec.ofChange paneEndsWrong)

/-- 'spatelaw4.PaneOpens': WHATEVER THE INPUT: true; the input reads as it did. -/
def paneOpensSpec : ChangeSpec := { name := "paneOpens", fn := fun _ => fun
  | [d1, d2, d3] => { results := [.lit (.bool true)], args := [d1, d2, d3] }
  | _ => none }
def paneOpensRow : OpenClaim := { program := "ytnceikookipdnaa", sum := "1756b56f99439e732fc0968de78cff4d481b688237dae622ce9134aef288f903", func := "spate/spatelaw4.PaneOpens", spec := "paneOpens", apart := false }
def PaneOpensSaid : Prop := paneOpensRow.holds Try.pinned (OpenSpec.ofChange paneOpensSpec)

/-- ITS FALSE NEIGHBOUR: 'it returns false'. Refute it at one input. -/
def paneOpensWrong : ChangeSpec := { name := "paneOpens", fn := fun _ => fun
  | [d1, d2, d3] => { results := [.lit (.bool false)], args := [d1, d2, d3] }
  | _ => none }
def PaneOpensWrongFalsely : Prop := paneOpensRow.holds Try.pinned (OpenSpec.ofChange paneOpensWrong)

/-- 'spatelaw4.PaneOwn': WHATEVER THE INPUT: true; the input reads as it did. -/
def paneOwnSpec : ChangeSpec := { name := "paneOwn", fn := fun _ => fun
  | [d1, d2] => { results := [.lit (.bool true)], args := [d1, d2] }
  | _ => none }
def paneOwnRow : OpenClaim := { program := "ytnceikookipdnaa", sum := "1756b56f99439e732fc0968de78cff4d481b688237dae622ce9134aef288f903", func := "spate/spatelaw4.PaneOwn", spec := "paneOwn", apart := false }
def PaneOwnSaid : Prop := paneOwnRow.holds Try.pinned (OpenSpec.ofChange paneOwnSpec)

/-- ITS FALSE NEIGHBOUR: 'it returns false'. Refute it at one input. -/
def paneOwnWrong : ChangeSpec := { name := "paneOwn", fn := fun _ => fun
  | [d1, d2] => { results := [.lit (.bool false)], args := [d1, d2] }
  | _ => none }
def PaneOwnWrongFalsely : Prop := paneOwnRow.holds Try.pinned (OpenSpec.ofChange paneOwnWrong)

/-- 'spatelaw4.PaneAnswers': WHATEVER THE INPUT: true; the input reads as it did. -/
def paneAnswersSpec : ChangeSpec := { name := "paneAnswers", fn := fun _ => fun
  | [d1, d2] => { results := [.lit (.bool true)], args := [d1, d2] }
  | _ => none }
def paneAnswersRow : OpenClaim := { program := "ytnceikookipdnaa", sum := "1756b56f99439e732fc0968de78cff4d481b688237dae622ce9134aef288f903", func := "spate/spatelaw4.PaneAnswers", spec := "paneAnswers", apart := false }
def PaneAnswersSaid : Prop := paneAnswersRow.holds Try.pinned (OpenSpec.ofChange paneAnswersSpec)

/-- ITS FALSE NEIGHBOUR: 'it returns false'. Refute it at one input. -/
def paneAnswersWrong : ChangeSpec := { name := "paneAnswers", fn := fun _ => fun
  | [d1, d2] => { results := [.lit (.bool false)], args := [d1, d2] }
  | _ => none }
def PaneAnswersWrongFalsely : Prop := paneAnswersRow.holds Try.pinned (OpenSpec.ofChange paneAnswersWrong)

/-- 'spatelaw4.PaneMarks': WHATEVER THE INPUT: true; the input reads as it did. -/
def paneMarksSpec : ChangeSpec := { name := "paneMarks", fn := fun _ => fun
  | [d1, d2, d3, d4] => { results := [.lit (.bool true)], args := [d1, d2, d3, d4] }
  | _ => none }
def paneMarksRow : OpenClaim := { program := "ytnceikookipdnaa", sum := "1756b56f99439e732fc0968de78cff4d481b688237dae622ce9134aef288f903", func := "spate/spatelaw4.PaneMarks", spec := "paneMarks", apart := false }
def PaneMarksSaid : Prop := paneMarksRow.holds Try.pinned (OpenSpec.ofChange paneMarksSpec)

/-- ITS FALSE NEIGHBOUR: 'it returns false'. Refute it at one input. -/
def paneMarksWrong : ChangeSpec := { name := "paneMarks", fn := fun _ => fun
  | [d1, d2, d3, d4] => { results := [.lit (.bool false)], args := [d1, d2, d3, d4] }
  | _ => none }
def PaneMarksWrongFalsely : Prop := paneMarksRow.holds Try.pinned (OpenSpec.ofChange paneMarksWrong)

/- THE SECOND FORM. 'bulk': how many values and letters a reading holds, each counted each time it is reached (what is shared counts as often as it is met; a slice's spare places count too). A statement '..UptoSaid' is the law's where the arguments, and the package variables that the reading takes, are together of bulk at most 1048576: NARROWER than '..Said'. Prove '..Said' where nothing that the law and all that it calls make is longer than what came in: it says more and counts as full. Else prove '..UptoSaid'. A law counts once. -/
mutual
def uptoBulk {H : Type} : DataW H → Nat
  | .lit (.string bytes) => bytes.length + 1
  | .lit _ => 1
  | .nil => 1
  | .ptr d => uptoBulk d + 1
  | .slice elems spare => uptoBulkAll elems + uptoBulkAll spare + 1
  | .agg parts => uptoBulkAll parts + 1
  | .iface _ d => uptoBulk d + 1
  | .map entries => uptoBulkEntries entries + 1
  | .held _ => 1
def uptoBulkAll {H : Type} : List (DataW H) → Nat
  | [] => 0
  | d :: r => uptoBulk d + uptoBulkAll r
def uptoBulkEntries {H : Type} : List (Lit × DataW H) → Nat
  | [] => 0
  | x :: r => uptoBulkEntry x + uptoBulkEntries r
def uptoBulkEntry {H : Type} : Lit × DataW H → Nat
  | (.string bytes, d) => bytes.length + uptoBulk d + 1
  | (_, d) => uptoBulk d + 1
 end
def uptoSmall : (H : Type) → List (DataW H) → Bool := fun _ ds => decide (uptoBulkAll ds ≤ 1048576)
def OpenSpec.upto (s : _root_.Go.ChangeSpec) : _root_.Go.OpenSpec := { _root_.Go.OpenSpec.ofChange s with cond := some uptoSmall }

/-- 'spatelaw4.PaneNames', WHERE WHAT IT READS IS OF BULK AT MOST 1048576: true; the input reads as it did. -/
def paneNamesUptoRow : OpenClaim := { program := "ytnceikookipdnaa", sum := "1756b56f99439e732fc0968de78cff4d481b688237dae622ce9134aef288f903", func := "spate/spatelaw4.PaneNames", spec := "paneNames", apart := false, narrowed := true }
def PaneNamesUptoSaid : Prop := paneNamesUptoRow.holds Try.pinned (OpenSpec.upto paneNamesSpec)

/-- 'spatelaw4.PaneChecks', WHERE WHAT IT READS IS OF BULK AT MOST 1048576: true; the input reads as it did. -/
def paneChecksUptoRow : OpenClaim := { program := "ytnceikookipdnaa", sum := "1756b56f99439e732fc0968de78cff4d481b688237dae622ce9134aef288f903", func := "spate/spatelaw4.PaneChecks", spec := "paneChecks", apart := false, narrowed := true }
def PaneChecksUptoSaid : Prop := paneChecksUptoRow.holds Try.pinned (OpenSpec.upto paneChecksSpec)

/-- 'spatelaw4.PaneStarts', WHERE WHAT IT READS IS OF BULK AT MOST 1048576: true; the input reads as it did. -/
def paneStartsUptoRow : OpenClaim := { program := "ytnceikookipdnaa", sum := "1756b56f99439e732fc0968de78cff4d481b688237dae622ce9134aef288f903", func := "spate/spatelaw4.PaneStarts", spec := "paneStarts", apart := false, narrowed := true }
def PaneStartsUptoSaid : Prop := paneStartsUptoRow.holds Try.pinned (OpenSpec.upto paneStartsSpec)

/-- 'spatelaw4.PaneCounts', WHERE WHAT IT READS IS OF BULK AT MOST 1048576: true; the input reads as it did. -/
def paneCountsUptoRow : OpenClaim := { program := "ytnceikookipdnaa", sum := "1756b56f99439e732fc0968de78cff4d481b688237dae622ce9134aef288f903", func := "spate/spatelaw4.PaneCounts", spec := "paneCounts", apart := false, narrowed := true }
def PaneCountsUptoSaid : Prop := paneCountsUptoRow.holds Try.pinned (OpenSpec.upto paneCountsSpec)

/-- 'spatelaw4.PaneTimes', WHERE WHAT IT READS IS OF BULK AT MOST 1048576: true; the input reads as it did. -/
def paneTimesUptoRow : OpenClaim := { program := "ytnceikookipdnaa", sum := "1756b56f99439e732fc0968de78cff4d481b688237dae622ce9134aef288f903", func := "spate/spatelaw4.PaneTimes", spec := "paneTimes", apart := false, narrowed := true }
def PaneTimesUptoSaid : Prop := paneTimesUptoRow.holds Try.pinned (OpenSpec.upto paneTimesSpec)

/-- 'spatelaw4.PaneEnds', WHERE WHAT IT READS IS OF BULK AT MOST 1048576: true; the input reads as it did. -/
def paneEndsUptoRow : OpenClaim := { program := "ytnceikookipdnaa", sum := "1756b56f99439e732fc0968de78cff4d481b688237dae622ce9134aef288f903", func := "spate/spatelaw4.PaneEnds", spec := "paneEnds", apart := false, narrowed := true }
def PaneEndsUptoSaid : Prop := paneEndsUptoRow.holds Try.pinned (OpenSpec.upto paneEndsSpec)

/-- 'spatelaw4.PaneOpens', WHERE WHAT IT READS IS OF BULK AT MOST 1048576: true; the input reads as it did. -/
def paneOpensUptoRow : OpenClaim := { program := "ytnceikookipdnaa", sum := "1756b56f99439e732fc0968de78cff4d481b688237dae622ce9134aef288f903", func := "spate/spatelaw4.PaneOpens", spec := "paneOpens", apart := false, narrowed := true }
def PaneOpensUptoSaid : Prop := paneOpensUptoRow.holds Try.pinned (OpenSpec.upto paneOpensSpec)

/-- 'spatelaw4.PaneOwn', WHERE WHAT IT READS IS OF BULK AT MOST 1048576: true; the input reads as it did. -/
def paneOwnUptoRow : OpenClaim := { program := "ytnceikookipdnaa", sum := "1756b56f99439e732fc0968de78cff4d481b688237dae622ce9134aef288f903", func := "spate/spatelaw4.PaneOwn", spec := "paneOwn", apart := false, narrowed := true }
def PaneOwnUptoSaid : Prop := paneOwnUptoRow.holds Try.pinned (OpenSpec.upto paneOwnSpec)

/-- 'spatelaw4.PaneAnswers', WHERE WHAT IT READS IS OF BULK AT MOST 1048576: true; the input reads as it did. -/
def paneAnswersUptoRow : OpenClaim := { program := "ytnceikookipdnaa", sum := "1756b56f99439e732fc0968de78cff4d481b688237dae622ce9134aef288f903", func := "spate/spatelaw4.PaneAnswers", spec := "paneAnswers", apart := false, narrowed := true }
def PaneAnswersUptoSaid : Prop := paneAnswersUptoRow.holds Try.pinned (OpenSpec.upto paneAnswersSpec)

/-- 'spatelaw4.PaneMarks', WHERE WHAT IT READS IS OF BULK AT MOST 1048576: true; the input reads as it did. -/
def paneMarksUptoRow : OpenClaim := { program := "ytnceikookipdnaa", sum := "1756b56f99439e732fc0968de78cff4d481b688237dae622ce9134aef288f903", func := "spate/spatelaw4.PaneMarks", spec := "paneMarks", apart := false, narrowed := true }
def PaneMarksUptoSaid : Prop := paneMarksUptoRow.holds Try.pinned (OpenSpec.upto paneMarksSpec)

end Rows
end Go.Proofs.Ytnceikookipdnaa
