/-
  No cell of these rows narrows 'for every input' (looked for: loops, veiled, ifaces, maps, wideKeys, modest, calm, conditions, laid).
  DERIVED. THE GIVEN ROWS OF THIS SEAT. 8 by the template 'for every input the law returns true; each argument reads behind the call as it read before'; 0 by the template 'total and deterministic' (their statements: YtdnamidhbloaoaaTotals.lean).
  GIVEN WITH THE SEED: the statements are not yours to turn. If you find one false, say at which input.
  Laid BY PROGRAM, IN A SANDBOX (cutbox-rows.mjs): the forced cells as the released guide's own fill.sh prints them over the translation a403f460c777b490… (all of the seat's roots in one cut). By AI agents, Wed Nov 11 2026. No macro, syntax, notation, axiom, sorry.
-/
import Derived.Test.YtdnamidhbloaoaaChecked
import GoSem.Claim
import GoSem.ClaimJoined
import GoSem.ClaimMapViews
import Derived.JoinedTies
import Derived.KernelRfl
namespace Go.Proofs.Ytdnamidhbloaoaa
/- THE CELL 'sum', in the pinned program and in every row, IS THE sha256 OF THE DUMP (.gsa) THAT YtdnamidhbloaoaaProg.lean LOADS. Nothing in Lean hashes anything: it is a label: what it is worth is what the hold of that sum in a sandbox is worth. -/
noncomputable def Try.pinned : Pinned := { name := "ytdnamidhbloaoaa", sum := "a403f460c777b49040f4588caa9e50d7f6e6b40c858d10bef16e295a2d836149", checked := Try.checked }
namespace Rows
def none {H : Type} : Left H := { results := [], args := [] }

/-- 'spatelaw13.MarkPlays': WHATEVER THE INPUT: true; the input reads as it did. -/
def markPlaysSpec : ChangeSpec := { name := "markPlays", fn := fun _ => fun
  | [d1, d2, d3] => { results := [.lit (.bool true)], args := [d1, d2, d3] }
  | _ => none }
def markPlaysRow : OpenClaim := { program := "ytdnamidhbloaoaa", sum := "a403f460c777b49040f4588caa9e50d7f6e6b40c858d10bef16e295a2d836149", func := "spate/spatelaw13.MarkPlays", spec := "markPlays", apart := false }
def MarkPlaysSaid : Prop := markPlaysRow.holds Try.pinned (OpenSpec.ofChange markPlaysSpec)

/-- ITS FALSE NEIGHBOUR: 'it returns false'. Refute it at one input. -/
def markPlaysWrong : ChangeSpec := { name := "markPlays", fn := fun _ => fun
  | [d1, d2, d3] => { results := [.lit (.bool false)], args := [d1, d2, d3] }
  | _ => none }
def MarkPlaysWrongFalsely : Prop := markPlaysRow.holds Try.pinned (OpenSpec.ofChange markPlaysWrong)

/-- 'spatelaw13.MarkHolds': WHATEVER THE INPUT: true; the input reads as it did. -/
def markHoldsSpec : ChangeSpec := { name := "markHolds", fn := fun _ => fun
  | [d1, d2] => { results := [.lit (.bool true)], args := [d1, d2] }
  | _ => none }
def markHoldsRow : OpenClaim := { program := "ytdnamidhbloaoaa", sum := "a403f460c777b49040f4588caa9e50d7f6e6b40c858d10bef16e295a2d836149", func := "spate/spatelaw13.MarkHolds", spec := "markHolds", apart := false }
def MarkHoldsSaid : Prop := markHoldsRow.holds Try.pinned (OpenSpec.ofChange markHoldsSpec)

/-- ITS FALSE NEIGHBOUR: 'it returns false'. Refute it at one input. -/
def markHoldsWrong : ChangeSpec := { name := "markHolds", fn := fun _ => fun
  | [d1, d2] => { results := [.lit (.bool false)], args := [d1, d2] }
  | _ => none }
def MarkHoldsWrongFalsely : Prop := markHoldsRow.holds Try.pinned (OpenSpec.ofChange markHoldsWrong)

/-- 'spatelaw13.MarkNames': WHATEVER THE INPUT: true; the input reads as it did. -/
def markNamesSpec : ChangeSpec := { name := "markNames", fn := fun _ => fun
  | [] => { results := [.lit (.bool true)], args := [] }
  | _ => none }
def markNamesRow : OpenClaim := { program := "ytdnamidhbloaoaa", sum := "a403f460c777b49040f4588caa9e50d7f6e6b40c858d10bef16e295a2d836149", func := "spate/spatelaw13.MarkNames", spec := "markNames", apart := false }
def MarkNamesSaid : Prop := markNamesRow.holds Try.pinned (OpenSpec.ofChange markNamesSpec)

/-- ITS FALSE NEIGHBOUR: 'it returns false'. Refute it at one input. -/
def markNamesWrong : ChangeSpec := { name := "markNames", fn := fun _ => fun
  | [] => { results := [.lit (.bool false)], args := [] }
  | _ => none }
def MarkNamesWrongFalsely : Prop := markNamesRow.holds Try.pinned (OpenSpec.ofChange markNamesWrong)

/-- 'spatelaw13.MarkOpens': WHATEVER THE INPUT: true; the input reads as it did. -/
def markOpensSpec : ChangeSpec := { name := "markOpens", fn := fun _ => fun
  | [d1, d2, d3, d4] => { results := [.lit (.bool true)], args := [d1, d2, d3, d4] }
  | _ => none }
def markOpensRow : OpenClaim := { program := "ytdnamidhbloaoaa", sum := "a403f460c777b49040f4588caa9e50d7f6e6b40c858d10bef16e295a2d836149", func := "spate/spatelaw13.MarkOpens", spec := "markOpens", apart := false }
def MarkOpensSaid : Prop := markOpensRow.holds Try.pinned (OpenSpec.ofChange markOpensSpec)

/-- ITS FALSE NEIGHBOUR: 'it returns false'. Refute it at one input. -/
def markOpensWrong : ChangeSpec := { name := "markOpens", fn := fun _ => fun
  | [d1, d2, d3, d4] => { results := [.lit (.bool false)], args := [d1, d2, d3, d4] }
  | _ => none }
def MarkOpensWrongFalsely : Prop := markOpensRow.holds Try.pinned (OpenSpec.ofChange markOpensWrong)

/-- 'spatelaw13.MarkOrder': WHATEVER THE INPUT: true; the input reads as it did. -/
def markOrderSpec : ChangeSpec := { name := "markOrder", fn := fun _ => fun
  | [d1, d2, d3, d4, d5] => { results := [.lit (.bool true)], args := [d1, d2, d3, d4, d5] }
  | _ => none }
def markOrderRow : OpenClaim := { program := "ytdnamidhbloaoaa", sum := "a403f460c777b49040f4588caa9e50d7f6e6b40c858d10bef16e295a2d836149", func := "spate/spatelaw13.MarkOrder", spec := "markOrder", apart := false }
def MarkOrderSaid : Prop := markOrderRow.holds Try.pinned (OpenSpec.ofChange markOrderSpec)

/-- ITS FALSE NEIGHBOUR: 'it returns false'. Refute it at one input. -/
def markOrderWrong : ChangeSpec := { name := "markOrder", fn := fun _ => fun
  | [d1, d2, d3, d4, d5] => { results := [.lit (.bool false)], args := [d1, d2, d3, d4, d5] }
  | _ => none }
def MarkOrderWrongFalsely : Prop := markOrderRow.holds Try.pinned (OpenSpec.ofChange markOrderWrong)

/-- 'spatelaw13.MarkWindows': WHATEVER THE INPUT: true; the input reads as it did. -/
def markWindowsSpec : ChangeSpec := { name := "markWindows", fn := fun _ => fun
  | [d1, d2, d3] => { results := [.lit (.bool true)], args := [d1, d2, d3] }
  | _ => none }
def markWindowsRow : OpenClaim := { program := "ytdnamidhbloaoaa", sum := "a403f460c777b49040f4588caa9e50d7f6e6b40c858d10bef16e295a2d836149", func := "spate/spatelaw13.MarkWindows", spec := "markWindows", apart := false }
def MarkWindowsSaid : Prop := markWindowsRow.holds Try.pinned (OpenSpec.ofChange markWindowsSpec)

/-- ITS FALSE NEIGHBOUR: 'it returns false'. Refute it at one input. -/
def markWindowsWrong : ChangeSpec := { name := "markWindows", fn := fun _ => fun
  | [d1, d2, d3] => { results := [.lit (.bool false)], args := [d1, d2, d3] }
  | _ => none }
def MarkWindowsWrongFalsely : Prop := markWindowsRow.holds Try.pinned (OpenSpec.ofChange markWindowsWrong)

/-- 'spatelaw13.MarkOwn': WHATEVER THE INPUT: true; the input reads as it did. -/
def markOwnSpec : ChangeSpec := { name := "markOwn", fn := fun _ => fun
  | [d1, d2] => { results := [.lit (.bool true)], args := [d1, d2] }
  | _ => none }
def markOwnRow : OpenClaim := { program := "ytdnamidhbloaoaa", sum := "a403f460c777b49040f4588caa9e50d7f6e6b40c858d10bef16e295a2d836149", func := "spate/spatelaw13.MarkOwn", spec := "markOwn", apart := false }
def MarkOwnSaid : Prop := markOwnRow.holds Try.pinned (OpenSpec.ofChange markOwnSpec)

/-- ITS FALSE NEIGHBOUR: 'it returns false'. Refute it at one input. -/
def markOwnWrong : ChangeSpec := { name := "markOwn", fn := fun _ => fun
  | [d1, d2] => { results := [.lit (.bool false)], args := [d1, d2] }
  | _ => none }
def MarkOwnWrongFalsely : Prop := markOwnRow.holds Try.pinned (OpenSpec.ofChange markOwnWrong)

/-- 'spatelaw13.MarkAnswers': WHATEVER THE INPUT: true; the input reads as it did. -/
def markAnswersSpec : ChangeSpec := { name := "markAnswers", fn := fun _ => fun
  | [d1, d2] => { results := [.lit (.bool true)], args := [d1, d2] }
  | _ => none }
def markAnswersRow : OpenClaim := { program := "ytdnamidhbloaoaa", sum := "a403f460c777b49040f4588caa9e50d7f6e6b40c858d10bef16e295a2d836149", func := "spate/spatelaw13.MarkAnswers", spec := "markAnswers", apart := false }
def MarkAnswersSaid : Prop := markAnswersRow.holds Try.pinned (OpenSpec.ofChange markAnswersSpec)

/-- ITS FALSE NEIGHBOUR: 'it returns false'. Refute it at one input. -/
def markAnswersWrong : ChangeSpec := { name := "markAnswers", fn := fun _ => fun
  | [d1, d2] => { results := [.lit (.bool false)], args := [d1, d2] }
  | _ => none }
def MarkAnswersWrongFalsely : Prop := markAnswersRow.holds Try.pinned (OpenSpec.ofChange markAnswersWrong)

/- THE SECOND FORM. 'bulk': how many values and letters a reading holds, each counted each time it is reached (what is shared counts as often as it is met; a slice's spare places count too). A statement '..UptoSaid' is the law's where the arguments, and the package variables that the reading takes, are together of bulk at most 1048576: NARROWER than '..Said'. Prove '..Said' where nothing that the law and all that it calls make is longer than what came in: it says more and counts as full. Else prove '..UptoSaid'. A law counts once. -/
mutual
def uptoBulk {H : Type} : DataW H → Nat
  | .lit (.string bytes) => bytes.length + 1
  | .lit _ => 1
  | .nil => 1
  | .ptr d => uptoBulk d + 1
  | .slice elems spare => uptoBulkAll elems + uptoBulkAll spare + 1
  | .agg parts => uptoBulkAll parts + 1
  | .iface _ d => uptoBulk d + 1
  | .map entries => uptoBulkEntries entries + 1
  | .held _ => 1
def uptoBulkAll {H : Type} : List (DataW H) → Nat
  | [] => 0
  | d :: r => uptoBulk d + uptoBulkAll r
def uptoBulkEntries {H : Type} : List (Lit × DataW H) → Nat
  | [] => 0
  | x :: r => uptoBulkEntry x + uptoBulkEntries r
def uptoBulkEntry {H : Type} : Lit × DataW H → Nat
  | (.string bytes, d) => bytes.length + uptoBulk d + 1
  | (_, d) => uptoBulk d + 1
 end
def uptoSmall : (H : Type) → List (DataW H) → Bool := fun _ ds => decide (uptoBulkAll ds ≤ 1048576)
def OpenSpec.upto (s : _root_.Go.ChangeSpec) : _root_.Go.OpenSpec := { _root_.Go.OpenSpec.ofChange s with cond := some uptoSmall }

/-- 'spatelaw13.MarkPlays', WHERE WHAT IT READS IS OF BULK AT MOST 1048576: true; the input reads as it did. -/
def markPlaysUptoRow : OpenClaim := { program := "ytdnamidhbloaoaa", sum := "a403f460c777b49040f4588caa9e50d7f6e6b40c858d10bef16e295a2d836149", func := "spate/spatelaw13.MarkPlays", spec := "markPlays", apart := false, narrowed := true }
def MarkPlaysUptoSaid : Prop := markPlaysUptoRow.holds Try.pinned (OpenSpec.upto markPlaysSpec)

/-- 'spatelaw13.MarkHolds', WHERE WHAT IT READS IS OF BULK AT MOST 1048576: true; the input reads as it did. -/
def markHoldsUptoRow : OpenClaim := { program := "ytdnamidhbloaoaa", sum := "a403f460c777b49040f4588caa9e50d7f6e6b40c858d10bef16e295a2d836149", func := "spate/spatelaw13.MarkHolds", spec := "markHolds", apart := false, narrowed := true }
def MarkHoldsUptoSaid : Prop := markHoldsUptoRow.holds Try.pinned (OpenSpec.upto markHoldsSpec)

/-- 'spatelaw13.MarkNames', WHERE WHAT IT READS IS OF BULK AT MOST 1048576: true; the input reads as it did. -/
def markNamesUptoRow : OpenClaim := { program := "ytdnamidhbloaoaa", sum := "a403f460c777b49040f4588caa9e50d7f6e6b40c858d10bef16e295a2d836149", func := "spate/spatelaw13.MarkNames", spec := "markNames", apart := false, narrowed := true }
def MarkNamesUptoSaid : Prop := markNamesUptoRow.holds Try.pinned (OpenSpec.upto markNamesSpec)

/-- 'spatelaw13.MarkOpens', WHERE WHAT IT READS IS OF BULK AT MOST 1048576: true; the input reads as it did. -/
def markOpensUptoRow : OpenClaim := { program := "ytdnamidhbloaoaa", sum := "a403f460c777b49040f4588caa9e50d7f6e6b40c858d10bef16e295a2d836149", func := "spate/spatelaw13.MarkOpens", spec := "markOpens", apart := false, narrowed := true }
def MarkOpensUptoSaid : Prop := markOpensUptoRow.holds Try.pinned (OpenSpec.upto markOpensSpec)

/-- 'spatelaw13.MarkOrder', WHERE WHAT IT READS IS OF BULK AT MOST 1048576: true; the input reads as it did. -/
def markOrderUptoRow : OpenClaim := { program := "ytdnamidhbloaoaa", sum := "a403f460c777b49040f4588caa9e50d7f6e6b40c858d10bef16e295a2d836149", func := "spate/spatelaw13.MarkOrder", spec := "markOrder", apart := false, narrowed := true }
def MarkOrderUptoSaid : Prop := markOrderUptoRow.holds Try.pinned (OpenSpec.upto markOrderSpec)

/-- 'spatelaw13.MarkWindows', WHERE WHAT IT READS IS OF BULK AT MOST 1048576: true; the input reads as it did. -/
def markWindowsUptoRow : OpenClaim := { program := "ytdnamidhbloaoaa", sum := "a403f460c777b49040f4588caa9e50d7f6e6b40c858d10bef16e295a2d836149", func := "spate/spatelaw13.MarkWindows", spec := "markWindows", apart := false, narrowed := true }
def MarkWindowsUptoSaid : Prop := markWindowsUptoRow.holds Try.pinned (OpenSpec.upto markWindowsSpec)

/-- 'spatelaw13.MarkOwn', WHERE WHAT IT READS IS OF BULK AT MOST 1048576: true; the input reads as it did. -/
def markOwnUptoRow : OpenClaim := { program := "ytdnamidhbloaoaa", sum := "a403f460c777b49040f4588caa9e50d7f6e6b40c858d10bef16e295a2d836149", func := "spate/spatelaw13.MarkOwn", spec := "markOwn", apart := false, narrowed := true }
def MarkOwnUptoSaid : Prop := markOwnUptoRow.holds Try.pinned (OpenSpec.upto markOwnSpec)

/-- 'spatelaw13.MarkAnswers', WHERE WHAT IT READS IS OF BULK AT MOST 1048576: true; the input reads as it did. -/
def markAnswersUptoRow : OpenClaim := { program := "ytdnamidhbloaoaa", sum := "a403f460c777b49040f4588caa9e50d7f6e6b40c858d10bef16e295a2d836149", func := "spate/spatelaw13.MarkAnswers", spec := "markAnswers", apart := false, narrowed := true }
def MarkAnswersUptoSaid : Prop := markAnswersUptoRow.holds Try.pinned (OpenSpec.upto markAnswersSpec)

end Rows
end Go.Proofs.Ytdnamidhbloaoaa
