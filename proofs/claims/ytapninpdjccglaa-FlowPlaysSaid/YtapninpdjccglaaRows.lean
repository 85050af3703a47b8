/-
  No cell of these rows narrows 'for every input' (looked for: loops, veiled, ifaces, maps, wideKeys, modest, calm, conditions, laid).
  DERIVED. THE GIVEN ROWS OF THIS SEAT. 6 by the template 'for every input the law returns true; each argument reads behind the call as it read before'; 0 by the template 'total and deterministic' (their statements: YtapninpdjccglaaTotals.lean).
  GIVEN WITH THE SEED: the statements are not yours to turn. If you find one false, say at which input.
  Laid BY PROGRAM, IN A SANDBOX (cutbox-rows.mjs): the forced cells as the released guide's own fill.sh prints them over the translation fdea1af60481391d… (all of the seat's roots in one cut). By AI agents, Wed Nov 11 2026. No macro, syntax, notation, axiom, sorry.
-/
import Derived.Test.YtapninpdjccglaaChecked
import GoSem.Claim
import GoSem.ClaimJoined
import GoSem.ClaimMapViews
import Derived.JoinedTies
import Derived.KernelRfl
namespace Go.Proofs.Ytapninpdjccglaa
/- THE CELL 'sum', in the pinned program and in every row, IS THE sha256 OF THE DUMP (.gsa) THAT YtapninpdjccglaaProg.lean LOADS. Nothing in Lean hashes anything: it is a label: what it is worth is what the hold of that sum in a sandbox is worth. -/
noncomputable def Try.pinned : Pinned := { name := "ytapninpdjccglaa", sum := "fdea1af60481391d9250acd50edc614187b184c74b928c73db7c5c34a1a8b4cf", checked := Try.checked }
namespace Rows
def none {H : Type} : Left H := { results := [], args := [] }

/-- 'spatelaw15.FlowNames': WHATEVER THE INPUT: true; the input reads as it did. -/
def flowNamesSpec : ChangeSpec := { name := "flowNames", fn := fun _ => fun
  | [] => { results := [.lit (.bool true)], args := [] }
  | _ => none }
def flowNamesRow : OpenClaim := { program := "ytapninpdjccglaa", sum := "fdea1af60481391d9250acd50edc614187b184c74b928c73db7c5c34a1a8b4cf", func := "spate/spatelaw15.FlowNames", spec := "flowNames", apart := false }
def FlowNamesSaid : Prop := flowNamesRow.holds Try.pinned (OpenSpec.ofChange flowNamesSpec)

/-- ITS FALSE NEIGHBOUR: 'it returns false'. Refute it at one input. -/
def flowNamesWrong : ChangeSpec := { name := "flowNames", fn := fun _ => fun
  | [] => { results := [.lit (.bool false)], args := [] }
  | _ => none }
def FlowNamesWrongFalsely : Prop := flowNamesRow.holds Try.pinned (OpenSpec.ofChange flowNamesWrong)

/-- 'spatelaw15.FlowPlays': WHATEVER THE INPUT: true; the input reads as it did. -/
def flowPlaysSpec : ChangeSpec := { name := "flowPlays", fn := fun _ => fun
  | [d1, d2, d3, d4] => { results := [.lit (.bool true)], args := [d1, d2, d3, d4] }
  | _ => none }
def flowPlaysRow : OpenClaim := { program := "ytapninpdjccglaa", sum := "fdea1af60481391d9250acd50edc614187b184c74b928c73db7c5c34a1a8b4cf", func := "spate/spatelaw15.FlowPlays", spec := "flowPlays", apart := false }
def FlowPlaysSaid : Prop := flowPlaysRow.holds Try.pinned (OpenSpec.ofChange flowPlaysSpec)

/-- ITS FALSE NEIGHBOUR: 'it returns false'. Refute it at one input. -/
def flowPlaysWrong : ChangeSpec := { name := "flowPlays", fn := fun _ => fun
  | [d1, d2, d3, d4] => { results := [.lit (.bool false)], args := [d1, d2, d3, d4] }
  | _ => none }
def FlowPlaysWrongFalsely : Prop := flowPlaysRow.holds Try.pinned (OpenSpec.ofChange flowPlaysWrong)

/-- 'spatelaw15.FlowRoutes': WHATEVER THE INPUT: true; the input reads as it did. -/
def flowRoutesSpec : ChangeSpec := { name := "flowRoutes", fn := fun _ => fun
  | [d1, d2] => { results := [.lit (.bool true)], args := [d1, d2] }
  | _ => none }
def flowRoutesRow : OpenClaim := { program := "ytapninpdjccglaa", sum := "fdea1af60481391d9250acd50edc614187b184c74b928c73db7c5c34a1a8b4cf", func := "spate/spatelaw15.FlowRoutes", spec := "flowRoutes", apart := false }
def FlowRoutesSaid : Prop := flowRoutesRow.holds Try.pinned (OpenSpec.ofChange flowRoutesSpec)

/-- ITS FALSE NEIGHBOUR: 'it returns false'. Refute it at one input. -/
def flowRoutesWrong : ChangeSpec := { name := "flowRoutes", fn := fun _ => fun
  | [d1, d2] => { results := [.lit (.bool false)], args := [d1, d2] }
  | _ => none }
def FlowRoutesWrongFalsely : Prop := flowRoutesRow.holds Try.pinned (OpenSpec.ofChange flowRoutesWrong)

/-- 'spatelaw15.FlowOrder': WHATEVER THE INPUT: true; the input reads as it did. -/
def flowOrderSpec : ChangeSpec := { name := "flowOrder", fn := fun _ => fun
  | [d1, d2, d3, d4] => { results := [.lit (.bool true)], args := [d1, d2, d3, d4] }
  | _ => none }
def flowOrderRow : OpenClaim := { program := "ytapninpdjccglaa", sum := "fdea1af60481391d9250acd50edc614187b184c74b928c73db7c5c34a1a8b4cf", func := "spate/spatelaw15.FlowOrder", spec := "flowOrder", apart := false }
def FlowOrderSaid : Prop := flowOrderRow.holds Try.pinned (OpenSpec.ofChange flowOrderSpec)

/-- ITS FALSE NEIGHBOUR: 'it returns false'. Refute it at one input. -/
def flowOrderWrong : ChangeSpec := { name := "flowOrder", fn := fun _ => fun
  | [d1, d2, d3, d4] => { results := [.lit (.bool false)], args := [d1, d2, d3, d4] }
  | _ => none }
def FlowOrderWrongFalsely : Prop := flowOrderRow.holds Try.pinned (OpenSpec.ofChange flowOrderWrong)

/-- 'spatelaw15.FlowRoom': WHATEVER THE INPUT: true; the input reads as it did. -/
def flowRoomSpec : ChangeSpec := { name := "flowRoom", fn := fun _ => fun
  | [d1, d2, d3, d4] => { results := [.lit (.bool true)], args := [d1, d2, d3, d4] }
  | _ => none }
def flowRoomRow : OpenClaim := { program := "ytapninpdjccglaa", sum := "fdea1af60481391d9250acd50edc614187b184c74b928c73db7c5c34a1a8b4cf", func := "spate/spatelaw15.FlowRoom", spec := "flowRoom", apart := false }
def FlowRoomSaid : Prop := flowRoomRow.holds Try.pinned (OpenSpec.ofChange flowRoomSpec)

/-- ITS FALSE NEIGHBOUR: 'it returns false'. Refute it at one input. -/
def flowRoomWrong : ChangeSpec := { name := "flowRoom", fn := fun _ => fun
  | [d1, d2, d3, d4] => { results := [.lit (.bool false)], args := [d1, d2, d3, d4] }
  | _ => none }
def FlowRoomWrongFalsely : Prop := flowRoomRow.holds Try.pinned (OpenSpec.ofChange flowRoomWrong)

/-- 'spatelaw15.FlowMany': WHATEVER THE INPUT: true; the input reads as it did. -/
def flowManySpec : ChangeSpec := { name := "flowMany", fn := fun _ => fun
  | [d1, d2] => { results := [.lit (.bool true)], args := [d1, d2] }
  | _ => none }
def flowManyRow : OpenClaim := { program := "ytapninpdjccglaa", sum := "fdea1af60481391d9250acd50edc614187b184c74b928c73db7c5c34a1a8b4cf", func := "spate/spatelaw15.FlowMany", spec := "flowMany", apart := false }
def FlowManySaid : Prop := flowManyRow.holds Try.pinned (OpenSpec.ofChange flowManySpec)

/-- ITS FALSE NEIGHBOUR: 'it returns false'. Refute it at one input. -/
def flowManyWrong : ChangeSpec := { name := "flowMany", fn := fun _ => fun
  | [d1, d2] => { results := [.lit (.bool false)], args := [d1, d2] }
  | _ => none }
def FlowManyWrongFalsely : Prop := flowManyRow.holds Try.pinned (OpenSpec.ofChange flowManyWrong)

/- THE SECOND FORM. 'bulk': how many values and letters a reading holds, each counted each time it is reached (what is shared counts as often as it is met; a slice's spare places count too). A statement '..UptoSaid' is the law's where the arguments, and the package variables that the reading takes, are together of bulk at most 1048576: NARROWER than '..Said'. Prove '..Said' where nothing that the law and all that it calls make is longer than what came in: it says more and counts as full. Else prove '..UptoSaid'. A law counts once. -/
mutual
def uptoBulk {H : Type} : DataW H → Nat
  | .lit (.string bytes) => bytes.length + 1
  | .lit _ => 1
  | .nil => 1
  | .ptr d => uptoBulk d + 1
  | .slice elems spare => uptoBulkAll elems + uptoBulkAll spare + 1
  | .agg parts => uptoBulkAll parts + 1
  | .iface _ d => uptoBulk d + 1
  | .map entries => uptoBulkEntries entries + 1
  | .held _ => 1
def uptoBulkAll {H : Type} : List (DataW H) → Nat
  | [] => 0
  | d :: r => uptoBulk d + uptoBulkAll r
def uptoBulkEntries {H : Type} : List (Lit × DataW H) → Nat
  | [] => 0
  | x :: r => uptoBulkEntry x + uptoBulkEntries r
def uptoBulkEntry {H : Type} : Lit × DataW H → Nat
  | (.string bytes, d) => bytes.length + uptoBulk d + 1
  | (_, d) => uptoBulk d + 1
 end
def uptoSmall : (H : Type) → List (DataW H) → Bool := fun _ ds => decide (uptoBulkAll ds ≤ 1048576)
def OpenSpec.upto (s : _root_.Go.ChangeSpec) : _root_.Go.OpenSpec := { _root_.Go.OpenSpec.ofChange s with cond := some uptoSmall }

/-- 'spatelaw15.FlowNames', WHERE WHAT IT READS IS OF BULK AT MOST 1048576: true; the input reads as it did. -/
def flowNamesUptoRow : OpenClaim := { program := "ytapninpdjccglaa", sum := "fdea1af60481391d9250acd50edc614187b184c74b928c73db7c5c34a1a8b4cf", func := "spate/spatelaw15.FlowNames", spec := "flowNames", apart := false, narrowed := true }
def FlowNamesUptoSaid : Prop := flowNamesUptoRow.holds Try.pinned (OpenSpec.upto flowNamesSpec)

/-- 'spatelaw15.FlowPlays', WHERE WHAT IT READS IS OF BULK AT MOST 1048576: true; the input reads as it did. -/
def flowPlaysUptoRow : OpenClaim := { program := "ytapninpdjccglaa", sum := "fdea1af60481391d9250acd50edc614187b184c74b928c73db7c5c34a1a8b4cf", func := "spate/spatelaw15.FlowPlays", spec := "flowPlays", apart := false, narrowed := true }
def FlowPlaysUptoSaid : Prop := flowPlaysUptoRow.holds Try.pinned (OpenSpec.upto flowPlaysSpec)

/-- 'spatelaw15.FlowRoutes', WHERE WHAT IT READS IS OF BULK AT MOST 1048576: true; the input reads as it did. -/
def flowRoutesUptoRow : OpenClaim := { program := "ytapninpdjccglaa", sum := "fdea1af60481391d9250acd50edc614187b184c74b928c73db7c5c34a1a8b4cf", func := "spate/spatelaw15.FlowRoutes", spec := "flowRoutes", apart := false, narrowed := true }
def FlowRoutesUptoSaid : Prop := flowRoutesUptoRow.holds Try.pinned (OpenSpec.upto flowRoutesSpec)

/-- 'spatelaw15.FlowOrder', WHERE WHAT IT READS IS OF BULK AT MOST 1048576: true; the input reads as it did. -/
def flowOrderUptoRow : OpenClaim := { program := "ytapninpdjccglaa", sum := "fdea1af60481391d9250acd50edc614187b184c74b928c73db7c5c34a1a8b4cf", func := "spate/spatelaw15.FlowOrder", spec := "flowOrder", apart := false, narrowed := true }
def FlowOrderUptoSaid : Prop := flowOrderUptoRow.holds Try.pinned (OpenSpec.upto flowOrderSpec)

/-- 'spatelaw15.FlowRoom', WHERE WHAT IT READS IS OF BULK AT MOST 1048576: true; the input reads as it did. -/
def flowRoomUptoRow : OpenClaim := { program := "ytapninpdjccglaa", sum := "fdea1af60481391d9250acd50edc614187b184c74b928c73db7c5c34a1a8b4cf", func := "spate/spatelaw15.FlowRoom", spec := "flowRoom", apart := false, narrowed := true }
def FlowRoomUptoSaid : Prop := flowRoomUptoRow.holds Try.pinned (OpenSpec.upto flowRoomSpec)

/-- 'spatelaw15.FlowMany', WHERE WHAT IT READS IS OF BULK AT MOST 1048576: true; the input reads as it did. -/
def flowManyUptoRow : OpenClaim := { program := "ytapninpdjccglaa", sum := "fdea1af60481391d9250acd50edc614187b184c74b928c73db7c5c34a1a8b4cf", func := "spate/spatelaw15.FlowMany", spec := "flowMany", apart := false, narrowed := true }
def FlowManyUptoSaid : Prop := flowManyUptoRow.holds Try.pinned (OpenSpec.upto flowManySpec)

end Rows
end Go.Proofs.Ytapninpdjccglaa
