/-
  No cell of these rows narrows 'for every input' (looked for: loops, veiled, ifaces, maps, wideKeys, modest, calm, conditions, laid).
  DERIVED. THE GIVEN ROWS OF THIS SEAT. 8 by the template 'for every input the law returns true; each argument reads behind the call as it read before'; 0 by the template 'total and deterministic' (their statements: YtgcnappgecdldaaTotals.lean).
  GIVEN WITH THE SEED: the statements are not yours to turn. If you find one false, say at which input.
  Laid BY PROGRAM, IN A SANDBOX (cutbox-rows.mjs): the forced cells as the released guide's own fill.sh prints them over the translation 433a5ddacd827e17… (all of the seat's roots in one cut). By AI agents, Wed Nov 11 2026. No macro, syntax, notation, axiom, sorry.
-/
import Derived.Test.YtgcnappgecdldaaChecked
import GoSem.Claim
import GoSem.ClaimJoined
import GoSem.ClaimMapViews
import Derived.JoinedTies
import Derived.KernelRfl
namespace Go.Proofs.Ytgcnappgecdldaa
/- THE CELL 'sum', in the pinned program and in every row, IS THE sha256 OF THE DUMP (.gsa) THAT YtgcnappgecdldaaProg.lean LOADS. Nothing in Lean hashes anything: it is a label: what it is worth is what the hold of that sum in a sandbox is worth. -/
noncomputable def Try.pinned : Pinned := { name := "ytgcnappgecdldaa", sum := "433a5ddacd827e17c1ce1b3948068daf0671fc19efdb47f60369b054f6e36567", checked := Try.checked }
namespace Rows
def none {H : Type} : Left H := { results := [], args := [] }

/-- 'spatelaw11.LocksNames': WHATEVER THE INPUT: true; the input reads as it did. -/
def locksNamesSpec : ChangeSpec := { name := "locksNames", fn := fun _ => fun
  | [] => { results := [.lit (.bool true)], args := [] }
  | _ => none }
def locksNamesRow : OpenClaim := { program := "ytgcnappgecdldaa", sum := "433a5ddacd827e17c1ce1b3948068daf0671fc19efdb47f60369b054f6e36567", func := "spate/spatelaw11.LocksNames", spec := "locksNames", apart := false }
def LocksNamesSaid : Prop := locksNamesRow.holds Try.pinned (OpenSpec.ofChange locksNamesSpec)

/-- ITS FALSE NEIGHBOUR: 'it returns false'. Refute it at one input. -/
def locksNamesWrong : ChangeSpec := { name := "locksNames", fn := fun _ => fun
  | [] => { results := [.lit (.bool false)], args := [] }
  | _ => none }
def LocksNamesWrongFalsely : Prop := locksNamesRow.holds Try.pinned (OpenSpec.ofChange locksNamesWrong)

/-- 'spatelaw11.LocksWide': WHATEVER THE INPUT: true; the input reads as it did. -/
def locksWideSpec : ChangeSpec := { name := "locksWide", fn := fun _ => fun
  | [d1, d2, d3, d4] => { results := [.lit (.bool true)], args := [d1, d2, d3, d4] }
  | _ => none }
def locksWideRow : OpenClaim := { program := "ytgcnappgecdldaa", sum := "433a5ddacd827e17c1ce1b3948068daf0671fc19efdb47f60369b054f6e36567", func := "spate/spatelaw11.LocksWide", spec := "locksWide", inPlace := ["internal/reflectlite.TypeOf"], unfollowed := true, recurses := true, apart := false }
def LocksWideSaid : Prop := locksWideRow.holds Try.pinned (OpenSpec.ofChange locksWideSpec)

/-- ITS FALSE NEIGHBOUR: 'it returns false'. Refute it at one input. -/
def locksWideWrong : ChangeSpec := { name := "locksWide", fn := fun _ => fun
  | [d1, d2, d3, d4] => { results := [.lit (.bool false)], args := [d1, d2, d3, d4] }
  | _ => none }
def LocksWideWrongFalsely : Prop := locksWideRow.holds Try.pinned (OpenSpec.ofChange locksWideWrong)

/-- 'spatelaw11.LocksPlays': WHATEVER THE INPUT: true; the input reads as it did. -/
def locksPlaysSpec : ChangeSpec := { name := "locksPlays", fn := fun _ => fun
  | [d1, d2] => { results := [.lit (.bool true)], args := [d1, d2] }
  | _ => none }
def locksPlaysRow : OpenClaim := { program := "ytgcnappgecdldaa", sum := "433a5ddacd827e17c1ce1b3948068daf0671fc19efdb47f60369b054f6e36567", func := "spate/spatelaw11.LocksPlays", spec := "locksPlays", inPlace := ["internal/reflectlite.TypeOf"], unfollowed := true, recurses := true, apart := false }
def LocksPlaysSaid : Prop := locksPlaysRow.holds Try.pinned (OpenSpec.ofChange locksPlaysSpec)

/-- ITS FALSE NEIGHBOUR: 'it returns false'. Refute it at one input. -/
def locksPlaysWrong : ChangeSpec := { name := "locksPlays", fn := fun _ => fun
  | [d1, d2] => { results := [.lit (.bool false)], args := [d1, d2] }
  | _ => none }
def LocksPlaysWrongFalsely : Prop := locksPlaysRow.holds Try.pinned (OpenSpec.ofChange locksPlaysWrong)

/-- 'spatelaw11.LocksFair': WHATEVER THE INPUT: true; the input reads as it did. -/
def locksFairSpec : ChangeSpec := { name := "locksFair", fn := fun _ => fun
  | [d1, d2] => { results := [.lit (.bool true)], args := [d1, d2] }
  | _ => none }
def locksFairRow : OpenClaim := { program := "ytgcnappgecdldaa", sum := "433a5ddacd827e17c1ce1b3948068daf0671fc19efdb47f60369b054f6e36567", func := "spate/spatelaw11.LocksFair", spec := "locksFair", inPlace := ["internal/reflectlite.TypeOf"], unfollowed := true, recurses := true, apart := false }
def LocksFairSaid : Prop := locksFairRow.holds Try.pinned (OpenSpec.ofChange locksFairSpec)

/-- ITS FALSE NEIGHBOUR: 'it returns false'. Refute it at one input. -/
def locksFairWrong : ChangeSpec := { name := "locksFair", fn := fun _ => fun
  | [d1, d2] => { results := [.lit (.bool false)], args := [d1, d2] }
  | _ => none }
def LocksFairWrongFalsely : Prop := locksFairRow.holds Try.pinned (OpenSpec.ofChange locksFairWrong)

/-- 'spatelaw11.LocksEnds': WHATEVER THE INPUT: true; the input reads as it did. -/
def locksEndsSpec : ChangeSpec := { name := "locksEnds", fn := fun _ => fun
  | [d1, d2] => { results := [.lit (.bool true)], args := [d1, d2] }
  | _ => none }
def locksEndsRow : OpenClaim := { program := "ytgcnappgecdldaa", sum := "433a5ddacd827e17c1ce1b3948068daf0671fc19efdb47f60369b054f6e36567", func := "spate/spatelaw11.LocksEnds", spec := "locksEnds", inPlace := ["internal/reflectlite.TypeOf"], unfollowed := true, recurses := true, apart := false }
def LocksEndsSaid : Prop := locksEndsRow.holds Try.pinned (OpenSpec.ofChange locksEndsSpec)

/-- ITS FALSE NEIGHBOUR: 'it returns false'. Refute it at one input. -/
def locksEndsWrong : ChangeSpec := { name := "locksEnds", fn := fun _ => fun
  | [d1, d2] => { results := [.lit (.bool false)], args := [d1, d2] }
  | _ => none }
def LocksEndsWrongFalsely : Prop := locksEndsRow.holds Try.pinned (OpenSpec.ofChange locksEndsWrong)

/-- 'spatelaw11.LocksNamed': WHATEVER THE INPUT: true; the input reads as it did. -/
def locksNamedSpec : ChangeSpec := { name := "locksNamed", fn := fun _ => fun
  | [d1, d2, d3] => { results := [.lit (.bool true)], args := [d1, d2, d3] }
  | _ => none }
def locksNamedRow : OpenClaim := { program := "ytgcnappgecdldaa", sum := "433a5ddacd827e17c1ce1b3948068daf0671fc19efdb47f60369b054f6e36567", func := "spate/spatelaw11.LocksNamed", spec := "locksNamed", inPlace := ["internal/reflectlite.TypeOf"], unfollowed := true, recurses := true, apart := false }
def LocksNamedSaid : Prop := locksNamedRow.holds Try.pinned (OpenSpec.ofChange locksNamedSpec)

/-- ITS FALSE NEIGHBOUR: 'it returns false'. Refute it at one input. -/
def locksNamedWrong : ChangeSpec := { name := "locksNamed", fn := fun _ => fun
  | [d1, d2, d3] => { results := [.lit (.bool false)], args := [d1, d2, d3] }
  | _ => none }
def LocksNamedWrongFalsely : Prop := locksNamedRow.holds Try.pinned (OpenSpec.ofChange locksNamedWrong)

/-- 'spatelaw11.LocksOwn': WHATEVER THE INPUT: true; the input reads as it did. -/
def locksOwnSpec : ChangeSpec := { name := "locksOwn", fn := fun _ => fun
  | [d1, d2, d3] => { results := [.lit (.bool true)], args := [d1, d2, d3] }
  | _ => none }
def locksOwnRow : OpenClaim := { program := "ytgcnappgecdldaa", sum := "433a5ddacd827e17c1ce1b3948068daf0671fc19efdb47f60369b054f6e36567", func := "spate/spatelaw11.LocksOwn", spec := "locksOwn", inPlace := ["internal/reflectlite.TypeOf"], unfollowed := true, recurses := true, apart := false }
def LocksOwnSaid : Prop := locksOwnRow.holds Try.pinned (OpenSpec.ofChange locksOwnSpec)

/-- ITS FALSE NEIGHBOUR: 'it returns false'. Refute it at one input. -/
def locksOwnWrong : ChangeSpec := { name := "locksOwn", fn := fun _ => fun
  | [d1, d2, d3] => { results := [.lit (.bool false)], args := [d1, d2, d3] }
  | _ => none }
def LocksOwnWrongFalsely : Prop := locksOwnRow.holds Try.pinned (OpenSpec.ofChange locksOwnWrong)

/-- 'spatelaw11.LocksBook': WHATEVER THE INPUT: true; the input reads as it did. -/
def locksBookSpec : ChangeSpec := { name := "locksBook", fn := fun _ => fun
  | [d1, d2, d3] => { results := [.lit (.bool true)], args := [d1, d2, d3] }
  | _ => none }
def locksBookRow : OpenClaim := { program := "ytgcnappgecdldaa", sum := "433a5ddacd827e17c1ce1b3948068daf0671fc19efdb47f60369b054f6e36567", func := "spate/spatelaw11.LocksBook", spec := "locksBook", inPlace := ["internal/reflectlite.TypeOf"], unfollowed := true, recurses := true, apart := false }
def LocksBookSaid : Prop := locksBookRow.holds Try.pinned (OpenSpec.ofChange locksBookSpec)

/-- ITS FALSE NEIGHBOUR: 'it returns false'. Refute it at one input. -/
def locksBookWrong : ChangeSpec := { name := "locksBook", fn := fun _ => fun
  | [d1, d2, d3] => { results := [.lit (.bool false)], args := [d1, d2, d3] }
  | _ => none }
def LocksBookWrongFalsely : Prop := locksBookRow.holds Try.pinned (OpenSpec.ofChange locksBookWrong)

/- THE SECOND FORM. 'bulk': how many values and letters a reading holds, each counted each time it is reached (what is shared counts as often as it is met; a slice's spare places count too). A statement '..UptoSaid' is the law's where the arguments, and the package variables that the reading takes, are together of bulk at most 1048576: NARROWER than '..Said'. Prove '..Said' where nothing that the law and all that it calls make is longer than what came in: it says more and counts as full. Else prove '..UptoSaid'. A law counts once. -/
mutual
def uptoBulk {H : Type} : DataW H → Nat
  | .lit (.string bytes) => bytes.length + 1
  | .lit _ => 1
  | .nil => 1
  | .ptr d => uptoBulk d + 1
  | .slice elems spare => uptoBulkAll elems + uptoBulkAll spare + 1
  | .agg parts => uptoBulkAll parts + 1
  | .iface _ d => uptoBulk d + 1
  | .map entries => uptoBulkEntries entries + 1
  | .held _ => 1
def uptoBulkAll {H : Type} : List (DataW H) → Nat
  | [] => 0
  | d :: r => uptoBulk d + uptoBulkAll r
def uptoBulkEntries {H : Type} : List (Lit × DataW H) → Nat
  | [] => 0
  | x :: r => uptoBulkEntry x + uptoBulkEntries r
def uptoBulkEntry {H : Type} : Lit × DataW H → Nat
  | (.string bytes, d) => bytes.length + uptoBulk d + 1
  | (_, d) => uptoBulk d + 1
 end
def uptoSmall : (H : Type) → List (DataW H) → Bool := fun _ ds => decide (uptoBulkAll ds ≤ 1048576)
def OpenSpec.upto (s : _root_.Go.ChangeSpec) : _root_.Go.OpenSpec := { _root_.Go.OpenSpec.ofChange s with cond := some uptoSmall }

/-- 'spatelaw11.LocksNames', WHERE WHAT IT READS IS OF BULK AT MOST 1048576: true; the input reads as it did. -/
def locksNamesUptoRow : OpenClaim := { program := "ytgcnappgecdldaa", sum := "433a5ddacd827e17c1ce1b3948068daf0671fc19efdb47f60369b054f6e36567", func := "spate/spatelaw11.LocksNames", spec := "locksNames", apart := false, narrowed := true }
def LocksNamesUptoSaid : Prop := locksNamesUptoRow.holds Try.pinned (OpenSpec.upto locksNamesSpec)

/-- 'spatelaw11.LocksWide', WHERE WHAT IT READS IS OF BULK AT MOST 1048576: true; the input reads as it did. -/
def locksWideUptoRow : OpenClaim := { program := "ytgcnappgecdldaa", sum := "433a5ddacd827e17c1ce1b3948068daf0671fc19efdb47f60369b054f6e36567", func := "spate/spatelaw11.LocksWide", spec := "locksWide", inPlace := ["internal/reflectlite.TypeOf"], unfollowed := true, recurses := true, apart := false, narrowed := true }
def LocksWideUptoSaid : Prop := locksWideUptoRow.holds Try.pinned (OpenSpec.upto locksWideSpec)

/-- 'spatelaw11.LocksPlays', WHERE WHAT IT READS IS OF BULK AT MOST 1048576: true; the input reads as it did. -/
def locksPlaysUptoRow : OpenClaim := { program := "ytgcnappgecdldaa", sum := "433a5ddacd827e17c1ce1b3948068daf0671fc19efdb47f60369b054f6e36567", func := "spate/spatelaw11.LocksPlays", spec := "locksPlays", inPlace := ["internal/reflectlite.TypeOf"], unfollowed := true, recurses := true, apart := false, narrowed := true }
def LocksPlaysUptoSaid : Prop := locksPlaysUptoRow.holds Try.pinned (OpenSpec.upto locksPlaysSpec)

/-- 'spatelaw11.LocksFair', WHERE WHAT IT READS IS OF BULK AT MOST 1048576: true; the input reads as it did. -/
def locksFairUptoRow : OpenClaim := { program := "ytgcnappgecdldaa", sum := "433a5ddacd827e17c1ce1b3948068daf0671fc19efdb47f60369b054f6e36567", func := "spate/spatelaw11.LocksFair", spec := "locksFair", inPlace := ["internal/reflectlite.TypeOf"], unfollowed := true, recurses := true, apart := false, narrowed := true }
def LocksFairUptoSaid : Prop := locksFairUptoRow.holds Try.pinned (OpenSpec.upto locksFairSpec)

/-- 'spatelaw11.LocksEnds', WHERE WHAT IT READS IS OF BULK AT MOST 1048576: true; the input reads as it did. -/
def locksEndsUptoRow : OpenClaim := { program := "ytgcnappgecdldaa", sum := "433a5ddacd827e17c1ce1b3948068daf0671fc19efdb47f60369b054f6e36567", func := "spate/spatelaw11.LocksEnds", spec := "locksEnds", inPlace := ["internal/reflectlite.TypeOf"], unfollowed := true, recurses := true, apart := false, narrowed := true }
def LocksEndsUptoSaid : Prop := locksEndsUptoRow.holds Try.pinned (OpenSpec.upto locksEndsSpec)

/-- 'spatelaw11.LocksNamed', WHERE WHAT IT READS IS OF BULK AT MOST 1048576: true; the input reads as it did. -/
def locksNamedUptoRow : OpenClaim := { program := "ytgcnappgecdldaa", sum := "433a5ddacd827e17c1ce1b3948068daf0671fc19efdb47f60369b054f6e36567", func := "spate/spatelaw11.LocksNamed", spec := "locksNamed", inPlace := ["internal/reflectlite.TypeOf"], unfollowed := true, recurses := true, apart := false, narrowed := true }
def LocksNamedUptoSaid : Prop := locksNamedUptoRow.holds Try.pinned (OpenSpec.upto locksNamedSpec)

/-- 'spatelaw11.LocksOwn', WHERE WHAT IT READS IS OF BULK AT MOST 1048576: true; the input reads as it did. -/
def locksOwnUptoRow : OpenClaim := { program := "ytgcnappgecdldaa", sum := "433a5ddacd827e17c1ce1b3948068daf0671fc19efdb47f60369b054f6e36567", func := "spate/spatelaw11.LocksOwn", spec := "locksOwn", inPlace := ["internal/reflectlite.TypeOf"], unfollowed := true, recurses := true, apart := false, narrowed := true }
def LocksOwnUptoSaid : Prop := locksOwnUptoRow.holds Try.pinned (OpenSpec.upto locksOwnSpec)

/-- 'spatelaw11.LocksBook', WHERE WHAT IT READS IS OF BULK AT MOST 1048576: true; the input reads as it did. -/
def locksBookUptoRow : OpenClaim := { program := "ytgcnappgecdldaa", sum := "433a5ddacd827e17c1ce1b3948068daf0671fc19efdb47f60369b054f6e36567", func := "spate/spatelaw11.LocksBook", spec := "locksBook", inPlace := ["internal/reflectlite.TypeOf"], unfollowed := true, recurses := true, apart := false, narrowed := true }
def LocksBookUptoSaid : Prop := locksBookUptoRow.holds Try.pinned (OpenSpec.upto locksBookSpec)

end Rows
end Go.Proofs.Ytgcnappgecdldaa
