/-
  No cell of these rows narrows 'for every input' (looked for: loops, veiled, ifaces, maps, wideKeys, modest, calm, conditions, laid).
  DERIVED. THE GIVEN ROWS OF THIS SEAT. 9 by the template 'for every input the law returns true; each argument reads behind the call as it read before'; 0 by the template 'total and deterministic' (their statements: YtalabfbnbiagiaaTotals.lean).
  GIVEN WITH THE SEED: the statements are not yours to turn. If you find one false, say at which input.
  Laid BY PROGRAM, IN A SANDBOX (cutbox-rows.mjs): the forced cells as the released guide's own fill.sh prints them over the translation d36bc29c74ef80c9… (all of the seat's roots in one cut). By AI agents, Wed Nov 11 2026. No macro, syntax, notation, axiom, sorry.
-/
import Derived.Test.YtalabfbnbiagiaaChecked
import GoSem.Claim
import GoSem.ClaimJoined
import GoSem.ClaimMapViews
import Derived.JoinedTies
import Derived.KernelRfl
namespace Go.Proofs.Ytalabfbnbiagiaa
/- THE CELL 'sum', in the pinned program and in every row, IS THE sha256 OF THE DUMP (.gsa) THAT YtalabfbnbiagiaaProg.lean LOADS. Nothing in Lean hashes anything: it is a label: what it is worth is what the hold of that sum in a sandbox is worth. -/
noncomputable def Try.pinned : Pinned := { name := "ytalabfbnbiagiaa", sum := "d36bc29c74ef80c95ed5ede5c43c22b2760072df1d156e2a652886686a5c9c97", checked := Try.checked }
namespace Rows
def none {H : Type} : Left H := { results := [], args := [] }

/-- 'spatelaw16.NetWay': WHATEVER THE INPUT: true; the input reads as it did. -/
def netWaySpec : ChangeSpec := { name := "netWay", fn := fun _ => fun
  | [d1, d2, d3] => { results := [.lit (.bool true)], args := [d1, d2, d3] }
  | _ => none }
def netWayRow : OpenClaim := { program := "ytalabfbnbiagiaa", sum := "d36bc29c74ef80c95ed5ede5c43c22b2760072df1d156e2a652886686a5c9c97", func := "spate/spatelaw16.NetWay", spec := "netWay", inPlace := ["sync/atomic.AddInt64", "sync/atomic.LoadInt64"], apart := false }
def NetWaySaid : Prop := netWayRow.holds Try.pinned (OpenSpec.ofChange netWaySpec)

/-- ITS FALSE NEIGHBOUR: 'it returns false'. Refute it at one input. -/
def netWayWrong : ChangeSpec := { name := "netWay", fn := fun _ => fun
  | [d1, d2, d3] => { results := [.lit (.bool false)], args := [d1, d2, d3] }
  | _ => none }
def NetWayWrongFalsely : Prop := netWayRow.holds Try.pinned (OpenSpec.ofChange netWayWrong)

/-- 'spatelaw16.NetOwn': WHATEVER THE INPUT: true; the input reads as it did. -/
def netOwnSpec : ChangeSpec := { name := "netOwn", fn := fun _ => fun
  | [d] => { results := [.lit (.bool true)], args := [d] }
  | _ => none }
def netOwnRow : OpenClaim := { program := "ytalabfbnbiagiaa", sum := "d36bc29c74ef80c95ed5ede5c43c22b2760072df1d156e2a652886686a5c9c97", func := "spate/spatelaw16.NetOwn", spec := "netOwn", inPlace := ["sync/atomic.AddInt64", "sync/atomic.LoadInt64"], apart := false }
def NetOwnSaid : Prop := netOwnRow.holds Try.pinned (OpenSpec.ofChange netOwnSpec)

/-- ITS FALSE NEIGHBOUR: 'it returns false'. Refute it at one input. -/
def netOwnWrong : ChangeSpec := { name := "netOwn", fn := fun _ => fun
  | [d] => { results := [.lit (.bool false)], args := [d] }
  | _ => none }
def NetOwnWrongFalsely : Prop := netOwnRow.holds Try.pinned (OpenSpec.ofChange netOwnWrong)

/-- 'spatelaw16.NetAnswers': WHATEVER THE INPUT: true; the input reads as it did. -/
def netAnswersSpec : ChangeSpec := { name := "netAnswers", fn := fun _ => fun
  | [d] => { results := [.lit (.bool true)], args := [d] }
  | _ => none }
def netAnswersRow : OpenClaim := { program := "ytalabfbnbiagiaa", sum := "d36bc29c74ef80c95ed5ede5c43c22b2760072df1d156e2a652886686a5c9c97", func := "spate/spatelaw16.NetAnswers", spec := "netAnswers", inPlace := ["sync/atomic.AddInt64", "sync/atomic.LoadInt64"], apart := false }
def NetAnswersSaid : Prop := netAnswersRow.holds Try.pinned (OpenSpec.ofChange netAnswersSpec)

/-- ITS FALSE NEIGHBOUR: 'it returns false'. Refute it at one input. -/
def netAnswersWrong : ChangeSpec := { name := "netAnswers", fn := fun _ => fun
  | [d] => { results := [.lit (.bool false)], args := [d] }
  | _ => none }
def NetAnswersWrongFalsely : Prop := netAnswersRow.holds Try.pinned (OpenSpec.ofChange netAnswersWrong)

/-- 'spatelaw16.NetCarries': WHATEVER THE INPUT: true; the input reads as it did. -/
def netCarriesSpec : ChangeSpec := { name := "netCarries", fn := fun _ => fun
  | [d1, d2, d3] => { results := [.lit (.bool true)], args := [d1, d2, d3] }
  | _ => none }
def netCarriesRow : OpenClaim := { program := "ytalabfbnbiagiaa", sum := "d36bc29c74ef80c95ed5ede5c43c22b2760072df1d156e2a652886686a5c9c97", func := "spate/spatelaw16.NetCarries", spec := "netCarries", inPlace := ["sync/atomic.AddInt64", "sync/atomic.LoadInt64"], apart := false }
def NetCarriesSaid : Prop := netCarriesRow.holds Try.pinned (OpenSpec.ofChange netCarriesSpec)

/-- ITS FALSE NEIGHBOUR: 'it returns false'. Refute it at one input. -/
def netCarriesWrong : ChangeSpec := { name := "netCarries", fn := fun _ => fun
  | [d1, d2, d3] => { results := [.lit (.bool false)], args := [d1, d2, d3] }
  | _ => none }
def NetCarriesWrongFalsely : Prop := netCarriesRow.holds Try.pinned (OpenSpec.ofChange netCarriesWrong)

/-- 'spatelaw16.NetMany': WHATEVER THE INPUT: true; the input reads as it did. -/
def netManySpec : ChangeSpec := { name := "netMany", fn := fun _ => fun
  | [d1, d2, d3] => { results := [.lit (.bool true)], args := [d1, d2, d3] }
  | _ => none }
def netManyRow : OpenClaim := { program := "ytalabfbnbiagiaa", sum := "d36bc29c74ef80c95ed5ede5c43c22b2760072df1d156e2a652886686a5c9c97", func := "spate/spatelaw16.NetMany", spec := "netMany", inPlace := ["sync/atomic.AddInt64", "sync/atomic.LoadInt64"], apart := false }
def NetManySaid : Prop := netManyRow.holds Try.pinned (OpenSpec.ofChange netManySpec)

/-- ITS FALSE NEIGHBOUR: 'it returns false'. Refute it at one input. -/
def netManyWrong : ChangeSpec := { name := "netMany", fn := fun _ => fun
  | [d1, d2, d3] => { results := [.lit (.bool false)], args := [d1, d2, d3] }
  | _ => none }
def NetManyWrongFalsely : Prop := netManyRow.holds Try.pinned (OpenSpec.ofChange netManyWrong)

/-- 'spatelaw16.NetPlays': WHATEVER THE INPUT: true; the input reads as it did. -/
def netPlaysSpec : ChangeSpec := { name := "netPlays", fn := fun _ => fun
  | [d1, d2, d3] => { results := [.lit (.bool true)], args := [d1, d2, d3] }
  | _ => none }
def netPlaysRow : OpenClaim := { program := "ytalabfbnbiagiaa", sum := "d36bc29c74ef80c95ed5ede5c43c22b2760072df1d156e2a652886686a5c9c97", func := "spate/spatelaw16.NetPlays", spec := "netPlays", inPlace := ["sync/atomic.AddInt64", "sync/atomic.LoadInt64"], apart := false }
def NetPlaysSaid : Prop := netPlaysRow.holds Try.pinned (OpenSpec.ofChange netPlaysSpec)

/-- ITS FALSE NEIGHBOUR: 'it returns false'. Refute it at one input. -/
def netPlaysWrong : ChangeSpec := { name := "netPlays", fn := fun _ => fun
  | [d1, d2, d3] => { results := [.lit (.bool false)], args := [d1, d2, d3] }
  | _ => none }
def NetPlaysWrongFalsely : Prop := netPlaysRow.holds Try.pinned (OpenSpec.ofChange netPlaysWrong)

/-- 'spatelaw16.NetApart': WHATEVER THE INPUT: true; the input reads as it did. -/
def netApartSpec : ChangeSpec := { name := "netApart", fn := fun _ => fun
  | [d1, d2, d3, d4] => { results := [.lit (.bool true)], args := [d1, d2, d3, d4] }
  | _ => none }
def netApartRow : OpenClaim := { program := "ytalabfbnbiagiaa", sum := "d36bc29c74ef80c95ed5ede5c43c22b2760072df1d156e2a652886686a5c9c97", func := "spate/spatelaw16.NetApart", spec := "netApart", inPlace := ["sync/atomic.AddInt64", "sync/atomic.LoadInt64"], apart := false }
def NetApartSaid : Prop := netApartRow.holds Try.pinned (OpenSpec.ofChange netApartSpec)

/-- ITS FALSE NEIGHBOUR: 'it returns false'. Refute it at one input. -/
def netApartWrong : ChangeSpec := { name := "netApart", fn := fun _ => fun
  | [d1, d2, d3, d4] => { results := [.lit (.bool false)], args := [d1, d2, d3, d4] }
  | _ => none }
def NetApartWrongFalsely : Prop := netApartRow.holds Try.pinned (OpenSpec.ofChange netApartWrong)

/-- 'spatelaw16.NetEnds': WHATEVER THE INPUT: true; the input reads as it did. -/
def netEndsSpec : ChangeSpec := { name := "netEnds", fn := fun _ => fun
  | [d1, d2, d3, d4] => { results := [.lit (.bool true)], args := [d1, d2, d3, d4] }
  | _ => none }
def netEndsRow : OpenClaim := { program := "ytalabfbnbiagiaa", sum := "d36bc29c74ef80c95ed5ede5c43c22b2760072df1d156e2a652886686a5c9c97", func := "spate/spatelaw16.NetEnds", spec := "netEnds", inPlace := ["sync/atomic.AddInt64", "sync/atomic.LoadInt64"], apart := false }
def NetEndsSaid : Prop := netEndsRow.holds Try.pinned (OpenSpec.ofChange netEndsSpec)

/-- ITS FALSE NEIGHBOUR: 'it returns false'. Refute it at one input. -/
def netEndsWrong : ChangeSpec := { name := "netEnds", fn := fun _ => fun
  | [d1, d2, d3, d4] => { results := [.lit (.bool false)], args := [d1, d2, d3, d4] }
  | _ => none }
def NetEndsWrongFalsely : Prop := netEndsRow.holds Try.pinned (OpenSpec.ofChange netEndsWrong)

/-- 'spatelaw16.NetNames': WHATEVER THE INPUT: true; the input reads as it did. -/
def netNamesSpec : ChangeSpec := { name := "netNames", fn := fun _ => fun
  | [] => { results := [.lit (.bool true)], args := [] }
  | _ => none }
def netNamesRow : OpenClaim := { program := "ytalabfbnbiagiaa", sum := "d36bc29c74ef80c95ed5ede5c43c22b2760072df1d156e2a652886686a5c9c97", func := "spate/spatelaw16.NetNames", spec := "netNames", inPlace := ["sync/atomic.AddInt64", "sync/atomic.LoadInt64"], apart := false }
def NetNamesSaid : Prop := netNamesRow.holds Try.pinned (OpenSpec.ofChange netNamesSpec)

/-- ITS FALSE NEIGHBOUR: 'it returns false'. Refute it at one input. -/
def netNamesWrong : ChangeSpec := { name := "netNames", fn := fun _ => fun
  | [] => { results := [.lit (.bool false)], args := [] }
  | _ => none }
def NetNamesWrongFalsely : Prop := netNamesRow.holds Try.pinned (OpenSpec.ofChange netNamesWrong)

/- THE SECOND FORM. 'bulk': how many values and letters a reading holds, each counted each time it is reached (what is shared counts as often as it is met; a slice's spare places count too). A statement '..UptoSaid' is the law's where the arguments, and the package variables that the reading takes, are together of bulk at most 1048576: NARROWER than '..Said'. Prove '..Said' where nothing that the law and all that it calls make is longer than what came in: it says more and counts as full. Else prove '..UptoSaid'. A law counts once. -/
mutual
def uptoBulk {H : Type} : DataW H → Nat
  | .lit (.string bytes) => bytes.length + 1
  | .lit _ => 1
  | .nil => 1
  | .ptr d => uptoBulk d + 1
  | .slice elems spare => uptoBulkAll elems + uptoBulkAll spare + 1
  | .agg parts => uptoBulkAll parts + 1
  | .iface _ d => uptoBulk d + 1
  | .map entries => uptoBulkEntries entries + 1
  | .held _ => 1
def uptoBulkAll {H : Type} : List (DataW H) → Nat
  | [] => 0
  | d :: r => uptoBulk d + uptoBulkAll r
def uptoBulkEntries {H : Type} : List (Lit × DataW H) → Nat
  | [] => 0
  | x :: r => uptoBulkEntry x + uptoBulkEntries r
def uptoBulkEntry {H : Type} : Lit × DataW H → Nat
  | (.string bytes, d) => bytes.length + uptoBulk d + 1
  | (_, d) => uptoBulk d + 1
 end
def uptoSmall : (H : Type) → List (DataW H) → Bool := fun _ ds => decide (uptoBulkAll ds ≤ 1048576)
def OpenSpec.upto (s : _root_.Go.ChangeSpec) : _root_.Go.OpenSpec := { _root_.Go.OpenSpec.ofChange s with cond := some uptoSmall }

/-- 'spatelaw16.NetWay', WHERE WHAT IT READS IS OF BULK AT MOST 1048576: true; the input reads as it did. -/
def netWayUptoRow : OpenClaim := { program := "ytalabfbnbiagiaa", sum := "d36bc29c74ef80c95ed5ede5c43c22b2760072df1d156e2a652886686a5c9c97", func := "spate/spatelaw16.NetWay", spec := "netWay", inPlace := ["sync/atomic.AddInt64", "sync/atomic.LoadInt64"], apart := false, narrowed := true }
def NetWayUptoSaid : Prop := netWayUptoRow.holds Try.pinned (OpenSpec.upto netWaySpec)

/-- 'spatelaw16.NetOwn', WHERE WHAT IT READS IS OF BULK AT MOST 1048576: true; the input reads as it did. -/
def netOwnUptoRow : OpenClaim := { program := "ytalabfbnbiagiaa", sum := "d36bc29c74ef80c95ed5ede5c43c22b2760072df1d156e2a652886686a5c9c97", func := "spate/spatelaw16.NetOwn", spec := "netOwn", inPlace := ["sync/atomic.AddInt64", "sync/atomic.LoadInt64"], apart := false, narrowed := true }
def NetOwnUptoSaid : Prop := netOwnUptoRow.holds Try.pinned (OpenSpec.upto netOwnSpec)

/-- 'spatelaw16.NetAnswers', WHERE WHAT IT READS IS OF BULK AT MOST 1048576: true; the input reads as it did. -/
def netAnswersUptoRow : OpenClaim := { program := "ytalabfbnbiagiaa", sum := "d36bc29c74ef80c95ed5ede5c43c22b2760072df1d156e2a652886686a5c9c97", func := "spate/spatelaw16.NetAnswers", spec := "netAnswers", inPlace := ["sync/atomic.AddInt64", "sync/atomic.LoadInt64"], apart := false, narrowed := true }
def NetAnswersUptoSaid : Prop := netAnswersUptoRow.holds Try.pinned (OpenSpec.upto netAnswersSpec)

/-- 'spatelaw16.NetCarries', WHERE WHAT IT READS IS OF BULK AT MOST 1048576: true; the input reads as it did. -/
def netCarriesUptoRow : OpenClaim := { program := "ytalabfbnbiagiaa", sum := "d36bc29c74ef80c95ed5ede5c43c22b2760072df1d156e2a652886686a5c9c97", func := "spate/spatelaw16.NetCarries", spec := "netCarries", inPlace := ["sync/atomic.AddInt64", "sync/atomic.LoadInt64"], apart := false, narrowed := true }
def NetCarriesUptoSaid : Prop := netCarriesUptoRow.holds Try.pinned (OpenSpec.upto netCarriesSpec)

/-- 'spatelaw16.NetMany', WHERE WHAT IT READS IS OF BULK AT MOST 1048576: true; the input reads as it did. -/
def netManyUptoRow : OpenClaim := { program := "ytalabfbnbiagiaa", sum := "d36bc29c74ef80c95ed5ede5c43c22b2760072df1d156e2a652886686a5c9c97", func := "spate/spatelaw16.NetMany", spec := "netMany", inPlace := ["sync/atomic.AddInt64", "sync/atomic.LoadInt64"], apart := false, narrowed := true }
def NetManyUptoSaid : Prop := netManyUptoRow.holds Try.pinned (OpenSpec.upto netManySpec)

/-- 'spatelaw16.NetPlays', WHERE WHAT IT READS IS OF BULK AT MOST 1048576: true; the input reads as it did. -/
def netPlaysUptoRow : OpenClaim := { program := "ytalabfbnbiagiaa", sum := "d36bc29c74ef80c95ed5ede5c43c22b2760072df1d156e2a652886686a5c9c97", func := "spate/spatelaw16.NetPlays", spec := "netPlays", inPlace := ["sync/atomic.AddInt64", "sync/atomic.LoadInt64"], apart := false, narrowed := true }
def NetPlaysUptoSaid : Prop := netPlaysUptoRow.holds Try.pinned (OpenSpec.upto netPlaysSpec)

/-- 'spatelaw16.NetApart', WHERE WHAT IT READS IS OF BULK AT MOST 1048576: true; the input reads as it did. -/
def netApartUptoRow : OpenClaim := { program := "ytalabfbnbiagiaa", sum := "d36bc29c74ef80c95ed5ede5c43c22b2760072df1d156e2a652886686a5c9c97", func := "spate/spatelaw16.NetApart", spec := "netApart", inPlace := ["sync/atomic.AddInt64", "sync/atomic.LoadInt64"], apart := false, narrowed := true }
def NetApartUptoSaid : Prop := netApartUptoRow.holds Try.pinned (OpenSpec.upto netApartSpec)

/-- 'spatelaw16.NetEnds', WHERE WHAT IT READS IS OF BULK AT MOST 1048576: true; the input reads as it did. -/
def netEndsUptoRow : OpenClaim := { program := "ytalabfbnbiagiaa", sum := "d36bc29c74ef80c95ed5ede5c43c22b2760072df1d156e2a652886686a5c9c97", func := "spate/spatelaw16.NetEnds", spec := "netEnds", inPlace := ["sync/atomic.AddInt64", "sync/atomic.LoadInt64"], apart := false, narrowed := true }
def NetEndsUptoSaid : Prop := netEndsUptoRow.holds Try.pinned (OpenSpec.upto netEndsSpec)

/-- 'spatelaw16.NetNames', WHERE WHAT IT READS IS OF BULK AT MOST 1048576: true; the input reads as it did. -/
def netNamesUptoRow : OpenClaim := { program := "ytalabfbnbiagiaa", sum := "d36bc29c74ef80c95ed5ede5c43c22b2760072df1d156e2a652886686a5c9c97", func := "spate/spatelaw16.NetNames", spec := "netNames", inPlace := ["sync/atomic.AddInt64", "sync/atomic.LoadInt64"], apart := false, narrowed := true }
def NetNamesUptoSaid : Prop := netNamesUptoRow.holds Try.pinned (OpenSpec.upto netNamesSpec)

end Rows
end Go.Proofs.Ytalabfbnbiagiaa
