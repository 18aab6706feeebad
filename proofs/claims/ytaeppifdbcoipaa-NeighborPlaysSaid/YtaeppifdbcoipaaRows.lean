/-
  No cell of these rows narrows 'for every input' (looked for: loops, veiled, ifaces, maps, wideKeys, modest, calm, conditions, laid).
  DERIVED. THE GIVEN ROWS OF THIS SEAT. 14 by the template 'for every input the law returns true; each argument reads behind the call as it read before'; 0 by the template 'total and deterministic' (their statements: YtaeppifdbcoipaaTotals.lean).
  GIVEN WITH THE SEED: the statements are not yours to turn. If you find one false, say at which input.
  Laid BY PROGRAM, IN A SANDBOX (cutbox-rows.mjs): the forced cells as the released guide's own fill.sh prints them over the translation 3ffc91bff98339c2… (all of the seat's roots in one cut). By AI agents, Wed Nov 11 2026. No macro, syntax, notation, axiom, sorry.
-/
import Derived.Test.YtaeppifdbcoipaaChecked
import GoSem.Claim
import GoSem.ClaimJoined
import GoSem.ClaimMapViews
import Derived.JoinedTies
import Derived.KernelRfl
namespace Go.Proofs.Ytaeppifdbcoipaa
/- THE CELL 'sum', in the pinned program and in every row, IS THE sha256 OF THE DUMP (.gsa) THAT YtaeppifdbcoipaaProg.lean LOADS. Nothing in Lean hashes anything: it is a label: what it is worth is what the hold of that sum in a sandbox is worth. -/
noncomputable def Try.pinned : Pinned := { name := "ytaeppifdbcoipaa", sum := "3ffc91bff98339c25a68a311f0f7fe6b8a78449319af18e4e96a119550494dfe", checked := Try.checked }
namespace Rows
def none {H : Type} : Left H := { results := [], args := [] }

/-- 'rivuletlaw31.IdealRanks': WHATEVER THE INPUT: true; the input reads as it did. -/
def idealRanksSpec : ChangeSpec := { name := "idealRanks", fn := fun _ => fun
  | [d1, d2, d3] => { results := [.lit (.bool true)], args := [d1, d2, d3] }
  | _ => none }
def idealRanksRow : OpenClaim := { program := "ytaeppifdbcoipaa", sum := "3ffc91bff98339c25a68a311f0f7fe6b8a78449319af18e4e96a119550494dfe", func := "rivulet/rivuletlaw31.IdealRanks", spec := "idealRanks", unfollowed := true, recurses := true, plainKeys := false, apart := false }
def IdealRanksSaid : Prop := idealRanksRow.holds Try.pinned (OpenSpec.ofChange idealRanksSpec)

/-- ITS FALSE NEIGHBOUR: 'it returns false'. Refute it at one input. -/
def idealRanksWrong : ChangeSpec := { name := "idealRanks", fn := fun _ => fun
  | [d1, d2, d3] => { results := [.lit (.bool false)], args := [d1, d2, d3] }
  | _ => none }
def IdealRanksWrongFalsely : Prop := idealRanksRow.holds Try.pinned (OpenSpec.ofChange idealRanksWrong)

/-- 'rivuletlaw31.IdealLeast': WHATEVER THE INPUT: true; the input reads as it did. -/
def idealLeastSpec : ChangeSpec := { name := "idealLeast", fn := fun _ => fun
  | [d1, d2, d3] => { results := [.lit (.bool true)], args := [d1, d2, d3] }
  | _ => none }
def idealLeastRow : OpenClaim := { program := "ytaeppifdbcoipaa", sum := "3ffc91bff98339c25a68a311f0f7fe6b8a78449319af18e4e96a119550494dfe", func := "rivulet/rivuletlaw31.IdealLeast", spec := "idealLeast", unfollowed := true, recurses := true, plainKeys := false, apart := false }
def IdealLeastSaid : Prop := idealLeastRow.holds Try.pinned (OpenSpec.ofChange idealLeastSpec)

/-- ITS FALSE NEIGHBOUR: 'it returns false'. Refute it at one input. -/
def idealLeastWrong : ChangeSpec := { name := "idealLeast", fn := fun _ => fun
  | [d1, d2, d3] => { results := [.lit (.bool false)], args := [d1, d2, d3] }
  | _ => none }
def IdealLeastWrongFalsely : Prop := idealLeastRow.holds Try.pinned (OpenSpec.ofChange idealLeastWrong)

/-- 'rivuletlaw31.IdealHeaps': WHATEVER THE INPUT: true; the input reads as it did. -/
def idealHeapsSpec : ChangeSpec := { name := "idealHeaps", fn := fun _ => fun
  | [d1, d2] => { results := [.lit (.bool true)], args := [d1, d2] }
  | _ => none }
def idealHeapsRow : OpenClaim := { program := "ytaeppifdbcoipaa", sum := "3ffc91bff98339c25a68a311f0f7fe6b8a78449319af18e4e96a119550494dfe", func := "rivulet/rivuletlaw31.IdealHeaps", spec := "idealHeaps", unfollowed := true, recurses := true, plainKeys := false, apart := false }
def IdealHeapsSaid : Prop := idealHeapsRow.holds Try.pinned (OpenSpec.ofChange idealHeapsSpec)

/-- ITS FALSE NEIGHBOUR: 'it returns false'. Refute it at one input. -/
def idealHeapsWrong : ChangeSpec := { name := "idealHeaps", fn := fun _ => fun
  | [d1, d2] => { results := [.lit (.bool false)], args := [d1, d2] }
  | _ => none }
def IdealHeapsWrongFalsely : Prop := idealHeapsRow.holds Try.pinned (OpenSpec.ofChange idealHeapsWrong)

/-- 'rivuletlaw16.HystPaths': WHATEVER THE INPUT: true; the input reads as it did. -/
def hystPathsSpec : ChangeSpec := { name := "hystPaths", fn := fun _ => fun
  | [d1, d2] => { results := [.lit (.bool true)], args := [d1, d2] }
  | _ => none }
def hystPathsRow : OpenClaim := { program := "ytaeppifdbcoipaa", sum := "3ffc91bff98339c25a68a311f0f7fe6b8a78449319af18e4e96a119550494dfe", func := "rivulet/rivuletlaw16.HystPaths", spec := "hystPaths", unfollowed := true, recurses := true, plainKeys := false, apart := false }
def HystPathsSaid : Prop := hystPathsRow.holds Try.pinned (OpenSpec.ofChange hystPathsSpec)

/-- ITS FALSE NEIGHBOUR: 'it returns false'. Refute it at one input. -/
def hystPathsWrong : ChangeSpec := { name := "hystPaths", fn := fun _ => fun
  | [d1, d2] => { results := [.lit (.bool false)], args := [d1, d2] }
  | _ => none }
def HystPathsWrongFalsely : Prop := hystPathsRow.holds Try.pinned (OpenSpec.ofChange hystPathsWrong)

/-- 'rivuletlaw16.HystStays': WHATEVER THE INPUT: true; the input reads as it did. -/
def hystStaysSpec : ChangeSpec := { name := "hystStays", fn := fun _ => fun
  | [d1, d2, d3] => { results := [.lit (.bool true)], args := [d1, d2, d3] }
  | _ => none }
def hystStaysRow : OpenClaim := { program := "ytaeppifdbcoipaa", sum := "3ffc91bff98339c25a68a311f0f7fe6b8a78449319af18e4e96a119550494dfe", func := "rivulet/rivuletlaw16.HystStays", spec := "hystStays", unfollowed := true, recurses := true, plainKeys := false, apart := false }
def HystStaysSaid : Prop := hystStaysRow.holds Try.pinned (OpenSpec.ofChange hystStaysSpec)

/-- ITS FALSE NEIGHBOUR: 'it returns false'. Refute it at one input. -/
def hystStaysWrong : ChangeSpec := { name := "hystStays", fn := fun _ => fun
  | [d1, d2, d3] => { results := [.lit (.bool false)], args := [d1, d2, d3] }
  | _ => none }
def HystStaysWrongFalsely : Prop := hystStaysRow.holds Try.pinned (OpenSpec.ofChange hystStaysWrong)

/-- 'rivuletlaw16.HystRanks': WHATEVER THE INPUT: true; the input reads as it did. -/
def hystRanksSpec : ChangeSpec := { name := "hystRanks", fn := fun _ => fun
  | [d1, d2, d3] => { results := [.lit (.bool true)], args := [d1, d2, d3] }
  | _ => none }
def hystRanksRow : OpenClaim := { program := "ytaeppifdbcoipaa", sum := "3ffc91bff98339c25a68a311f0f7fe6b8a78449319af18e4e96a119550494dfe", func := "rivulet/rivuletlaw16.HystRanks", spec := "hystRanks", unfollowed := true, recurses := true, plainKeys := false, apart := false }
def HystRanksSaid : Prop := hystRanksRow.holds Try.pinned (OpenSpec.ofChange hystRanksSpec)

/-- ITS FALSE NEIGHBOUR: 'it returns false'. Refute it at one input. -/
def hystRanksWrong : ChangeSpec := { name := "hystRanks", fn := fun _ => fun
  | [d1, d2, d3] => { results := [.lit (.bool false)], args := [d1, d2, d3] }
  | _ => none }
def HystRanksWrongFalsely : Prop := hystRanksRow.holds Try.pinned (OpenSpec.ofChange hystRanksWrong)

/-- 'rivuletlaw15.ZeroOrders': WHATEVER THE INPUT: true; the input reads as it did. -/
def zeroOrdersSpec : ChangeSpec := { name := "zeroOrders", fn := fun _ => fun
  | [d1, d2, d3, d4] => { results := [.lit (.bool true)], args := [d1, d2, d3, d4] }
  | _ => none }
def zeroOrdersRow : OpenClaim := { program := "ytaeppifdbcoipaa", sum := "3ffc91bff98339c25a68a311f0f7fe6b8a78449319af18e4e96a119550494dfe", func := "rivulet/rivuletlaw15.ZeroOrders", spec := "zeroOrders", unfollowed := true, recurses := true, plainKeys := false, apart := false }
def ZeroOrdersSaid : Prop := zeroOrdersRow.holds Try.pinned (OpenSpec.ofChange zeroOrdersSpec)

/-- ITS FALSE NEIGHBOUR: 'it returns false'. Refute it at one input. -/
def zeroOrdersWrong : ChangeSpec := { name := "zeroOrders", fn := fun _ => fun
  | [d1, d2, d3, d4] => { results := [.lit (.bool false)], args := [d1, d2, d3, d4] }
  | _ => none }
def ZeroOrdersWrongFalsely : Prop := zeroOrdersRow.holds Try.pinned (OpenSpec.ofChange zeroOrdersWrong)

/-- 'rivuletlaw15.ZeroStays': WHATEVER THE INPUT: true; the input reads as it did. -/
def zeroStaysSpec : ChangeSpec := { name := "zeroStays", fn := fun _ => fun
  | [d1, d2, d3, d4] => { results := [.lit (.bool true)], args := [d1, d2, d3, d4] }
  | _ => none }
def zeroStaysRow : OpenClaim := { program := "ytaeppifdbcoipaa", sum := "3ffc91bff98339c25a68a311f0f7fe6b8a78449319af18e4e96a119550494dfe", func := "rivulet/rivuletlaw15.ZeroStays", spec := "zeroStays", unfollowed := true, recurses := true, plainKeys := false, apart := false }
def ZeroStaysSaid : Prop := zeroStaysRow.holds Try.pinned (OpenSpec.ofChange zeroStaysSpec)

/-- ITS FALSE NEIGHBOUR: 'it returns false'. Refute it at one input. -/
def zeroStaysWrong : ChangeSpec := { name := "zeroStays", fn := fun _ => fun
  | [d1, d2, d3, d4] => { results := [.lit (.bool false)], args := [d1, d2, d3, d4] }
  | _ => none }
def ZeroStaysWrongFalsely : Prop := zeroStaysRow.holds Try.pinned (OpenSpec.ofChange zeroStaysWrong)

/-- 'rivuletlaw14.NeighborBest': WHATEVER THE INPUT: true; the input reads as it did. -/
def neighborBestSpec : ChangeSpec := { name := "neighborBest", fn := fun _ => fun
  | [d1, d2] => { results := [.lit (.bool true)], args := [d1, d2] }
  | _ => none }
def neighborBestRow : OpenClaim := { program := "ytaeppifdbcoipaa", sum := "3ffc91bff98339c25a68a311f0f7fe6b8a78449319af18e4e96a119550494dfe", func := "rivulet/rivuletlaw14.NeighborBest", spec := "neighborBest", unfollowed := true, recurses := true, plainKeys := false, apart := false }
def NeighborBestSaid : Prop := neighborBestRow.holds Try.pinned (OpenSpec.ofChange neighborBestSpec)

/-- ITS FALSE NEIGHBOUR: 'it returns false'. Refute it at one input. -/
def neighborBestWrong : ChangeSpec := { name := "neighborBest", fn := fun _ => fun
  | [d1, d2] => { results := [.lit (.bool false)], args := [d1, d2] }
  | _ => none }
def NeighborBestWrongFalsely : Prop := neighborBestRow.holds Try.pinned (OpenSpec.ofChange neighborBestWrong)

/-- 'rivuletlaw16.HystBehind': WHATEVER THE INPUT: true; the input reads as it did. -/
def hystBehindSpec : ChangeSpec := { name := "hystBehind", fn := fun _ => fun
  | [d1, d2, d3, d4] => { results := [.lit (.bool true)], args := [d1, d2, d3, d4] }
  | _ => none }
def hystBehindRow : OpenClaim := { program := "ytaeppifdbcoipaa", sum := "3ffc91bff98339c25a68a311f0f7fe6b8a78449319af18e4e96a119550494dfe", func := "rivulet/rivuletlaw16.HystBehind", spec := "hystBehind", unfollowed := true, recurses := true, plainKeys := false, apart := false }
def HystBehindSaid : Prop := hystBehindRow.holds Try.pinned (OpenSpec.ofChange hystBehindSpec)

/-- ITS FALSE NEIGHBOUR: 'it returns false'. Refute it at one input. -/
def hystBehindWrong : ChangeSpec := { name := "hystBehind", fn := fun _ => fun
  | [d1, d2, d3, d4] => { results := [.lit (.bool false)], args := [d1, d2, d3, d4] }
  | _ => none }
def HystBehindWrongFalsely : Prop := hystBehindRow.holds Try.pinned (OpenSpec.ofChange hystBehindWrong)

/-- 'rivuletlaw14.NeighborKeeps': WHATEVER THE INPUT: true; the input reads as it did. -/
def neighborKeepsSpec : ChangeSpec := { name := "neighborKeeps", fn := fun _ => fun
  | [d1, d2, d3] => { results := [.lit (.bool true)], args := [d1, d2, d3] }
  | _ => none }
def neighborKeepsRow : OpenClaim := { program := "ytaeppifdbcoipaa", sum := "3ffc91bff98339c25a68a311f0f7fe6b8a78449319af18e4e96a119550494dfe", func := "rivulet/rivuletlaw14.NeighborKeeps", spec := "neighborKeeps", unfollowed := true, recurses := true, plainKeys := false, apart := false }
def NeighborKeepsSaid : Prop := neighborKeepsRow.holds Try.pinned (OpenSpec.ofChange neighborKeepsSpec)

/-- ITS FALSE NEIGHBOUR: 'it returns false'. Refute it at one input. -/
def neighborKeepsWrong : ChangeSpec := { name := "neighborKeeps", fn := fun _ => fun
  | [d1, d2, d3] => { results := [.lit (.bool false)], args := [d1, d2, d3] }
  | _ => none }
def NeighborKeepsWrongFalsely : Prop := neighborKeepsRow.holds Try.pinned (OpenSpec.ofChange neighborKeepsWrong)

/-- 'rivuletlaw14.NeighborPlays': WHATEVER THE INPUT: true; the input reads as it did. -/
def neighborPlaysSpec : ChangeSpec := { name := "neighborPlays", fn := fun _ => fun
  | [d1, d2, d3, d4] => { results := [.lit (.bool true)], args := [d1, d2, d3, d4] }
  | _ => none }
def neighborPlaysRow : OpenClaim := { program := "ytaeppifdbcoipaa", sum := "3ffc91bff98339c25a68a311f0f7fe6b8a78449319af18e4e96a119550494dfe", func := "rivulet/rivuletlaw14.NeighborPlays", spec := "neighborPlays", inPlace := ["maps.clone"], unfollowed := true, recurses := true, plainKeys := false, apart := false }
def NeighborPlaysSaid : Prop := neighborPlaysRow.holds Try.pinned (OpenSpec.ofChange neighborPlaysSpec)

/-- ITS FALSE NEIGHBOUR: 'it returns false'. Refute it at one input. -/
def neighborPlaysWrong : ChangeSpec := { name := "neighborPlays", fn := fun _ => fun
  | [d1, d2, d3, d4] => { results := [.lit (.bool false)], args := [d1, d2, d3, d4] }
  | _ => none }
def NeighborPlaysWrongFalsely : Prop := neighborPlaysRow.holds Try.pinned (OpenSpec.ofChange neighborPlaysWrong)

/-- 'rivuletlaw17.ParentsBehind': WHATEVER THE INPUT: true; the input reads as it did. -/
def parentsBehindSpec : ChangeSpec := { name := "parentsBehind", fn := fun _ => fun
  | [d1, d2, d3, d4] => { results := [.lit (.bool true)], args := [d1, d2, d3, d4] }
  | _ => none }
def parentsBehindRow : OpenClaim := { program := "ytaeppifdbcoipaa", sum := "3ffc91bff98339c25a68a311f0f7fe6b8a78449319af18e4e96a119550494dfe", func := "rivulet/rivuletlaw17.ParentsBehind", spec := "parentsBehind", unfollowed := true, recurses := true, plainKeys := false, apart := false }
def ParentsBehindSaid : Prop := parentsBehindRow.holds Try.pinned (OpenSpec.ofChange parentsBehindSpec)

/-- ITS FALSE NEIGHBOUR: 'it returns false'. Refute it at one input. -/
def parentsBehindWrong : ChangeSpec := { name := "parentsBehind", fn := fun _ => fun
  | [d1, d2, d3, d4] => { results := [.lit (.bool false)], args := [d1, d2, d3, d4] }
  | _ => none }
def ParentsBehindWrongFalsely : Prop := parentsBehindRow.holds Try.pinned (OpenSpec.ofChange parentsBehindWrong)

/-- 'rivuletlaw17.ParentsDefault': WHATEVER THE INPUT: true; the input reads as it did. -/
def parentsDefaultSpec : ChangeSpec := { name := "parentsDefault", fn := fun _ => fun
  | [d] => { results := [.lit (.bool true)], args := [d] }
  | _ => none }
def parentsDefaultRow : OpenClaim := { program := "ytaeppifdbcoipaa", sum := "3ffc91bff98339c25a68a311f0f7fe6b8a78449319af18e4e96a119550494dfe", func := "rivulet/rivuletlaw17.ParentsDefault", spec := "parentsDefault", unfollowed := true, recurses := true, plainKeys := false, apart := false }
def ParentsDefaultSaid : Prop := parentsDefaultRow.holds Try.pinned (OpenSpec.ofChange parentsDefaultSpec)

/-- ITS FALSE NEIGHBOUR: 'it returns false'. Refute it at one input. -/
def parentsDefaultWrong : ChangeSpec := { name := "parentsDefault", fn := fun _ => fun
  | [d] => { results := [.lit (.bool false)], args := [d] }
  | _ => none }
def ParentsDefaultWrongFalsely : Prop := parentsDefaultRow.holds Try.pinned (OpenSpec.ofChange parentsDefaultWrong)

/- THE SECOND FORM. 'bulk': how many values and letters a reading holds, each counted each time it is reached (what is shared counts as often as it is met; a slice's spare places count too). A statement '..UptoSaid' is the law's where the arguments, and the package variables that the reading takes, are together of bulk at most 1048576: NARROWER than '..Said'. Prove '..Said' where nothing that the law and all that it calls make is longer than what came in: it says more and counts as full. Else prove '..UptoSaid'. A law counts once. -/
mutual
def uptoBulk {H : Type} : DataW H → Nat
  | .lit (.string bytes) => bytes.length + 1
  | .lit _ => 1
  | .nil => 1
  | .ptr d => uptoBulk d + 1
  | .slice elems spare => uptoBulkAll elems + uptoBulkAll spare + 1
  | .agg parts => uptoBulkAll parts + 1
  | .iface _ d => uptoBulk d + 1
  | .map entries => uptoBulkEntries entries + 1
  | .held _ => 1
def uptoBulkAll {H : Type} : List (DataW H) → Nat
  | [] => 0
  | d :: r => uptoBulk d + uptoBulkAll r
def uptoBulkEntries {H : Type} : List (Lit × DataW H) → Nat
  | [] => 0
  | x :: r => uptoBulkEntry x + uptoBulkEntries r
def uptoBulkEntry {H : Type} : Lit × DataW H → Nat
  | (.string bytes, d) => bytes.length + uptoBulk d + 1
  | (_, d) => uptoBulk d + 1
 end
def uptoSmall : (H : Type) → List (DataW H) → Bool := fun _ ds => decide (uptoBulkAll ds ≤ 1048576)
def OpenSpec.upto (s : _root_.Go.ChangeSpec) : _root_.Go.OpenSpec := { _root_.Go.OpenSpec.ofChange s with cond := some uptoSmall }

/-- 'rivuletlaw31.IdealRanks', WHERE WHAT IT READS IS OF BULK AT MOST 1048576: true; the input reads as it did. -/
def idealRanksUptoRow : OpenClaim := { program := "ytaeppifdbcoipaa", sum := "3ffc91bff98339c25a68a311f0f7fe6b8a78449319af18e4e96a119550494dfe", func := "rivulet/rivuletlaw31.IdealRanks", spec := "idealRanks", unfollowed := true, recurses := true, plainKeys := false, apart := false, narrowed := true }
def IdealRanksUptoSaid : Prop := idealRanksUptoRow.holds Try.pinned (OpenSpec.upto idealRanksSpec)

/-- 'rivuletlaw31.IdealLeast', WHERE WHAT IT READS IS OF BULK AT MOST 1048576: true; the input reads as it did. -/
def idealLeastUptoRow : OpenClaim := { program := "ytaeppifdbcoipaa", sum := "3ffc91bff98339c25a68a311f0f7fe6b8a78449319af18e4e96a119550494dfe", func := "rivulet/rivuletlaw31.IdealLeast", spec := "idealLeast", unfollowed := true, recurses := true, plainKeys := false, apart := false, narrowed := true }
def IdealLeastUptoSaid : Prop := idealLeastUptoRow.holds Try.pinned (OpenSpec.upto idealLeastSpec)

/-- 'rivuletlaw31.IdealHeaps', WHERE WHAT IT READS IS OF BULK AT MOST 1048576: true; the input reads as it did. -/
def idealHeapsUptoRow : OpenClaim := { program := "ytaeppifdbcoipaa", sum := "3ffc91bff98339c25a68a311f0f7fe6b8a78449319af18e4e96a119550494dfe", func := "rivulet/rivuletlaw31.IdealHeaps", spec := "idealHeaps", unfollowed := true, recurses := true, plainKeys := false, apart := false, narrowed := true }
def IdealHeapsUptoSaid : Prop := idealHeapsUptoRow.holds Try.pinned (OpenSpec.upto idealHeapsSpec)

/-- 'rivuletlaw16.HystPaths', WHERE WHAT IT READS IS OF BULK AT MOST 1048576: true; the input reads as it did. -/
def hystPathsUptoRow : OpenClaim := { program := "ytaeppifdbcoipaa", sum := "3ffc91bff98339c25a68a311f0f7fe6b8a78449319af18e4e96a119550494dfe", func := "rivulet/rivuletlaw16.HystPaths", spec := "hystPaths", unfollowed := true, recurses := true, plainKeys := false, apart := false, narrowed := true }
def HystPathsUptoSaid : Prop := hystPathsUptoRow.holds Try.pinned (OpenSpec.upto hystPathsSpec)

/-- 'rivuletlaw16.HystStays', WHERE WHAT IT READS IS OF BULK AT MOST 1048576: true; the input reads as it did. -/
def hystStaysUptoRow : OpenClaim := { program := "ytaeppifdbcoipaa", sum := "3ffc91bff98339c25a68a311f0f7fe6b8a78449319af18e4e96a119550494dfe", func := "rivulet/rivuletlaw16.HystStays", spec := "hystStays", unfollowed := true, recurses := true, plainKeys := false, apart := false, narrowed := true }
def HystStaysUptoSaid : Prop := hystStaysUptoRow.holds Try.pinned (OpenSpec.upto hystStaysSpec)

/-- 'rivuletlaw16.HystRanks', WHERE WHAT IT READS IS OF BULK AT MOST 1048576: true; the input reads as it did. -/
def hystRanksUptoRow : OpenClaim := { program := "ytaeppifdbcoipaa", sum := "3ffc91bff98339c25a68a311f0f7fe6b8a78449319af18e4e96a119550494dfe", func := "rivulet/rivuletlaw16.HystRanks", spec := "hystRanks", unfollowed := true, recurses := true, plainKeys := false, apart := false, narrowed := true }
def HystRanksUptoSaid : Prop := hystRanksUptoRow.holds Try.pinned (OpenSpec.upto hystRanksSpec)

/-- 'rivuletlaw15.ZeroOrders', WHERE WHAT IT READS IS OF BULK AT MOST 1048576: true; the input reads as it did. -/
def zeroOrdersUptoRow : OpenClaim := { program := "ytaeppifdbcoipaa", sum := "3ffc91bff98339c25a68a311f0f7fe6b8a78449319af18e4e96a119550494dfe", func := "rivulet/rivuletlaw15.ZeroOrders", spec := "zeroOrders", unfollowed := true, recurses := true, plainKeys := false, apart := false, narrowed := true }
def ZeroOrdersUptoSaid : Prop := zeroOrdersUptoRow.holds Try.pinned (OpenSpec.upto zeroOrdersSpec)

/-- 'rivuletlaw15.ZeroStays', WHERE WHAT IT READS IS OF BULK AT MOST 1048576: true; the input reads as it did. -/
def zeroStaysUptoRow : OpenClaim := { program := "ytaeppifdbcoipaa", sum := "3ffc91bff98339c25a68a311f0f7fe6b8a78449319af18e4e96a119550494dfe", func := "rivulet/rivuletlaw15.ZeroStays", spec := "zeroStays", unfollowed := true, recurses := true, plainKeys := false, apart := false, narrowed := true }
def ZeroStaysUptoSaid : Prop := zeroStaysUptoRow.holds Try.pinned (OpenSpec.upto zeroStaysSpec)

/-- 'rivuletlaw14.NeighborBest', WHERE WHAT IT READS IS OF BULK AT MOST 1048576: true; the input reads as it did. -/
def neighborBestUptoRow : OpenClaim := { program := "ytaeppifdbcoipaa", sum := "3ffc91bff98339c25a68a311f0f7fe6b8a78449319af18e4e96a119550494dfe", func := "rivulet/rivuletlaw14.NeighborBest", spec := "neighborBest", unfollowed := true, recurses := true, plainKeys := false, apart := false, narrowed := true }
def NeighborBestUptoSaid : Prop := neighborBestUptoRow.holds Try.pinned (OpenSpec.upto neighborBestSpec)

/-- 'rivuletlaw16.HystBehind', WHERE WHAT IT READS IS OF BULK AT MOST 1048576: true; the input reads as it did. -/
def hystBehindUptoRow : OpenClaim := { program := "ytaeppifdbcoipaa", sum := "3ffc91bff98339c25a68a311f0f7fe6b8a78449319af18e4e96a119550494dfe", func := "rivulet/rivuletlaw16.HystBehind", spec := "hystBehind", unfollowed := true, recurses := true, plainKeys := false, apart := false, narrowed := true }
def HystBehindUptoSaid : Prop := hystBehindUptoRow.holds Try.pinned (OpenSpec.upto hystBehindSpec)

/-- 'rivuletlaw14.NeighborKeeps', WHERE WHAT IT READS IS OF BULK AT MOST 1048576: true; the input reads as it did. -/
def neighborKeepsUptoRow : OpenClaim := { program := "ytaeppifdbcoipaa", sum := "3ffc91bff98339c25a68a311f0f7fe6b8a78449319af18e4e96a119550494dfe", func := "rivulet/rivuletlaw14.NeighborKeeps", spec := "neighborKeeps", unfollowed := true, recurses := true, plainKeys := false, apart := false, narrowed := true }
def NeighborKeepsUptoSaid : Prop := neighborKeepsUptoRow.holds Try.pinned (OpenSpec.upto neighborKeepsSpec)

/-- 'rivuletlaw14.NeighborPlays', WHERE WHAT IT READS IS OF BULK AT MOST 1048576: true; the input reads as it did. -/
def neighborPlaysUptoRow : OpenClaim := { program := "ytaeppifdbcoipaa", sum := "3ffc91bff98339c25a68a311f0f7fe6b8a78449319af18e4e96a119550494dfe", func := "rivulet/rivuletlaw14.NeighborPlays", spec := "neighborPlays", inPlace := ["maps.clone"], unfollowed := true, recurses := true, plainKeys := false, apart := false, narrowed := true }
def NeighborPlaysUptoSaid : Prop := neighborPlaysUptoRow.holds Try.pinned (OpenSpec.upto neighborPlaysSpec)

/-- 'rivuletlaw17.ParentsBehind', WHERE WHAT IT READS IS OF BULK AT MOST 1048576: true; the input reads as it did. -/
def parentsBehindUptoRow : OpenClaim := { program := "ytaeppifdbcoipaa", sum := "3ffc91bff98339c25a68a311f0f7fe6b8a78449319af18e4e96a119550494dfe", func := "rivulet/rivuletlaw17.ParentsBehind", spec := "parentsBehind", unfollowed := true, recurses := true, plainKeys := false, apart := false, narrowed := true }
def ParentsBehindUptoSaid : Prop := parentsBehindUptoRow.holds Try.pinned (OpenSpec.upto parentsBehindSpec)

/-- 'rivuletlaw17.ParentsDefault', WHERE WHAT IT READS IS OF BULK AT MOST 1048576: true; the input reads as it did. -/
def parentsDefaultUptoRow : OpenClaim := { program := "ytaeppifdbcoipaa", sum := "3ffc91bff98339c25a68a311f0f7fe6b8a78449319af18e4e96a119550494dfe", func := "rivulet/rivuletlaw17.ParentsDefault", spec := "parentsDefault", unfollowed := true, recurses := true, plainKeys := false, apart := false, narrowed := true }
def ParentsDefaultUptoSaid : Prop := parentsDefaultUptoRow.holds Try.pinned (OpenSpec.upto parentsDefaultSpec)

end Rows
end Go.Proofs.Ytaeppifdbcoipaa
