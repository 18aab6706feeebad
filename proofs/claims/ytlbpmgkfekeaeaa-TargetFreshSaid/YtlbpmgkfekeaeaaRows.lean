/-
  No cell of these rows narrows 'for every input' (looked for: loops, veiled, ifaces, maps, wideKeys, modest, calm, conditions, laid).
  DERIVED. THE GIVEN ROWS OF THIS SEAT. 10 by the template 'for every input the law returns true; each argument reads behind the call as it read before'; 0 by the template 'total and deterministic' (their statements: YtlbpmgkfekeaeaaTotals.lean).
  GIVEN WITH THE SEED: the statements are not yours to turn. If you find one false, say at which input.
  Laid BY PROGRAM, IN A SANDBOX (cutbox-rows.mjs): the forced cells as the released guide's own fill.sh prints them over the translation a9b92f7921a21c3d… (all of the seat's roots in one cut). By AI agents, Wed Nov 11 2026. No macro, syntax, notation, axiom, sorry.
-/
import Derived.Test.YtlbpmgkfekeaeaaChecked
import GoSem.Claim
import GoSem.ClaimJoined
import GoSem.ClaimMapViews
import Derived.JoinedTies
import Derived.KernelRfl
namespace Go.Proofs.Ytlbpmgkfekeaeaa
/- THE CELL 'sum', in the pinned program and in every row, IS THE sha256 OF THE DUMP (.gsa) THAT YtlbpmgkfekeaeaaProg.lean LOADS. Nothing in Lean hashes anything: it is a label: what it is worth is what the hold of that sum in a sandbox is worth. -/
noncomputable def Try.pinned : Pinned := { name := "ytlbpmgkfekeaeaa", sum := "a9b92f7921a21c3d3e3b2c77676c199c709f97ab99fbced667ef043736ac2647", checked := Try.checked }
namespace Rows
def none {H : Type} : Left H := { results := [], args := [] }

/-- 'rivuletlaw15.ZeroRises': WHATEVER THE INPUT: true; the input reads as it did. -/
def zeroRisesSpec : ChangeSpec := { name := "zeroRises", fn := fun _ => fun
  | [d1, d2, d3, d4] => { results := [.lit (.bool true)], args := [d1, d2, d3, d4] }
  | _ => none }
def zeroRisesRow : OpenClaim := { program := "ytlbpmgkfekeaeaa", sum := "a9b92f7921a21c3d3e3b2c77676c199c709f97ab99fbced667ef043736ac2647", func := "rivulet/rivuletlaw15.ZeroRises", spec := "zeroRises", apart := false }
def ZeroRisesSaid : Prop := zeroRisesRow.holds Try.pinned (OpenSpec.ofChange zeroRisesSpec)

/-- ITS FALSE NEIGHBOUR: 'it returns false'. Refute it at one input. -/
def zeroRisesWrong : ChangeSpec := { name := "zeroRises", fn := fun _ => fun
  | [d1, d2, d3, d4] => { results := [.lit (.bool false)], args := [d1, d2, d3, d4] }
  | _ => none }
def ZeroRisesWrongFalsely : Prop := zeroRisesRow.holds Try.pinned (OpenSpec.ofChange zeroRisesWrong)

/-- 'rivuletlaw15.ZeroRanks': WHATEVER THE INPUT: true; the input reads as it did. -/
def zeroRanksSpec : ChangeSpec := { name := "zeroRanks", fn := fun _ => fun
  | [d1, d2, d3] => { results := [.lit (.bool true)], args := [d1, d2, d3] }
  | _ => none }
def zeroRanksRow : OpenClaim := { program := "ytlbpmgkfekeaeaa", sum := "a9b92f7921a21c3d3e3b2c77676c199c709f97ab99fbced667ef043736ac2647", func := "rivulet/rivuletlaw15.ZeroRanks", spec := "zeroRanks", unfollowed := true, recurses := true, apart := false }
def ZeroRanksSaid : Prop := zeroRanksRow.holds Try.pinned (OpenSpec.ofChange zeroRanksSpec)

/-- ITS FALSE NEIGHBOUR: 'it returns false'. Refute it at one input. -/
def zeroRanksWrong : ChangeSpec := { name := "zeroRanks", fn := fun _ => fun
  | [d1, d2, d3] => { results := [.lit (.bool false)], args := [d1, d2, d3] }
  | _ => none }
def ZeroRanksWrongFalsely : Prop := zeroRanksRow.holds Try.pinned (OpenSpec.ofChange zeroRanksWrong)

/-- 'rivuletlaw28.ScriptTicks': WHATEVER THE INPUT: true; the input reads as it did. -/
def scriptTicksSpec : ChangeSpec := { name := "scriptTicks", fn := fun _ => fun
  | [d1, d2] => { results := [.lit (.bool true)], args := [d1, d2] }
  | _ => none }
def scriptTicksRow : OpenClaim := { program := "ytlbpmgkfekeaeaa", sum := "a9b92f7921a21c3d3e3b2c77676c199c709f97ab99fbced667ef043736ac2647", func := "rivulet/rivuletlaw28.ScriptTicks", spec := "scriptTicks", unfollowed := true, recurses := true, apart := false }
def ScriptTicksSaid : Prop := scriptTicksRow.holds Try.pinned (OpenSpec.ofChange scriptTicksSpec)

/-- ITS FALSE NEIGHBOUR: 'it returns false'. Refute it at one input. -/
def scriptTicksWrong : ChangeSpec := { name := "scriptTicks", fn := fun _ => fun
  | [d1, d2] => { results := [.lit (.bool false)], args := [d1, d2] }
  | _ => none }
def ScriptTicksWrongFalsely : Prop := scriptTicksRow.holds Try.pinned (OpenSpec.ofChange scriptTicksWrong)

/-- 'rivuletlaw19.TargetFresh': WHATEVER THE INPUT: true; the input reads as it did. -/
def targetFreshSpec : ChangeSpec := { name := "targetFresh", fn := fun _ => fun
  | [d] => { results := [.lit (.bool true)], args := [d] }
  | _ => none }
def targetFreshRow : OpenClaim := { program := "ytlbpmgkfekeaeaa", sum := "a9b92f7921a21c3d3e3b2c77676c199c709f97ab99fbced667ef043736ac2647", func := "rivulet/rivuletlaw19.TargetFresh", spec := "targetFresh", unfollowed := true, recurses := true, apart := false }
def TargetFreshSaid : Prop := targetFreshRow.holds Try.pinned (OpenSpec.ofChange targetFreshSpec)

/-- ITS FALSE NEIGHBOUR: 'it returns false'. Refute it at one input. -/
def targetFreshWrong : ChangeSpec := { name := "targetFresh", fn := fun _ => fun
  | [d] => { results := [.lit (.bool false)], args := [d] }
  | _ => none }
def TargetFreshWrongFalsely : Prop := targetFreshRow.holds Try.pinned (OpenSpec.ofChange targetFreshWrong)

/-- 'rivuletlaw23.QueueOrders': WHATEVER THE INPUT: true; the input reads as it did. -/
def queueOrdersSpec : ChangeSpec := { name := "queueOrders", fn := fun _ => fun
  | [d1, d2] => { results := [.lit (.bool true)], args := [d1, d2] }
  | _ => none }
def queueOrdersRow : OpenClaim := { program := "ytlbpmgkfekeaeaa", sum := "a9b92f7921a21c3d3e3b2c77676c199c709f97ab99fbced667ef043736ac2647", func := "rivulet/rivuletlaw23.QueueOrders", spec := "queueOrders", unfollowed := true, recurses := true, apart := false }
def QueueOrdersSaid : Prop := queueOrdersRow.holds Try.pinned (OpenSpec.ofChange queueOrdersSpec)

/-- ITS FALSE NEIGHBOUR: 'it returns false'. Refute it at one input. -/
def queueOrdersWrong : ChangeSpec := { name := "queueOrders", fn := fun _ => fun
  | [d1, d2] => { results := [.lit (.bool false)], args := [d1, d2] }
  | _ => none }
def QueueOrdersWrongFalsely : Prop := queueOrdersRow.holds Try.pinned (OpenSpec.ofChange queueOrdersWrong)

/-- 'rivuletlaw28.ScriptEncodes': WHATEVER THE INPUT: true; the input reads as it did. -/
def scriptEncodesSpec : ChangeSpec := { name := "scriptEncodes", fn := fun _ => fun
  | [d] => { results := [.lit (.bool true)], args := [d] }
  | _ => none }
def scriptEncodesRow : OpenClaim := { program := "ytlbpmgkfekeaeaa", sum := "a9b92f7921a21c3d3e3b2c77676c199c709f97ab99fbced667ef043736ac2647", func := "rivulet/rivuletlaw28.ScriptEncodes", spec := "scriptEncodes", unfollowed := true, recurses := true, apart := false }
def ScriptEncodesSaid : Prop := scriptEncodesRow.holds Try.pinned (OpenSpec.ofChange scriptEncodesSpec)

/-- ITS FALSE NEIGHBOUR: 'it returns false'. Refute it at one input. -/
def scriptEncodesWrong : ChangeSpec := { name := "scriptEncodes", fn := fun _ => fun
  | [d] => { results := [.lit (.bool false)], args := [d] }
  | _ => none }
def ScriptEncodesWrongFalsely : Prop := scriptEncodesRow.holds Try.pinned (OpenSpec.ofChange scriptEncodesWrong)

/-- 'rivuletlaw28.ScriptDecodes': WHATEVER THE INPUT: true; the input reads as it did. -/
def scriptDecodesSpec : ChangeSpec := { name := "scriptDecodes", fn := fun _ => fun
  | [d] => { results := [.lit (.bool true)], args := [d] }
  | _ => none }
def scriptDecodesRow : OpenClaim := { program := "ytlbpmgkfekeaeaa", sum := "a9b92f7921a21c3d3e3b2c77676c199c709f97ab99fbced667ef043736ac2647", func := "rivulet/rivuletlaw28.ScriptDecodes", spec := "scriptDecodes", unfollowed := true, recurses := true, apart := false }
def ScriptDecodesSaid : Prop := scriptDecodesRow.holds Try.pinned (OpenSpec.ofChange scriptDecodesSpec)

/-- ITS FALSE NEIGHBOUR: 'it returns false'. Refute it at one input. -/
def scriptDecodesWrong : ChangeSpec := { name := "scriptDecodes", fn := fun _ => fun
  | [d] => { results := [.lit (.bool false)], args := [d] }
  | _ => none }
def ScriptDecodesWrongFalsely : Prop := scriptDecodesRow.holds Try.pinned (OpenSpec.ofChange scriptDecodesWrong)

/-- 'rivuletlaw28.ScriptJoins': WHATEVER THE INPUT: true; the input reads as it did. -/
def scriptJoinsSpec : ChangeSpec := { name := "scriptJoins", fn := fun _ => fun
  | [d1, d2] => { results := [.lit (.bool true)], args := [d1, d2] }
  | _ => none }
def scriptJoinsRow : OpenClaim := { program := "ytlbpmgkfekeaeaa", sum := "a9b92f7921a21c3d3e3b2c77676c199c709f97ab99fbced667ef043736ac2647", func := "rivulet/rivuletlaw28.ScriptJoins", spec := "scriptJoins", unfollowed := true, recurses := true, apart := false }
def ScriptJoinsSaid : Prop := scriptJoinsRow.holds Try.pinned (OpenSpec.ofChange scriptJoinsSpec)

/-- ITS FALSE NEIGHBOUR: 'it returns false'. Refute it at one input. -/
def scriptJoinsWrong : ChangeSpec := { name := "scriptJoins", fn := fun _ => fun
  | [d1, d2] => { results := [.lit (.bool false)], args := [d1, d2] }
  | _ => none }
def ScriptJoinsWrongFalsely : Prop := scriptJoinsRow.holds Try.pinned (OpenSpec.ofChange scriptJoinsWrong)

/-- 'rivuletlaw25.BagMoves': WHATEVER THE INPUT: true; the input reads as it did. -/
def bagMovesSpec : ChangeSpec := { name := "bagMoves", fn := fun _ => fun
  | [d1, d2, d3] => { results := [.lit (.bool true)], args := [d1, d2, d3] }
  | _ => none }
def bagMovesRow : OpenClaim := { program := "ytlbpmgkfekeaeaa", sum := "a9b92f7921a21c3d3e3b2c77676c199c709f97ab99fbced667ef043736ac2647", func := "rivulet/rivuletlaw25.BagMoves", spec := "bagMoves", inPlace := ["slices.overlaps[rivulet/bag.Flight]"], unfollowed := true, recurses := true, apart := false }
def BagMovesSaid : Prop := bagMovesRow.holds Try.pinned (OpenSpec.ofChange bagMovesSpec)

/-- ITS FALSE NEIGHBOUR: 'it returns false'. Refute it at one input. -/
def bagMovesWrong : ChangeSpec := { name := "bagMoves", fn := fun _ => fun
  | [d1, d2, d3] => { results := [.lit (.bool false)], args := [d1, d2, d3] }
  | _ => none }
def BagMovesWrongFalsely : Prop := bagMovesRow.holds Try.pinned (OpenSpec.ofChange bagMovesWrong)

/-- 'rivuletlaw25.BagOnce': WHATEVER THE INPUT: true; the input reads as it did. -/
def bagOnceSpec : ChangeSpec := { name := "bagOnce", fn := fun _ => fun
  | [d1, d2] => { results := [.lit (.bool true)], args := [d1, d2] }
  | _ => none }
def bagOnceRow : OpenClaim := { program := "ytlbpmgkfekeaeaa", sum := "a9b92f7921a21c3d3e3b2c77676c199c709f97ab99fbced667ef043736ac2647", func := "rivulet/rivuletlaw25.BagOnce", spec := "bagOnce", inPlace := ["slices.overlaps[rivulet/bag.Flight]"], unfollowed := true, recurses := true, apart := false }
def BagOnceSaid : Prop := bagOnceRow.holds Try.pinned (OpenSpec.ofChange bagOnceSpec)

/-- ITS FALSE NEIGHBOUR: 'it returns false'. Refute it at one input. -/
def bagOnceWrong : ChangeSpec := { name := "bagOnce", fn := fun _ => fun
  | [d1, d2] => { results := [.lit (.bool false)], args := [d1, d2] }
  | _ => none }
def BagOnceWrongFalsely : Prop := bagOnceRow.holds Try.pinned (OpenSpec.ofChange bagOnceWrong)

/- THE SECOND FORM. 'bulk': how many values and letters a reading holds, each counted each time it is reached (what is shared counts as often as it is met; a slice's spare places count too). A statement '..UptoSaid' is the law's where the arguments, and the package variables that the reading takes, are together of bulk at most 1048576: NARROWER than '..Said'. Prove '..Said' where nothing that the law and all that it calls make is longer than what came in: it says more and counts as full. Else prove '..UptoSaid'. A law counts once. -/
mutual
def uptoBulk {H : Type} : DataW H → Nat
  | .lit (.string bytes) => bytes.length + 1
  | .lit _ => 1
  | .nil => 1
  | .ptr d => uptoBulk d + 1
  | .slice elems spare => uptoBulkAll elems + uptoBulkAll spare + 1
  | .agg parts => uptoBulkAll parts + 1
  | .iface _ d => uptoBulk d + 1
  | .map entries => uptoBulkEntries entries + 1
  | .held _ => 1
def uptoBulkAll {H : Type} : List (DataW H) → Nat
  | [] => 0
  | d :: r => uptoBulk d + uptoBulkAll r
def uptoBulkEntries {H : Type} : List (Lit × DataW H) → Nat
  | [] => 0
  | x :: r => uptoBulkEntry x + uptoBulkEntries r
def uptoBulkEntry {H : Type} : Lit × DataW H → Nat
  | (.string bytes, d) => bytes.length + uptoBulk d + 1
  | (_, d) => uptoBulk d + 1
 end
def uptoSmall : (H : Type) → List (DataW H) → Bool := fun _ ds => decide (uptoBulkAll ds ≤ 1048576)
def OpenSpec.upto (s : _root_.Go.ChangeSpec) : _root_.Go.OpenSpec := { _root_.Go.OpenSpec.ofChange s with cond := some uptoSmall }

/-- 'rivuletlaw15.ZeroRises', WHERE WHAT IT READS IS OF BULK AT MOST 1048576: true; the input reads as it did. -/
def zeroRisesUptoRow : OpenClaim := { program := "ytlbpmgkfekeaeaa", sum := "a9b92f7921a21c3d3e3b2c77676c199c709f97ab99fbced667ef043736ac2647", func := "rivulet/rivuletlaw15.ZeroRises", spec := "zeroRises", apart := false, narrowed := true }
def ZeroRisesUptoSaid : Prop := zeroRisesUptoRow.holds Try.pinned (OpenSpec.upto zeroRisesSpec)

/-- 'rivuletlaw15.ZeroRanks', WHERE WHAT IT READS IS OF BULK AT MOST 1048576: true; the input reads as it did. -/
def zeroRanksUptoRow : OpenClaim := { program := "ytlbpmgkfekeaeaa", sum := "a9b92f7921a21c3d3e3b2c77676c199c709f97ab99fbced667ef043736ac2647", func := "rivulet/rivuletlaw15.ZeroRanks", spec := "zeroRanks", unfollowed := true, recurses := true, apart := false, narrowed := true }
def ZeroRanksUptoSaid : Prop := zeroRanksUptoRow.holds Try.pinned (OpenSpec.upto zeroRanksSpec)

/-- 'rivuletlaw28.ScriptTicks', WHERE WHAT IT READS IS OF BULK AT MOST 1048576: true; the input reads as it did. -/
def scriptTicksUptoRow : OpenClaim := { program := "ytlbpmgkfekeaeaa", sum := "a9b92f7921a21c3d3e3b2c77676c199c709f97ab99fbced667ef043736ac2647", func := "rivulet/rivuletlaw28.ScriptTicks", spec := "scriptTicks", unfollowed := true, recurses := true, apart := false, narrowed := true }
def ScriptTicksUptoSaid : Prop := scriptTicksUptoRow.holds Try.pinned (OpenSpec.upto scriptTicksSpec)

/-- 'rivuletlaw19.TargetFresh', WHERE WHAT IT READS IS OF BULK AT MOST 1048576: true; the input reads as it did. -/
def targetFreshUptoRow : OpenClaim := { program := "ytlbpmgkfekeaeaa", sum := "a9b92f7921a21c3d3e3b2c77676c199c709f97ab99fbced667ef043736ac2647", func := "rivulet/rivuletlaw19.TargetFresh", spec := "targetFresh", unfollowed := true, recurses := true, apart := false, narrowed := true }
def TargetFreshUptoSaid : Prop := targetFreshUptoRow.holds Try.pinned (OpenSpec.upto targetFreshSpec)

/-- 'rivuletlaw23.QueueOrders', WHERE WHAT IT READS IS OF BULK AT MOST 1048576: true; the input reads as it did. -/
def queueOrdersUptoRow : OpenClaim := { program := "ytlbpmgkfekeaeaa", sum := "a9b92f7921a21c3d3e3b2c77676c199c709f97ab99fbced667ef043736ac2647", func := "rivulet/rivuletlaw23.QueueOrders", spec := "queueOrders", unfollowed := true, recurses := true, apart := false, narrowed := true }
def QueueOrdersUptoSaid : Prop := queueOrdersUptoRow.holds Try.pinned (OpenSpec.upto queueOrdersSpec)

/-- 'rivuletlaw28.ScriptEncodes', WHERE WHAT IT READS IS OF BULK AT MOST 1048576: true; the input reads as it did. -/
def scriptEncodesUptoRow : OpenClaim := { program := "ytlbpmgkfekeaeaa", sum := "a9b92f7921a21c3d3e3b2c77676c199c709f97ab99fbced667ef043736ac2647", func := "rivulet/rivuletlaw28.ScriptEncodes", spec := "scriptEncodes", unfollowed := true, recurses := true, apart := false, narrowed := true }
def ScriptEncodesUptoSaid : Prop := scriptEncodesUptoRow.holds Try.pinned (OpenSpec.upto scriptEncodesSpec)

/-- 'rivuletlaw28.ScriptDecodes', WHERE WHAT IT READS IS OF BULK AT MOST 1048576: true; the input reads as it did. -/
def scriptDecodesUptoRow : OpenClaim := { program := "ytlbpmgkfekeaeaa", sum := "a9b92f7921a21c3d3e3b2c77676c199c709f97ab99fbced667ef043736ac2647", func := "rivulet/rivuletlaw28.ScriptDecodes", spec := "scriptDecodes", unfollowed := true, recurses := true, apart := false, narrowed := true }
def ScriptDecodesUptoSaid : Prop := scriptDecodesUptoRow.holds Try.pinned (OpenSpec.upto scriptDecodesSpec)

/-- 'rivuletlaw28.ScriptJoins', WHERE WHAT IT READS IS OF BULK AT MOST 1048576: true; the input reads as it did. -/
def scriptJoinsUptoRow : OpenClaim := { program := "ytlbpmgkfekeaeaa", sum := "a9b92f7921a21c3d3e3b2c77676c199c709f97ab99fbced667ef043736ac2647", func := "rivulet/rivuletlaw28.ScriptJoins", spec := "scriptJoins", unfollowed := true, recurses := true, apart := false, narrowed := true }
def ScriptJoinsUptoSaid : Prop := scriptJoinsUptoRow.holds Try.pinned (OpenSpec.upto scriptJoinsSpec)

/-- 'rivuletlaw25.BagMoves', WHERE WHAT IT READS IS OF BULK AT MOST 1048576: true; the input reads as it did. -/
def bagMovesUptoRow : OpenClaim := { program := "ytlbpmgkfekeaeaa", sum := "a9b92f7921a21c3d3e3b2c77676c199c709f97ab99fbced667ef043736ac2647", func := "rivulet/rivuletlaw25.BagMoves", spec := "bagMoves", inPlace := ["slices.overlaps[rivulet/bag.Flight]"], unfollowed := true, recurses := true, apart := false, narrowed := true }
def BagMovesUptoSaid : Prop := bagMovesUptoRow.holds Try.pinned (OpenSpec.upto bagMovesSpec)

/-- 'rivuletlaw25.BagOnce', WHERE WHAT IT READS IS OF BULK AT MOST 1048576: true; the input reads as it did. -/
def bagOnceUptoRow : OpenClaim := { program := "ytlbpmgkfekeaeaa", sum := "a9b92f7921a21c3d3e3b2c77676c199c709f97ab99fbced667ef043736ac2647", func := "rivulet/rivuletlaw25.BagOnce", spec := "bagOnce", inPlace := ["slices.overlaps[rivulet/bag.Flight]"], unfollowed := true, recurses := true, apart := false, narrowed := true }
def BagOnceUptoSaid : Prop := bagOnceUptoRow.holds Try.pinned (OpenSpec.upto bagOnceSpec)

end Rows
end Go.Proofs.Ytlbpmgkfekeaeaa
