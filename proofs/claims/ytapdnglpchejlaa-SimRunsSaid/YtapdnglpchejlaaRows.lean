/-
  No cell of these rows narrows 'for every input' (looked for: loops, veiled, ifaces, maps, wideKeys, modest, calm, conditions, laid).
  DERIVED. THE GIVEN ROWS OF THIS SEAT. 10 by the template 'for every input the law returns true; each argument reads behind the call as it read before'; 0 by the template 'total and deterministic' (their statements: YtapdnglpchejlaaTotals.lean).
  GIVEN WITH THE SEED: the statements are not yours to turn. If you find one false, say at which input.
  Laid BY PROGRAM, IN A SANDBOX (cutbox-rows.mjs): the forced cells as the released guide's own fill.sh prints them over the translation 34ff578a27cb56f8… (all of the seat's roots in one cut). By AI agents, Wed Nov 11 2026. No macro, syntax, notation, axiom, sorry.
-/
import Derived.Test.YtapdnglpchejlaaChecked
import GoSem.Claim
import GoSem.ClaimJoined
import GoSem.ClaimMapViews
import Derived.JoinedTies
import Derived.KernelRfl
namespace Go.Proofs.Ytapdnglpchejlaa
/- THE CELL 'sum', in the pinned program and in every row, IS THE sha256 OF THE DUMP (.gsa) THAT YtapdnglpchejlaaProg.lean LOADS. Nothing in Lean hashes anything: it is a label: what it is worth is what the hold of that sum in a sandbox is worth. -/
noncomputable def Try.pinned : Pinned := { name := "ytapdnglpchejlaa", sum := "34ff578a27cb56f80e5ac4f72d9192190e08f40c8236b16ed769c1707b75367f", checked := Try.checked }
namespace Rows
def none {H : Type} : Left H := { results := [], args := [] }

/-- 'palingslaw08.SimRuns': WHATEVER THE INPUT: true; the input reads as it did. -/
def simRunsSpec : ChangeSpec := { name := "simRuns", fn := fun _ => fun
  | [d1, d2, d3] => { results := [.lit (.bool true)], args := [d1, d2, d3] }
  | _ => none }
def simRunsRow : OpenClaim := { program := "ytapdnglpchejlaa", sum := "34ff578a27cb56f80e5ac4f72d9192190e08f40c8236b16ed769c1707b75367f", func := "palings/palingslaw08.SimRuns", spec := "simRuns", unfollowed := true, recurses := true, plainKeys := false, apart := false }
def SimRunsSaid : Prop := simRunsRow.holds Try.pinned (OpenSpec.ofChange simRunsSpec)

/-- ITS FALSE NEIGHBOUR: 'it returns false'. Refute it at one input. -/
def simRunsWrong : ChangeSpec := { name := "simRuns", fn := fun _ => fun
  | [d1, d2, d3] => { results := [.lit (.bool false)], args := [d1, d2, d3] }
  | _ => none }
def SimRunsWrongFalsely : Prop := simRunsRow.holds Try.pinned (OpenSpec.ofChange simRunsWrong)

/-- 'palingslaw08.SimSwaps': WHATEVER THE INPUT: true; the input reads as it did. -/
def simSwapsSpec : ChangeSpec := { name := "simSwaps", fn := fun _ => fun
  | [d1, d2, d3] => { results := [.lit (.bool true)], args := [d1, d2, d3] }
  | _ => none }
def simSwapsRow : OpenClaim := { program := "ytapdnglpchejlaa", sum := "34ff578a27cb56f80e5ac4f72d9192190e08f40c8236b16ed769c1707b75367f", func := "palings/palingslaw08.SimSwaps", spec := "simSwaps", unfollowed := true, recurses := true, plainKeys := false, apart := false }
def SimSwapsSaid : Prop := simSwapsRow.holds Try.pinned (OpenSpec.ofChange simSwapsSpec)

/-- ITS FALSE NEIGHBOUR: 'it returns false'. Refute it at one input. -/
def simSwapsWrong : ChangeSpec := { name := "simSwaps", fn := fun _ => fun
  | [d1, d2, d3] => { results := [.lit (.bool false)], args := [d1, d2, d3] }
  | _ => none }
def SimSwapsWrongFalsely : Prop := simSwapsRow.holds Try.pinned (OpenSpec.ofChange simSwapsWrong)

/-- 'palingslaw08.SimDeep': WHATEVER THE INPUT: true; the input reads as it did. -/
def simDeepSpec : ChangeSpec := { name := "simDeep", fn := fun _ => fun
  | [d] => { results := [.lit (.bool true)], args := [d] }
  | _ => none }
def simDeepRow : OpenClaim := { program := "ytapdnglpchejlaa", sum := "34ff578a27cb56f80e5ac4f72d9192190e08f40c8236b16ed769c1707b75367f", func := "palings/palingslaw08.SimDeep", spec := "simDeep", unfollowed := true, recurses := true, plainKeys := false, apart := false }
def SimDeepSaid : Prop := simDeepRow.holds Try.pinned (OpenSpec.ofChange simDeepSpec)

/-- ITS FALSE NEIGHBOUR: 'it returns false'. Refute it at one input. -/
def simDeepWrong : ChangeSpec := { name := "simDeep", fn := fun _ => fun
  | [d] => { results := [.lit (.bool false)], args := [d] }
  | _ => none }
def SimDeepWrongFalsely : Prop := simDeepRow.holds Try.pinned (OpenSpec.ofChange simDeepWrong)

/-- 'palingslaw08.SimFuel': WHATEVER THE INPUT: true; the input reads as it did. -/
def simFuelSpec : ChangeSpec := { name := "simFuel", fn := fun _ => fun
  | [d1, d2, d3, d4] => { results := [.lit (.bool true)], args := [d1, d2, d3, d4] }
  | _ => none }
def simFuelRow : OpenClaim := { program := "ytapdnglpchejlaa", sum := "34ff578a27cb56f80e5ac4f72d9192190e08f40c8236b16ed769c1707b75367f", func := "palings/palingslaw08.SimFuel", spec := "simFuel", unfollowed := true, recurses := true, plainKeys := false, apart := false }
def SimFuelSaid : Prop := simFuelRow.holds Try.pinned (OpenSpec.ofChange simFuelSpec)

/-- ITS FALSE NEIGHBOUR: 'it returns false'. Refute it at one input. -/
def simFuelWrong : ChangeSpec := { name := "simFuel", fn := fun _ => fun
  | [d1, d2, d3, d4] => { results := [.lit (.bool false)], args := [d1, d2, d3, d4] }
  | _ => none }
def SimFuelWrongFalsely : Prop := simFuelRow.holds Try.pinned (OpenSpec.ofChange simFuelWrong)

/-- 'palingslaw15.LiveSets': WHATEVER THE INPUT: true; the input reads as it did. -/
def liveSetsSpec : ChangeSpec := { name := "liveSets", fn := fun _ => fun
  | [d] => { results := [.lit (.bool true)], args := [d] }
  | _ => none }
def liveSetsRow : OpenClaim := { program := "ytapdnglpchejlaa", sum := "34ff578a27cb56f80e5ac4f72d9192190e08f40c8236b16ed769c1707b75367f", func := "palings/palingslaw15.LiveSets", spec := "liveSets", unfollowed := true, recurses := true, plainKeys := false, apart := false }
def LiveSetsSaid : Prop := liveSetsRow.holds Try.pinned (OpenSpec.ofChange liveSetsSpec)

/-- ITS FALSE NEIGHBOUR: 'it returns false'. Refute it at one input. -/
def liveSetsWrong : ChangeSpec := { name := "liveSets", fn := fun _ => fun
  | [d] => { results := [.lit (.bool false)], args := [d] }
  | _ => none }
def LiveSetsWrongFalsely : Prop := liveSetsRow.holds Try.pinned (OpenSpec.ofChange liveSetsWrong)

/-- 'palingslaw15.LivePaints': WHATEVER THE INPUT: true; the input reads as it did. -/
def livePaintsSpec : ChangeSpec := { name := "livePaints", fn := fun _ => fun
  | [d1, d2] => { results := [.lit (.bool true)], args := [d1, d2] }
  | _ => none }
def livePaintsRow : OpenClaim := { program := "ytapdnglpchejlaa", sum := "34ff578a27cb56f80e5ac4f72d9192190e08f40c8236b16ed769c1707b75367f", func := "palings/palingslaw15.LivePaints", spec := "livePaints", unfollowed := true, recurses := true, plainKeys := false, apart := false }
def LivePaintsSaid : Prop := livePaintsRow.holds Try.pinned (OpenSpec.ofChange livePaintsSpec)

/-- ITS FALSE NEIGHBOUR: 'it returns false'. Refute it at one input. -/
def livePaintsWrong : ChangeSpec := { name := "livePaints", fn := fun _ => fun
  | [d1, d2] => { results := [.lit (.bool false)], args := [d1, d2] }
  | _ => none }
def LivePaintsWrongFalsely : Prop := livePaintsRow.holds Try.pinned (OpenSpec.ofChange livePaintsWrong)

/-- 'palingslaw15.LiveDead': WHATEVER THE INPUT: true; the input reads as it did. -/
def liveDeadSpec : ChangeSpec := { name := "liveDead", fn := fun _ => fun
  | [d] => { results := [.lit (.bool true)], args := [d] }
  | _ => none }
def liveDeadRow : OpenClaim := { program := "ytapdnglpchejlaa", sum := "34ff578a27cb56f80e5ac4f72d9192190e08f40c8236b16ed769c1707b75367f", func := "palings/palingslaw15.LiveDead", spec := "liveDead", unfollowed := true, recurses := true, plainKeys := false, apart := false }
def LiveDeadSaid : Prop := liveDeadRow.holds Try.pinned (OpenSpec.ofChange liveDeadSpec)

/-- ITS FALSE NEIGHBOUR: 'it returns false'. Refute it at one input. -/
def liveDeadWrong : ChangeSpec := { name := "liveDead", fn := fun _ => fun
  | [d] => { results := [.lit (.bool false)], args := [d] }
  | _ => none }
def LiveDeadWrongFalsely : Prop := liveDeadRow.holds Try.pinned (OpenSpec.ofChange liveDeadWrong)

/-- 'palingslaw10.FoldDead': WHATEVER THE INPUT: true; the input reads as it did. -/
def foldDeadSpec : ChangeSpec := { name := "foldDead", fn := fun _ => fun
  | [d1, d2] => { results := [.lit (.bool true)], args := [d1, d2] }
  | _ => none }
def foldDeadRow : OpenClaim := { program := "ytapdnglpchejlaa", sum := "34ff578a27cb56f80e5ac4f72d9192190e08f40c8236b16ed769c1707b75367f", func := "palings/palingslaw10.FoldDead", spec := "foldDead", unfollowed := true, recurses := true, plainKeys := false, apart := false }
def FoldDeadSaid : Prop := foldDeadRow.holds Try.pinned (OpenSpec.ofChange foldDeadSpec)

/-- ITS FALSE NEIGHBOUR: 'it returns false'. Refute it at one input. -/
def foldDeadWrong : ChangeSpec := { name := "foldDead", fn := fun _ => fun
  | [d1, d2] => { results := [.lit (.bool false)], args := [d1, d2] }
  | _ => none }
def FoldDeadWrongFalsely : Prop := foldDeadRow.holds Try.pinned (OpenSpec.ofChange foldDeadWrong)

/-- 'palingslaw10.FoldFuncs': WHATEVER THE INPUT: true; the input reads as it did. -/
def foldFuncsSpec : ChangeSpec := { name := "foldFuncs", fn := fun _ => fun
  | [d] => { results := [.lit (.bool true)], args := [d] }
  | _ => none }
def foldFuncsRow : OpenClaim := { program := "ytapdnglpchejlaa", sum := "34ff578a27cb56f80e5ac4f72d9192190e08f40c8236b16ed769c1707b75367f", func := "palings/palingslaw10.FoldFuncs", spec := "foldFuncs", unfollowed := true, recurses := true, plainKeys := false, apart := false }
def FoldFuncsSaid : Prop := foldFuncsRow.holds Try.pinned (OpenSpec.ofChange foldFuncsSpec)

/-- ITS FALSE NEIGHBOUR: 'it returns false'. Refute it at one input. -/
def foldFuncsWrong : ChangeSpec := { name := "foldFuncs", fn := fun _ => fun
  | [d] => { results := [.lit (.bool false)], args := [d] }
  | _ => none }
def FoldFuncsWrongFalsely : Prop := foldFuncsRow.holds Try.pinned (OpenSpec.ofChange foldFuncsWrong)

/-- 'palingslaw10.FoldPlain': WHATEVER THE INPUT: true; the input reads as it did. -/
def foldPlainSpec : ChangeSpec := { name := "foldPlain", fn := fun _ => fun
  | [d1, d2, d3] => { results := [.lit (.bool true)], args := [d1, d2, d3] }
  | _ => none }
def foldPlainRow : OpenClaim := { program := "ytapdnglpchejlaa", sum := "34ff578a27cb56f80e5ac4f72d9192190e08f40c8236b16ed769c1707b75367f", func := "palings/palingslaw10.FoldPlain", spec := "foldPlain", unfollowed := true, recurses := true, plainKeys := false, apart := false }
def FoldPlainSaid : Prop := foldPlainRow.holds Try.pinned (OpenSpec.ofChange foldPlainSpec)

/-- ITS FALSE NEIGHBOUR: 'it returns false'. Refute it at one input. -/
def foldPlainWrong : ChangeSpec := { name := "foldPlain", fn := fun _ => fun
  | [d1, d2, d3] => { results := [.lit (.bool false)], args := [d1, d2, d3] }
  | _ => none }
def FoldPlainWrongFalsely : Prop := foldPlainRow.holds Try.pinned (OpenSpec.ofChange foldPlainWrong)

/- THE SECOND FORM. 'bulk': how many values and letters a reading holds, each counted each time it is reached (what is shared counts as often as it is met; a slice's spare places count too). A statement '..UptoSaid' is the law's where the arguments, and the package variables that the reading takes, are together of bulk at most 1048576: NARROWER than '..Said'. Prove '..Said' where nothing that the law and all that it calls make is longer than what came in: it says more and counts as full. Else prove '..UptoSaid'. A law counts once. -/
mutual
def uptoBulk {H : Type} : DataW H → Nat
  | .lit (.string bytes) => bytes.length + 1
  | .lit _ => 1
  | .nil => 1
  | .ptr d => uptoBulk d + 1
  | .slice elems spare => uptoBulkAll elems + uptoBulkAll spare + 1
  | .agg parts => uptoBulkAll parts + 1
  | .iface _ d => uptoBulk d + 1
  | .map entries => uptoBulkEntries entries + 1
  | .held _ => 1
def uptoBulkAll {H : Type} : List (DataW H) → Nat
  | [] => 0
  | d :: r => uptoBulk d + uptoBulkAll r
def uptoBulkEntries {H : Type} : List (Lit × DataW H) → Nat
  | [] => 0
  | x :: r => uptoBulkEntry x + uptoBulkEntries r
def uptoBulkEntry {H : Type} : Lit × DataW H → Nat
  | (.string bytes, d) => bytes.length + uptoBulk d + 1
  | (_, d) => uptoBulk d + 1
 end
def uptoSmall : (H : Type) → List (DataW H) → Bool := fun _ ds => decide (uptoBulkAll ds ≤ 1048576)
def OpenSpec.upto (s : _root_.Go.ChangeSpec) : _root_.Go.OpenSpec := { _root_.Go.OpenSpec.ofChange s with cond := some uptoSmall }

/-- 'palingslaw08.SimRuns', WHERE WHAT IT READS IS OF BULK AT MOST 1048576: true; the input reads as it did. -/
def simRunsUptoRow : OpenClaim := { program := "ytapdnglpchejlaa", sum := "34ff578a27cb56f80e5ac4f72d9192190e08f40c8236b16ed769c1707b75367f", func := "palings/palingslaw08.SimRuns", spec := "simRuns", unfollowed := true, recurses := true, plainKeys := false, apart := false, narrowed := true }
def SimRunsUptoSaid : Prop := simRunsUptoRow.holds Try.pinned (OpenSpec.upto simRunsSpec)

/-- 'palingslaw08.SimSwaps', WHERE WHAT IT READS IS OF BULK AT MOST 1048576: true; the input reads as it did. -/
def simSwapsUptoRow : OpenClaim := { program := "ytapdnglpchejlaa", sum := "34ff578a27cb56f80e5ac4f72d9192190e08f40c8236b16ed769c1707b75367f", func := "palings/palingslaw08.SimSwaps", spec := "simSwaps", unfollowed := true, recurses := true, plainKeys := false, apart := false, narrowed := true }
def SimSwapsUptoSaid : Prop := simSwapsUptoRow.holds Try.pinned (OpenSpec.upto simSwapsSpec)

/-- 'palingslaw08.SimDeep', WHERE WHAT IT READS IS OF BULK AT MOST 1048576: true; the input reads as it did. -/
def simDeepUptoRow : OpenClaim := { program := "ytapdnglpchejlaa", sum := "34ff578a27cb56f80e5ac4f72d9192190e08f40c8236b16ed769c1707b75367f", func := "palings/palingslaw08.SimDeep", spec := "simDeep", unfollowed := true, recurses := true, plainKeys := false, apart := false, narrowed := true }
def SimDeepUptoSaid : Prop := simDeepUptoRow.holds Try.pinned (OpenSpec.upto simDeepSpec)

/-- 'palingslaw08.SimFuel', WHERE WHAT IT READS IS OF BULK AT MOST 1048576: true; the input reads as it did. -/
def simFuelUptoRow : OpenClaim := { program := "ytapdnglpchejlaa", sum := "34ff578a27cb56f80e5ac4f72d9192190e08f40c8236b16ed769c1707b75367f", func := "palings/palingslaw08.SimFuel", spec := "simFuel", unfollowed := true, recurses := true, plainKeys := false, apart := false, narrowed := true }
def SimFuelUptoSaid : Prop := simFuelUptoRow.holds Try.pinned (OpenSpec.upto simFuelSpec)

/-- 'palingslaw15.LiveSets', WHERE WHAT IT READS IS OF BULK AT MOST 1048576: true; the input reads as it did. -/
def liveSetsUptoRow : OpenClaim := { program := "ytapdnglpchejlaa", sum := "34ff578a27cb56f80e5ac4f72d9192190e08f40c8236b16ed769c1707b75367f", func := "palings/palingslaw15.LiveSets", spec := "liveSets", unfollowed := true, recurses := true, plainKeys := false, apart := false, narrowed := true }
def LiveSetsUptoSaid : Prop := liveSetsUptoRow.holds Try.pinned (OpenSpec.upto liveSetsSpec)

/-- 'palingslaw15.LivePaints', WHERE WHAT IT READS IS OF BULK AT MOST 1048576: true; the input reads as it did. -/
def livePaintsUptoRow : OpenClaim := { program := "ytapdnglpchejlaa", sum := "34ff578a27cb56f80e5ac4f72d9192190e08f40c8236b16ed769c1707b75367f", func := "palings/palingslaw15.LivePaints", spec := "livePaints", unfollowed := true, recurses := true, plainKeys := false, apart := false, narrowed := true }
def LivePaintsUptoSaid : Prop := livePaintsUptoRow.holds Try.pinned (OpenSpec.upto livePaintsSpec)

/-- 'palingslaw15.LiveDead', WHERE WHAT IT READS IS OF BULK AT MOST 1048576: true; the input reads as it did. -/
def liveDeadUptoRow : OpenClaim := { program := "ytapdnglpchejlaa", sum := "34ff578a27cb56f80e5ac4f72d9192190e08f40c8236b16ed769c1707b75367f", func := "palings/palingslaw15.LiveDead", spec := "liveDead", unfollowed := true, recurses := true, plainKeys := false, apart := false, narrowed := true }
def LiveDeadUptoSaid : Prop := liveDeadUptoRow.holds Try.pinned (OpenSpec.upto liveDeadSpec)

/-- 'palingslaw10.FoldDead', WHERE WHAT IT READS IS OF BULK AT MOST 1048576: true; the input reads as it did. -/
def foldDeadUptoRow : OpenClaim := { program := "ytapdnglpchejlaa", sum := "34ff578a27cb56f80e5ac4f72d9192190e08f40c8236b16ed769c1707b75367f", func := "palings/palingslaw10.FoldDead", spec := "foldDead", unfollowed := true, recurses := true, plainKeys := false, apart := false, narrowed := true }
def FoldDeadUptoSaid : Prop := foldDeadUptoRow.holds Try.pinned (OpenSpec.upto foldDeadSpec)

/-- 'palingslaw10.FoldFuncs', WHERE WHAT IT READS IS OF BULK AT MOST 1048576: true; the input reads as it did. -/
def foldFuncsUptoRow : OpenClaim := { program := "ytapdnglpchejlaa", sum := "34ff578a27cb56f80e5ac4f72d9192190e08f40c8236b16ed769c1707b75367f", func := "palings/palingslaw10.FoldFuncs", spec := "foldFuncs", unfollowed := true, recurses := true, plainKeys := false, apart := false, narrowed := true }
def FoldFuncsUptoSaid : Prop := foldFuncsUptoRow.holds Try.pinned (OpenSpec.upto foldFuncsSpec)

/-- 'palingslaw10.FoldPlain', WHERE WHAT IT READS IS OF BULK AT MOST 1048576: true; the input reads as it did. -/
def foldPlainUptoRow : OpenClaim := { program := "ytapdnglpchejlaa", sum := "34ff578a27cb56f80e5ac4f72d9192190e08f40c8236b16ed769c1707b75367f", func := "palings/palingslaw10.FoldPlain", spec := "foldPlain", unfollowed := true, recurses := true, plainKeys := false, apart := false, narrowed := true }
def FoldPlainUptoSaid : Prop := foldPlainUptoRow.holds Try.pinned (OpenSpec.upto foldPlainSpec)

end Rows
end Go.Proofs.Ytapdnglpchejlaa
