/-
  NARROWER THAN 'FOR EVERY INPUT', by the rows' own cells (each row's printed sentence says how): TaintLeast: maps · TaintCuts: maps · TaintSinks: maps.
  DERIVED. THE GIVEN ROWS OF THIS SEAT. 4 by the template 'for every input the law returns true; each argument reads behind the call as it read before'; 0 by the template 'total and deterministic' (their statements: YtaefmhephoilmaaTotals.lean).
  GIVEN WITH THE SEED: the statements are not yours to turn. If you find one false, say at which input.
  Laid BY PROGRAM, IN A SANDBOX (cutbox-rows.mjs): the forced cells as the released guide's own fill.sh prints them over the translation 7ac116f734c6d3d9… (all of the seat's roots in one cut). By AI agents, Wed Nov 11 2026. No macro, syntax, notation, axiom, sorry.
-/
import Derived.Test.YtaefmhephoilmaaChecked
import GoSem.Claim
import GoSem.ClaimJoined
import GoSem.ClaimMapViews
import Derived.JoinedTies
import Derived.KernelRfl
namespace Go.Proofs.Ytaefmhephoilmaa
/- THE CELL 'sum', in the pinned program and in every row, IS THE sha256 OF THE DUMP (.gsa) THAT YtaefmhephoilmaaProg.lean LOADS. Nothing in Lean hashes anything: it is a label: what it is worth is what the hold of that sum in a sandbox is worth. -/
noncomputable def Try.pinned : Pinned := { name := "ytaefmhephoilmaa", sum := "7ac116f734c6d3d9c0ab8648bf94c7380ccd8ec876e71235fb850bc09341aaad", checked := Try.checked }
namespace Rows
def none {H : Type} : Left H := { results := [], args := [] }

/-- 'palingslaw12.TaintLeast': WHATEVER THE INPUT: true; the input reads as it did. -/
def taintLeastSpec : ChangeSpec := { name := "taintLeast", fn := fun _ => fun
  | [d1, d2] => { results := [.lit (.bool true)], args := [d1, d2] }
  | _ => none }
def taintLeastRow : OpenClaim := { program := "ytaefmhephoilmaa", sum := "7ac116f734c6d3d9c0ab8648bf94c7380ccd8ec876e71235fb850bc09341aaad", func := "palings/palingslaw12.TaintLeast", spec := "taintLeast", unfollowed := true, recurses := true, maps := true, apart := false }
def TaintLeastSaid : Prop := taintLeastRow.holds Try.pinned (OpenSpec.ofChange taintLeastSpec)

/-- ITS FALSE NEIGHBOUR: 'it returns false'. Refute it at one input. -/
def taintLeastWrong : ChangeSpec := { name := "taintLeast", fn := fun _ => fun
  | [d1, d2] => { results := [.lit (.bool false)], args := [d1, d2] }
  | _ => none }
def TaintLeastWrongFalsely : Prop := taintLeastRow.holds Try.pinned (OpenSpec.ofChange taintLeastWrong)

/-- 'palingslaw12.TaintCuts': WHATEVER THE INPUT: true; the input reads as it did. -/
def taintCutsSpec : ChangeSpec := { name := "taintCuts", fn := fun _ => fun
  | [d1, d2] => { results := [.lit (.bool true)], args := [d1, d2] }
  | _ => none }
def taintCutsRow : OpenClaim := { program := "ytaefmhephoilmaa", sum := "7ac116f734c6d3d9c0ab8648bf94c7380ccd8ec876e71235fb850bc09341aaad", func := "palings/palingslaw12.TaintCuts", spec := "taintCuts", unfollowed := true, recurses := true, maps := true, apart := false }
def TaintCutsSaid : Prop := taintCutsRow.holds Try.pinned (OpenSpec.ofChange taintCutsSpec)

/-- ITS FALSE NEIGHBOUR: 'it returns false'. Refute it at one input. -/
def taintCutsWrong : ChangeSpec := { name := "taintCuts", fn := fun _ => fun
  | [d1, d2] => { results := [.lit (.bool false)], args := [d1, d2] }
  | _ => none }
def TaintCutsWrongFalsely : Prop := taintCutsRow.holds Try.pinned (OpenSpec.ofChange taintCutsWrong)

/-- 'palingslaw12.TaintPlain': WHATEVER THE INPUT: true; the input reads as it did. -/
def taintPlainSpec : ChangeSpec := { name := "taintPlain", fn := fun _ => fun
  | [d] => { results := [.lit (.bool true)], args := [d] }
  | _ => none }
def taintPlainRow : OpenClaim := { program := "ytaefmhephoilmaa", sum := "7ac116f734c6d3d9c0ab8648bf94c7380ccd8ec876e71235fb850bc09341aaad", func := "palings/palingslaw12.TaintPlain", spec := "taintPlain", unfollowed := true, recurses := true, apart := false }
def TaintPlainSaid : Prop := taintPlainRow.holds Try.pinned (OpenSpec.ofChange taintPlainSpec)

/-- ITS FALSE NEIGHBOUR: 'it returns false'. Refute it at one input. -/
def taintPlainWrong : ChangeSpec := { name := "taintPlain", fn := fun _ => fun
  | [d] => { results := [.lit (.bool false)], args := [d] }
  | _ => none }
def TaintPlainWrongFalsely : Prop := taintPlainRow.holds Try.pinned (OpenSpec.ofChange taintPlainWrong)

/-- 'palingslaw12.TaintSinks': WHATEVER THE INPUT: true; the input reads as it did. -/
def taintSinksSpec : ChangeSpec := { name := "taintSinks", fn := fun _ => fun
  | [d1, d2] => { results := [.lit (.bool true)], args := [d1, d2] }
  | _ => none }
def taintSinksRow : OpenClaim := { program := "ytaefmhephoilmaa", sum := "7ac116f734c6d3d9c0ab8648bf94c7380ccd8ec876e71235fb850bc09341aaad", func := "palings/palingslaw12.TaintSinks", spec := "taintSinks", unfollowed := true, recurses := true, maps := true, apart := false }
def TaintSinksSaid : Prop := taintSinksRow.holds Try.pinned (OpenSpec.ofChange taintSinksSpec)

/-- ITS FALSE NEIGHBOUR: 'it returns false'. Refute it at one input. -/
def taintSinksWrong : ChangeSpec := { name := "taintSinks", fn := fun _ => fun
  | [d1, d2] => { results := [.lit (.bool false)], args := [d1, d2] }
  | _ => none }
def TaintSinksWrongFalsely : Prop := taintSinksRow.holds Try.pinned (OpenSpec.ofChange taintSinksWrong)

/- THE SECOND FORM. 'bulk': how many values and letters a reading holds, each counted each time it is reached (what is shared counts as often as it is met; a slice's spare places count too). A statement '..UptoSaid' is the law's where the arguments, and the package variables that the reading takes, are together of bulk at most 1048576: NARROWER than '..Said'. Prove '..Said' where nothing that the law and all that it calls make is longer than what came in: it says more and counts as full. Else prove '..UptoSaid'. A law counts once. -/
mutual
def uptoBulk {H : Type} : DataW H → Nat
  | .lit (.string bytes) => bytes.length + 1
  | .lit _ => 1
  | .nil => 1
  | .ptr d => uptoBulk d + 1
  | .slice elems spare => uptoBulkAll elems + uptoBulkAll spare + 1
  | .agg parts => uptoBulkAll parts + 1
  | .iface _ d => uptoBulk d + 1
  | .map entries => uptoBulkEntries entries + 1
  | .held _ => 1
def uptoBulkAll {H : Type} : List (DataW H) → Nat
  | [] => 0
  | d :: r => uptoBulk d + uptoBulkAll r
def uptoBulkEntries {H : Type} : List (Lit × DataW H) → Nat
  | [] => 0
  | x :: r => uptoBulkEntry x + uptoBulkEntries r
def uptoBulkEntry {H : Type} : Lit × DataW H → Nat
  | (.string bytes, d) => bytes.length + uptoBulk d + 1
  | (_, d) => uptoBulk d + 1
 end
def uptoSmall : (H : Type) → List (DataW H) → Bool := fun _ ds => decide (uptoBulkAll ds ≤ 1048576)
def OpenSpec.upto (s : _root_.Go.ChangeSpec) : _root_.Go.OpenSpec := { _root_.Go.OpenSpec.ofChange s with cond := some uptoSmall }

/-- 'palingslaw12.TaintLeast', WHERE WHAT IT READS IS OF BULK AT MOST 1048576: true; the input reads as it did. -/
def taintLeastUptoRow : OpenClaim := { program := "ytaefmhephoilmaa", sum := "7ac116f734c6d3d9c0ab8648bf94c7380ccd8ec876e71235fb850bc09341aaad", func := "palings/palingslaw12.TaintLeast", spec := "taintLeast", unfollowed := true, recurses := true, maps := true, apart := false, narrowed := true }
def TaintLeastUptoSaid : Prop := taintLeastUptoRow.holds Try.pinned (OpenSpec.upto taintLeastSpec)

/-- 'palingslaw12.TaintCuts', WHERE WHAT IT READS IS OF BULK AT MOST 1048576: true; the input reads as it did. -/
def taintCutsUptoRow : OpenClaim := { program := "ytaefmhephoilmaa", sum := "7ac116f734c6d3d9c0ab8648bf94c7380ccd8ec876e71235fb850bc09341aaad", func := "palings/palingslaw12.TaintCuts", spec := "taintCuts", unfollowed := true, recurses := true, maps := true, apart := false, narrowed := true }
def TaintCutsUptoSaid : Prop := taintCutsUptoRow.holds Try.pinned (OpenSpec.upto taintCutsSpec)

/-- 'palingslaw12.TaintPlain', WHERE WHAT IT READS IS OF BULK AT MOST 1048576: true; the input reads as it did. -/
def taintPlainUptoRow : OpenClaim := { program := "ytaefmhephoilmaa", sum := "7ac116f734c6d3d9c0ab8648bf94c7380ccd8ec876e71235fb850bc09341aaad", func := "palings/palingslaw12.TaintPlain", spec := "taintPlain", unfollowed := true, recurses := true, apart := false, narrowed := true }
def TaintPlainUptoSaid : Prop := taintPlainUptoRow.holds Try.pinned (OpenSpec.upto taintPlainSpec)

/-- 'palingslaw12.TaintSinks', WHERE WHAT IT READS IS OF BULK AT MOST 1048576: true; the input reads as it did. -/
def taintSinksUptoRow : OpenClaim := { program := "ytaefmhephoilmaa", sum := "7ac116f734c6d3d9c0ab8648bf94c7380ccd8ec876e71235fb850bc09341aaad", func := "palings/palingslaw12.TaintSinks", spec := "taintSinks", unfollowed := true, recurses := true, maps := true, apart := false, narrowed := true }
def TaintSinksUptoSaid : Prop := taintSinksUptoRow.holds Try.pinned (OpenSpec.upto taintSinksSpec)

end Rows
end Go.Proofs.Ytaefmhephoilmaa
