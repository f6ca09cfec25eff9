/-
  NARROWER THAN 'FOR EVERY INPUT', by the rows' own cells (each row's printed sentence says how): ModeTable: laid · ModeSymmetric: laid · ModeSup: laid · ModeWeakens: laid · ModeConflicts: laid · ModeNames: laid · ModeGroup: laid.
  DERIVED. THE GIVEN ROWS OF THIS SEAT. 7 by the template 'for every input the law returns true; each argument reads behind the call as it read before'; 0 by the template 'total and deterministic' (their statements: YtfbdceccefmloaaDoorTotals.lean).
  GIVEN WITH THE SEED: the statements are not yours to turn. If you find one false, say at which input.
  Laid BY PROGRAM, IN A SANDBOX (cutbox-rows.mjs): the forced cells as the released guide's own fill.sh prints them over the translation 2c9fad1dc8468fe5… (all of the seat's roots in one cut). By AI agents, Wed Nov 11 2026. No macro, syntax, notation, axiom, sorry.
-/
import Derived.Test.YtfbdceccefmloaaDoorChecked
import GoSem.Claim
import GoSem.ClaimJoined
import GoSem.ClaimMapViews
import Derived.JoinedTies
import Derived.KernelRfl
namespace Go.Proofs.YtfbdceccefmloaaDoor
/- THE CELL 'sum', in the pinned program and in every row, IS THE sha256 OF THE DUMP (.gsa) THAT YtfbdceccefmloaaDoorProg.lean LOADS. Nothing in Lean hashes anything: it is a label: what it is worth is what the hold of that sum in a sandbox is worth. -/
noncomputable def Tryd.pinned : Pinned := { name := "ytfbdceccefmloaadoor", sum := "2c9fad1dc8468fe5d2c5dda2cd43d34d0e82229c4ed924d6f394681fb239fc58", checked := Tryd.checked }
namespace Rows
def none {H : Type} : Left H := { results := [], args := [] }

/- WHAT THE LISTED PACKAGE-LEVEL VARIABLES READ AS WHEN THE CALL BEGINS. Each datum BY PROGRAM (the guide's laid-datum.mjs) off the statement by which the dump's own 'gosem.cut.vars' lays the variable. In a bare row this is a premise. The card (YtfbdceccefmloaaDoorCards.lean) ties it to the program's text. -/
def laid_clusterlocks_mode_together {H : Type} : DataW H := .agg [.agg [.lit (.bool false), .lit (.bool false), .lit (.bool false), .lit (.bool false), .lit (.bool false), .lit (.bool false)], .agg [.lit (.bool false), .lit (.bool true), .lit (.bool true), .lit (.bool true), .lit (.bool true), .lit (.bool false)], .agg [.lit (.bool false), .lit (.bool true), .lit (.bool true), .lit (.bool false), .lit (.bool false), .lit (.bool false)], .agg [.lit (.bool false), .lit (.bool true), .lit (.bool false), .lit (.bool true), .lit (.bool false), .lit (.bool false)], .agg [.lit (.bool false), .lit (.bool true), .lit (.bool false), .lit (.bool false), .lit (.bool false), .lit (.bool false)], .agg [.lit (.bool false), .lit (.bool false), .lit (.bool false), .lit (.bool false), .lit (.bool false), .lit (.bool false)]]

/-- 'clusterlockslaw03.ModeTable': WHATEVER THE INPUT: true; the input reads as it did. -/
def modeTableSpec : ChangeSpec := { name := "modeTable", fn := fun _ => fun
  | [d1, d2] => { results := [.lit (.bool true)], args := [d1, d2] }
  | _ => none }
def modeTableRow : OpenClaim := { program := "ytfbdceccefmloaadoor", sum := "2c9fad1dc8468fe5d2c5dda2cd43d34d0e82229c4ed924d6f394681fb239fc58", func := "clusterlocks/clusterlockslaw03.ModeTable", spec := "modeTable", named := ["clusterlocks/mode.together"], apart := false, laid := [("clusterlocks/mode.together", laid_clusterlocks_mode_together)] }
def ModeTableSaid : Prop := modeTableRow.holds Tryd.pinned (OpenSpec.ofChange modeTableSpec)

/-- ITS FALSE NEIGHBOUR: 'it returns false'. Refute it at one input. -/
def modeTableWrong : ChangeSpec := { name := "modeTable", fn := fun _ => fun
  | [d1, d2] => { results := [.lit (.bool false)], args := [d1, d2] }
  | _ => none }
def ModeTableWrongFalsely : Prop := modeTableRow.holds Tryd.pinned (OpenSpec.ofChange modeTableWrong)

/-- 'clusterlockslaw03.ModeSymmetric': WHATEVER THE INPUT: true; the input reads as it did. -/
def modeSymmetricSpec : ChangeSpec := { name := "modeSymmetric", fn := fun _ => fun
  | [d1, d2, d3] => { results := [.lit (.bool true)], args := [d1, d2, d3] }
  | _ => none }
def modeSymmetricRow : OpenClaim := { program := "ytfbdceccefmloaadoor", sum := "2c9fad1dc8468fe5d2c5dda2cd43d34d0e82229c4ed924d6f394681fb239fc58", func := "clusterlocks/clusterlockslaw03.ModeSymmetric", spec := "modeSymmetric", named := ["clusterlocks/mode.together"], apart := false, laid := [("clusterlocks/mode.together", laid_clusterlocks_mode_together)] }
def ModeSymmetricSaid : Prop := modeSymmetricRow.holds Tryd.pinned (OpenSpec.ofChange modeSymmetricSpec)

/-- ITS FALSE NEIGHBOUR: 'it returns false'. Refute it at one input. -/
def modeSymmetricWrong : ChangeSpec := { name := "modeSymmetric", fn := fun _ => fun
  | [d1, d2, d3] => { results := [.lit (.bool false)], args := [d1, d2, d3] }
  | _ => none }
def ModeSymmetricWrongFalsely : Prop := modeSymmetricRow.holds Tryd.pinned (OpenSpec.ofChange modeSymmetricWrong)

/-- 'clusterlockslaw03.ModeSup': WHATEVER THE INPUT: true; the input reads as it did. -/
def modeSupSpec : ChangeSpec := { name := "modeSup", fn := fun _ => fun
  | [d1, d2, d3] => { results := [.lit (.bool true)], args := [d1, d2, d3] }
  | _ => none }
def modeSupRow : OpenClaim := { program := "ytfbdceccefmloaadoor", sum := "2c9fad1dc8468fe5d2c5dda2cd43d34d0e82229c4ed924d6f394681fb239fc58", func := "clusterlocks/clusterlockslaw03.ModeSup", spec := "modeSup", named := ["clusterlocks/mode.together"], apart := false, laid := [("clusterlocks/mode.together", laid_clusterlocks_mode_together)] }
def ModeSupSaid : Prop := modeSupRow.holds Tryd.pinned (OpenSpec.ofChange modeSupSpec)

/-- ITS FALSE NEIGHBOUR: 'it returns false'. Refute it at one input. -/
def modeSupWrong : ChangeSpec := { name := "modeSup", fn := fun _ => fun
  | [d1, d2, d3] => { results := [.lit (.bool false)], args := [d1, d2, d3] }
  | _ => none }
def ModeSupWrongFalsely : Prop := modeSupRow.holds Tryd.pinned (OpenSpec.ofChange modeSupWrong)

/-- 'clusterlockslaw03.ModeWeakens': WHATEVER THE INPUT: true; the input reads as it did. -/
def modeWeakensSpec : ChangeSpec := { name := "modeWeakens", fn := fun _ => fun
  | [d1, d2, d3] => { results := [.lit (.bool true)], args := [d1, d2, d3] }
  | _ => none }
def modeWeakensRow : OpenClaim := { program := "ytfbdceccefmloaadoor", sum := "2c9fad1dc8468fe5d2c5dda2cd43d34d0e82229c4ed924d6f394681fb239fc58", func := "clusterlocks/clusterlockslaw03.ModeWeakens", spec := "modeWeakens", named := ["clusterlocks/mode.together"], apart := false, laid := [("clusterlocks/mode.together", laid_clusterlocks_mode_together)] }
def ModeWeakensSaid : Prop := modeWeakensRow.holds Tryd.pinned (OpenSpec.ofChange modeWeakensSpec)

/-- ITS FALSE NEIGHBOUR: 'it returns false'. Refute it at one input. -/
def modeWeakensWrong : ChangeSpec := { name := "modeWeakens", fn := fun _ => fun
  | [d1, d2, d3] => { results := [.lit (.bool false)], args := [d1, d2, d3] }
  | _ => none }
def ModeWeakensWrongFalsely : Prop := modeWeakensRow.holds Tryd.pinned (OpenSpec.ofChange modeWeakensWrong)

/-- 'clusterlockslaw03.ModeConflicts': WHATEVER THE INPUT: true; the input reads as it did. -/
def modeConflictsSpec : ChangeSpec := { name := "modeConflicts", fn := fun _ => fun
  | [d1, d2] => { results := [.lit (.bool true)], args := [d1, d2] }
  | _ => none }
def modeConflictsRow : OpenClaim := { program := "ytfbdceccefmloaadoor", sum := "2c9fad1dc8468fe5d2c5dda2cd43d34d0e82229c4ed924d6f394681fb239fc58", func := "clusterlocks/clusterlockslaw03.ModeConflicts", spec := "modeConflicts", named := ["clusterlocks/mode.together"], apart := false, laid := [("clusterlocks/mode.together", laid_clusterlocks_mode_together)] }
def ModeConflictsSaid : Prop := modeConflictsRow.holds Tryd.pinned (OpenSpec.ofChange modeConflictsSpec)

/-- ITS FALSE NEIGHBOUR: 'it returns false'. Refute it at one input. -/
def modeConflictsWrong : ChangeSpec := { name := "modeConflicts", fn := fun _ => fun
  | [d1, d2] => { results := [.lit (.bool false)], args := [d1, d2] }
  | _ => none }
def ModeConflictsWrongFalsely : Prop := modeConflictsRow.holds Tryd.pinned (OpenSpec.ofChange modeConflictsWrong)

/-- 'clusterlockslaw03.ModeNames': WHATEVER THE INPUT: true; the input reads as it did. -/
def modeNamesSpec : ChangeSpec := { name := "modeNames", fn := fun _ => fun
  | [d1, d2] => { results := [.lit (.bool true)], args := [d1, d2] }
  | _ => none }
def modeNamesRow : OpenClaim := { program := "ytfbdceccefmloaadoor", sum := "2c9fad1dc8468fe5d2c5dda2cd43d34d0e82229c4ed924d6f394681fb239fc58", func := "clusterlocks/clusterlockslaw03.ModeNames", spec := "modeNames", named := ["clusterlocks/mode.together"], apart := false, laid := [("clusterlocks/mode.together", laid_clusterlocks_mode_together)] }
def ModeNamesSaid : Prop := modeNamesRow.holds Tryd.pinned (OpenSpec.ofChange modeNamesSpec)

/-- ITS FALSE NEIGHBOUR: 'it returns false'. Refute it at one input. -/
def modeNamesWrong : ChangeSpec := { name := "modeNames", fn := fun _ => fun
  | [d1, d2] => { results := [.lit (.bool false)], args := [d1, d2] }
  | _ => none }
def ModeNamesWrongFalsely : Prop := modeNamesRow.holds Tryd.pinned (OpenSpec.ofChange modeNamesWrong)

/-- 'clusterlockslaw03.ModeGroup': WHATEVER THE INPUT: true; the input reads as it did. -/
def modeGroupSpec : ChangeSpec := { name := "modeGroup", fn := fun _ => fun
  | [d1, d2] => { results := [.lit (.bool true)], args := [d1, d2] }
  | _ => none }
def modeGroupRow : OpenClaim := { program := "ytfbdceccefmloaadoor", sum := "2c9fad1dc8468fe5d2c5dda2cd43d34d0e82229c4ed924d6f394681fb239fc58", func := "clusterlocks/clusterlockslaw03.ModeGroup", spec := "modeGroup", named := ["clusterlocks/mode.together"], apart := false, laid := [("clusterlocks/mode.together", laid_clusterlocks_mode_together)] }
def ModeGroupSaid : Prop := modeGroupRow.holds Tryd.pinned (OpenSpec.ofChange modeGroupSpec)

/-- ITS FALSE NEIGHBOUR: 'it returns false'. Refute it at one input. -/
def modeGroupWrong : ChangeSpec := { name := "modeGroup", fn := fun _ => fun
  | [d1, d2] => { results := [.lit (.bool false)], args := [d1, d2] }
  | _ => none }
def ModeGroupWrongFalsely : Prop := modeGroupRow.holds Tryd.pinned (OpenSpec.ofChange modeGroupWrong)

/- THE SECOND FORM. 'bulk': how many values and letters a reading holds, each counted each time it is reached (what is shared counts as often as it is met; a slice's spare places count too). A statement '..UptoSaid' is the law's where the arguments, and the package variables that the reading takes, are together of bulk at most 1048576: NARROWER than '..Said'. Prove '..Said' where nothing that the law and all that it calls make is longer than what came in: it says more and counts as full. Else prove '..UptoSaid'. A law counts once. -/
mutual
def uptoBulk {H : Type} : DataW H → Nat
  | .lit (.string bytes) => bytes.length + 1
  | .lit _ => 1
  | .nil => 1
  | .ptr d => uptoBulk d + 1
  | .slice elems spare => uptoBulkAll elems + uptoBulkAll spare + 1
  | .agg parts => uptoBulkAll parts + 1
  | .iface _ d => uptoBulk d + 1
  | .map entries => uptoBulkEntries entries + 1
  | .held _ => 1
def uptoBulkAll {H : Type} : List (DataW H) → Nat
  | [] => 0
  | d :: r => uptoBulk d + uptoBulkAll r
def uptoBulkEntries {H : Type} : List (Lit × DataW H) → Nat
  | [] => 0
  | x :: r => uptoBulkEntry x + uptoBulkEntries r
def uptoBulkEntry {H : Type} : Lit × DataW H → Nat
  | (.string bytes, d) => bytes.length + uptoBulk d + 1
  | (_, d) => uptoBulk d + 1
 end
def uptoSmall : (H : Type) → List (DataW H) → Bool := fun _ ds => decide (uptoBulkAll ds ≤ 1048576)
def OpenSpec.upto (s : _root_.Go.ChangeSpec) : _root_.Go.OpenSpec := { _root_.Go.OpenSpec.ofChange s with cond := some uptoSmall }

/-- 'clusterlockslaw03.ModeTable', WHERE WHAT IT READS IS OF BULK AT MOST 1048576: true; the input reads as it did. -/
def modeTableUptoRow : OpenClaim := { program := "ytfbdceccefmloaadoor", sum := "2c9fad1dc8468fe5d2c5dda2cd43d34d0e82229c4ed924d6f394681fb239fc58", func := "clusterlocks/clusterlockslaw03.ModeTable", spec := "modeTable", named := ["clusterlocks/mode.together"], apart := false, laid := [("clusterlocks/mode.together", laid_clusterlocks_mode_together)], narrowed := true }
def ModeTableUptoSaid : Prop := modeTableUptoRow.holds Tryd.pinned (OpenSpec.upto modeTableSpec)

/-- 'clusterlockslaw03.ModeSymmetric', WHERE WHAT IT READS IS OF BULK AT MOST 1048576: true; the input reads as it did. -/
def modeSymmetricUptoRow : OpenClaim := { program := "ytfbdceccefmloaadoor", sum := "2c9fad1dc8468fe5d2c5dda2cd43d34d0e82229c4ed924d6f394681fb239fc58", func := "clusterlocks/clusterlockslaw03.ModeSymmetric", spec := "modeSymmetric", named := ["clusterlocks/mode.together"], apart := false, laid := [("clusterlocks/mode.together", laid_clusterlocks_mode_together)], narrowed := true }
def ModeSymmetricUptoSaid : Prop := modeSymmetricUptoRow.holds Tryd.pinned (OpenSpec.upto modeSymmetricSpec)

/-- 'clusterlockslaw03.ModeSup', WHERE WHAT IT READS IS OF BULK AT MOST 1048576: true; the input reads as it did. -/
def modeSupUptoRow : OpenClaim := { program := "ytfbdceccefmloaadoor", sum := "2c9fad1dc8468fe5d2c5dda2cd43d34d0e82229c4ed924d6f394681fb239fc58", func := "clusterlocks/clusterlockslaw03.ModeSup", spec := "modeSup", named := ["clusterlocks/mode.together"], apart := false, laid := [("clusterlocks/mode.together", laid_clusterlocks_mode_together)], narrowed := true }
def ModeSupUptoSaid : Prop := modeSupUptoRow.holds Tryd.pinned (OpenSpec.upto modeSupSpec)

/-- 'clusterlockslaw03.ModeWeakens', WHERE WHAT IT READS IS OF BULK AT MOST 1048576: true; the input reads as it did. -/
def modeWeakensUptoRow : OpenClaim := { program := "ytfbdceccefmloaadoor", sum := "2c9fad1dc8468fe5d2c5dda2cd43d34d0e82229c4ed924d6f394681fb239fc58", func := "clusterlocks/clusterlockslaw03.ModeWeakens", spec := "modeWeakens", named := ["clusterlocks/mode.together"], apart := false, laid := [("clusterlocks/mode.together", laid_clusterlocks_mode_together)], narrowed := true }
def ModeWeakensUptoSaid : Prop := modeWeakensUptoRow.holds Tryd.pinned (OpenSpec.upto modeWeakensSpec)

/-- 'clusterlockslaw03.ModeConflicts', WHERE WHAT IT READS IS OF BULK AT MOST 1048576: true; the input reads as it did. -/
def modeConflictsUptoRow : OpenClaim := { program := "ytfbdceccefmloaadoor", sum := "2c9fad1dc8468fe5d2c5dda2cd43d34d0e82229c4ed924d6f394681fb239fc58", func := "clusterlocks/clusterlockslaw03.ModeConflicts", spec := "modeConflicts", named := ["clusterlocks/mode.together"], apart := false, laid := [("clusterlocks/mode.together", laid_clusterlocks_mode_together)], narrowed := true }
def ModeConflictsUptoSaid : Prop := modeConflictsUptoRow.holds Tryd.pinned (OpenSpec.upto modeConflictsSpec)

/-- 'clusterlockslaw03.ModeNames', WHERE WHAT IT READS IS OF BULK AT MOST 1048576: true; the input reads as it did. -/
def modeNamesUptoRow : OpenClaim := { program := "ytfbdceccefmloaadoor", sum := "2c9fad1dc8468fe5d2c5dda2cd43d34d0e82229c4ed924d6f394681fb239fc58", func := "clusterlocks/clusterlockslaw03.ModeNames", spec := "modeNames", named := ["clusterlocks/mode.together"], apart := false, laid := [("clusterlocks/mode.together", laid_clusterlocks_mode_together)], narrowed := true }
def ModeNamesUptoSaid : Prop := modeNamesUptoRow.holds Tryd.pinned (OpenSpec.upto modeNamesSpec)

/-- 'clusterlockslaw03.ModeGroup', WHERE WHAT IT READS IS OF BULK AT MOST 1048576: true; the input reads as it did. -/
def modeGroupUptoRow : OpenClaim := { program := "ytfbdceccefmloaadoor", sum := "2c9fad1dc8468fe5d2c5dda2cd43d34d0e82229c4ed924d6f394681fb239fc58", func := "clusterlocks/clusterlockslaw03.ModeGroup", spec := "modeGroup", named := ["clusterlocks/mode.together"], apart := false, laid := [("clusterlocks/mode.together", laid_clusterlocks_mode_together)], narrowed := true }
def ModeGroupUptoSaid : Prop := modeGroupUptoRow.holds Tryd.pinned (OpenSpec.upto modeGroupSpec)

end Rows
end Go.Proofs.YtfbdceccefmloaaDoor
