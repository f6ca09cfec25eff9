/-
  DERIVED. GIVEN WITH THE SEED: THE CARDS: each row of YtfbdceccefmloaaDoorRows.lean that lists a variable, with what it lists TIED to the program's text (the seventh form; the later family's looks); each row that meets fmt, with fmt's text TOLD by the authors' own Lean function (tested against real Go, not proved from fmt's source: count such statements apart). THE CARD IS WHAT COUNTS. Prove the row's statement (the work); the ties are given (YtfbdceccefmloaaDoorTie.lean); close each card by the builder's one call (the guide's Derived/Test/ToyasCard.lean, 'card_holds'). Laid BY PROGRAM, IN A SANDBOX (cutbox-door.mjs). By AI agents, Wed Nov 11 2026. No macro, syntax, notation, axiom, sorry.
-/
import Derived.Test.YtfbdceccefmloaaDoorRows
import GoSem.ClaimSeven
namespace Go.Proofs.YtfbdceccefmloaaDoor
namespace Rows

/-- THE TIED CARD OF 'clusterlockslaw03.ModeTable'. -/
def modeTableCard : Claim7 := { stood := { row := modeTableRow, standIns := [], harness := (true, "fe1f9ac8e565d6fc345f16eaa546a8b19a28d5bacc84cf7613b5bdbb56a51491"), looks := false }, kinds := [], alts := [], laidByText := true, laidKinds := [.data], laidTests := true, laidLooks := .later }
def ModeTableCardSaid : Prop := Claim7.holds Tryd.pinned (.plain (OpenSpec.ofChange modeTableSpec)) modeTableCard

/-- THE TIED CARD OF 'clusterlockslaw03.ModeSymmetric'. -/
def modeSymmetricCard : Claim7 := { stood := { row := modeSymmetricRow, standIns := [], harness := (true, "fe1f9ac8e565d6fc345f16eaa546a8b19a28d5bacc84cf7613b5bdbb56a51491"), looks := false }, kinds := [], alts := [], laidByText := true, laidKinds := [.data], laidTests := true, laidLooks := .later }
def ModeSymmetricCardSaid : Prop := Claim7.holds Tryd.pinned (.plain (OpenSpec.ofChange modeSymmetricSpec)) modeSymmetricCard

/-- THE TIED CARD OF 'clusterlockslaw03.ModeSup'. -/
def modeSupCard : Claim7 := { stood := { row := modeSupRow, standIns := [], harness := (true, "fe1f9ac8e565d6fc345f16eaa546a8b19a28d5bacc84cf7613b5bdbb56a51491"), looks := false }, kinds := [], alts := [], laidByText := true, laidKinds := [.data], laidTests := true, laidLooks := .later }
def ModeSupCardSaid : Prop := Claim7.holds Tryd.pinned (.plain (OpenSpec.ofChange modeSupSpec)) modeSupCard

/-- THE TIED CARD OF 'clusterlockslaw03.ModeWeakens'. -/
def modeWeakensCard : Claim7 := { stood := { row := modeWeakensRow, standIns := [], harness := (true, "fe1f9ac8e565d6fc345f16eaa546a8b19a28d5bacc84cf7613b5bdbb56a51491"), looks := false }, kinds := [], alts := [], laidByText := true, laidKinds := [.data], laidTests := true, laidLooks := .later }
def ModeWeakensCardSaid : Prop := Claim7.holds Tryd.pinned (.plain (OpenSpec.ofChange modeWeakensSpec)) modeWeakensCard

/-- THE TIED CARD OF 'clusterlockslaw03.ModeConflicts'. -/
def modeConflictsCard : Claim7 := { stood := { row := modeConflictsRow, standIns := [], harness := (true, "fe1f9ac8e565d6fc345f16eaa546a8b19a28d5bacc84cf7613b5bdbb56a51491"), looks := false }, kinds := [], alts := [], laidByText := true, laidKinds := [.data], laidTests := true, laidLooks := .later }
def ModeConflictsCardSaid : Prop := Claim7.holds Tryd.pinned (.plain (OpenSpec.ofChange modeConflictsSpec)) modeConflictsCard

/-- THE TIED CARD OF 'clusterlockslaw03.ModeNames'. -/
def modeNamesCard : Claim7 := { stood := { row := modeNamesRow, standIns := [], harness := (true, "fe1f9ac8e565d6fc345f16eaa546a8b19a28d5bacc84cf7613b5bdbb56a51491"), looks := false }, kinds := [], alts := [], laidByText := true, laidKinds := [.data], laidTests := true, laidLooks := .later }
def ModeNamesCardSaid : Prop := Claim7.holds Tryd.pinned (.plain (OpenSpec.ofChange modeNamesSpec)) modeNamesCard

/-- THE TIED CARD OF 'clusterlockslaw03.ModeGroup'. -/
def modeGroupCard : Claim7 := { stood := { row := modeGroupRow, standIns := [], harness := (true, "fe1f9ac8e565d6fc345f16eaa546a8b19a28d5bacc84cf7613b5bdbb56a51491"), looks := false }, kinds := [], alts := [], laidByText := true, laidKinds := [.data], laidTests := true, laidLooks := .later }
def ModeGroupCardSaid : Prop := Claim7.holds Tryd.pinned (.plain (OpenSpec.ofChange modeGroupSpec)) modeGroupCard

/-- THE SECOND FORM's CARD OF 'clusterlockslaw03.ModeTable'. -/
def modeTableUptoCard : Claim7 := { stood := { row := modeTableUptoRow, standIns := [], harness := (true, "fe1f9ac8e565d6fc345f16eaa546a8b19a28d5bacc84cf7613b5bdbb56a51491"), looks := false }, kinds := [], alts := [], laidByText := true, laidKinds := [.data], laidTests := true, laidLooks := .later }
def ModeTableUptoCardSaid : Prop := Claim7.holds Tryd.pinned (.plain (OpenSpec.upto modeTableSpec)) modeTableUptoCard

/-- THE SECOND FORM's CARD OF 'clusterlockslaw03.ModeSymmetric'. -/
def modeSymmetricUptoCard : Claim7 := { stood := { row := modeSymmetricUptoRow, standIns := [], harness := (true, "fe1f9ac8e565d6fc345f16eaa546a8b19a28d5bacc84cf7613b5bdbb56a51491"), looks := false }, kinds := [], alts := [], laidByText := true, laidKinds := [.data], laidTests := true, laidLooks := .later }
def ModeSymmetricUptoCardSaid : Prop := Claim7.holds Tryd.pinned (.plain (OpenSpec.upto modeSymmetricSpec)) modeSymmetricUptoCard

/-- THE SECOND FORM's CARD OF 'clusterlockslaw03.ModeSup'. -/
def modeSupUptoCard : Claim7 := { stood := { row := modeSupUptoRow, standIns := [], harness := (true, "fe1f9ac8e565d6fc345f16eaa546a8b19a28d5bacc84cf7613b5bdbb56a51491"), looks := false }, kinds := [], alts := [], laidByText := true, laidKinds := [.data], laidTests := true, laidLooks := .later }
def ModeSupUptoCardSaid : Prop := Claim7.holds Tryd.pinned (.plain (OpenSpec.upto modeSupSpec)) modeSupUptoCard

/-- THE SECOND FORM's CARD OF 'clusterlockslaw03.ModeWeakens'. -/
def modeWeakensUptoCard : Claim7 := { stood := { row := modeWeakensUptoRow, standIns := [], harness := (true, "fe1f9ac8e565d6fc345f16eaa546a8b19a28d5bacc84cf7613b5bdbb56a51491"), looks := false }, kinds := [], alts := [], laidByText := true, laidKinds := [.data], laidTests := true, laidLooks := .later }
def ModeWeakensUptoCardSaid : Prop := Claim7.holds Tryd.pinned (.plain (OpenSpec.upto modeWeakensSpec)) modeWeakensUptoCard

/-- THE SECOND FORM's CARD OF 'clusterlockslaw03.ModeConflicts'. -/
def modeConflictsUptoCard : Claim7 := { stood := { row := modeConflictsUptoRow, standIns := [], harness := (true, "fe1f9ac8e565d6fc345f16eaa546a8b19a28d5bacc84cf7613b5bdbb56a51491"), looks := false }, kinds := [], alts := [], laidByText := true, laidKinds := [.data], laidTests := true, laidLooks := .later }
def ModeConflictsUptoCardSaid : Prop := Claim7.holds Tryd.pinned (.plain (OpenSpec.upto modeConflictsSpec)) modeConflictsUptoCard

/-- THE SECOND FORM's CARD OF 'clusterlockslaw03.ModeNames'. -/
def modeNamesUptoCard : Claim7 := { stood := { row := modeNamesUptoRow, standIns := [], harness := (true, "fe1f9ac8e565d6fc345f16eaa546a8b19a28d5bacc84cf7613b5bdbb56a51491"), looks := false }, kinds := [], alts := [], laidByText := true, laidKinds := [.data], laidTests := true, laidLooks := .later }
def ModeNamesUptoCardSaid : Prop := Claim7.holds Tryd.pinned (.plain (OpenSpec.upto modeNamesSpec)) modeNamesUptoCard

/-- THE SECOND FORM's CARD OF 'clusterlockslaw03.ModeGroup'. -/
def modeGroupUptoCard : Claim7 := { stood := { row := modeGroupUptoRow, standIns := [], harness := (true, "fe1f9ac8e565d6fc345f16eaa546a8b19a28d5bacc84cf7613b5bdbb56a51491"), looks := false }, kinds := [], alts := [], laidByText := true, laidKinds := [.data], laidTests := true, laidLooks := .later }
def ModeGroupUptoCardSaid : Prop := Claim7.holds Tryd.pinned (.plain (OpenSpec.upto modeGroupSpec)) modeGroupUptoCard
end Rows
end Go.Proofs.YtfbdceccefmloaaDoor
