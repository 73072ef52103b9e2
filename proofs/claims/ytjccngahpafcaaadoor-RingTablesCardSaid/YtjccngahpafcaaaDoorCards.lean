/-
  DERIVED. GIVEN WITH THE SEED: THE CARDS: each row of YtjccngahpafcaaaDoorRows.lean that lists a variable, with what it lists TIED to the program's text (the seventh form; the later family's looks); each row that meets fmt, with fmt's text TOLD by the authors' own Lean function (tested against real Go, not proved from fmt's source: count such statements apart). THE CARD IS WHAT COUNTS. Prove the row's statement (the work); the ties are given (YtjccngahpafcaaaDoorTie.lean); close each card by the builder's one call (the guide's Derived/Test/ToyasCard.lean, 'card_holds'). Laid BY PROGRAM, IN A SANDBOX (cutbox-door.mjs). By AI agents, Wed Nov 11 2026. No macro, syntax, notation, axiom, sorry.
-/
import Derived.Test.YtjccngahpafcaaaDoorRows
import GoSem.ClaimSeven
namespace Go.Proofs.YtjccngahpafcaaaDoor
namespace Rows

/-- THE TIED CARD OF 'porterlaw11.RingDiffs'. -/
def ringDiffsCard : Claim7 := { stood := { row := ringDiffsRow, standIns := [], harness := (true, "48e4ac9dd373a699bcad54162d3ebd430f81862c25015845b25a556bdc340965"), looks := false }, kinds := [], alts := [], laidByText := true, laidKinds := [.data, .data, .data], laidTests := true, laidLooks := .later }
def RingDiffsCardSaid : Prop := Claim7.holds Tryd.pinned (.plain (OpenSpec.ofChange ringDiffsSpec)) ringDiffsCard

/-- THE TIED CARD OF 'porterlaw11.RingWalk'. -/
def ringWalkCard : Claim7 := { stood := { row := ringWalkRow, standIns := [], harness := (true, "48e4ac9dd373a699bcad54162d3ebd430f81862c25015845b25a556bdc340965"), looks := false }, kinds := [], alts := [], laidByText := true, laidKinds := [.data, .data, .data], laidTests := true, laidLooks := .later }
def RingWalkCardSaid : Prop := Claim7.holds Tryd.pinned (.plain (OpenSpec.ofChange ringWalkSpec)) ringWalkCard

/-- THE TIED CARD OF 'porterlaw11.RingHashes'. -/
def ringHashesCard : Claim7 := { stood := { row := ringHashesRow, standIns := [], harness := (true, "48e4ac9dd373a699bcad54162d3ebd430f81862c25015845b25a556bdc340965"), looks := false }, kinds := [], alts := [], laidByText := true, laidKinds := [.data, .data, .data], laidTests := true, laidLooks := .later }
def RingHashesCardSaid : Prop := Claim7.holds Tryd.pinned (.plain (OpenSpec.ofChange ringHashesSpec)) ringHashesCard

/-- THE TIED CARD OF 'porterlaw11.RingTables'. -/
def ringTablesCard : Claim7 := { stood := { row := ringTablesRow, standIns := [], harness := (true, "48e4ac9dd373a699bcad54162d3ebd430f81862c25015845b25a556bdc340965"), looks := false }, kinds := [], alts := [], laidByText := true, laidKinds := [.data, .data, .data], laidTests := true, laidLooks := .later }
def RingTablesCardSaid : Prop := Claim7.holds Tryd.pinned (.plain (OpenSpec.ofChange ringTablesSpec)) ringTablesCard

/-- THE TIED CARD OF 'porterlaw11.RingMoves'. -/
def ringMovesCard : Claim7 := { stood := { row := ringMovesRow, standIns := [], harness := (true, "48e4ac9dd373a699bcad54162d3ebd430f81862c25015845b25a556bdc340965"), looks := false }, kinds := [], alts := [], laidByText := true, laidKinds := [.data, .data, .data], laidTests := true, laidLooks := .later }
def RingMovesCardSaid : Prop := Claim7.holds Tryd.pinned (.plain (OpenSpec.ofChange ringMovesSpec)) ringMovesCard

/-- THE SECOND FORM's CARD OF 'porterlaw11.RingDiffs'. -/
def ringDiffsUptoCard : Claim7 := { stood := { row := ringDiffsUptoRow, standIns := [], harness := (true, "48e4ac9dd373a699bcad54162d3ebd430f81862c25015845b25a556bdc340965"), looks := false }, kinds := [], alts := [], laidByText := true, laidKinds := [.data, .data, .data], laidTests := true, laidLooks := .later }
def RingDiffsUptoCardSaid : Prop := Claim7.holds Tryd.pinned (.plain (OpenSpec.upto ringDiffsSpec)) ringDiffsUptoCard

/-- THE SECOND FORM's CARD OF 'porterlaw11.RingWalk'. -/
def ringWalkUptoCard : Claim7 := { stood := { row := ringWalkUptoRow, standIns := [], harness := (true, "48e4ac9dd373a699bcad54162d3ebd430f81862c25015845b25a556bdc340965"), looks := false }, kinds := [], alts := [], laidByText := true, laidKinds := [.data, .data, .data], laidTests := true, laidLooks := .later }
def RingWalkUptoCardSaid : Prop := Claim7.holds Tryd.pinned (.plain (OpenSpec.upto ringWalkSpec)) ringWalkUptoCard

/-- THE SECOND FORM's CARD OF 'porterlaw11.RingHashes'. -/
def ringHashesUptoCard : Claim7 := { stood := { row := ringHashesUptoRow, standIns := [], harness := (true, "48e4ac9dd373a699bcad54162d3ebd430f81862c25015845b25a556bdc340965"), looks := false }, kinds := [], alts := [], laidByText := true, laidKinds := [.data, .data, .data], laidTests := true, laidLooks := .later }
def RingHashesUptoCardSaid : Prop := Claim7.holds Tryd.pinned (.plain (OpenSpec.upto ringHashesSpec)) ringHashesUptoCard

/-- THE SECOND FORM's CARD OF 'porterlaw11.RingTables'. -/
def ringTablesUptoCard : Claim7 := { stood := { row := ringTablesUptoRow, standIns := [], harness := (true, "48e4ac9dd373a699bcad54162d3ebd430f81862c25015845b25a556bdc340965"), looks := false }, kinds := [], alts := [], laidByText := true, laidKinds := [.data, .data, .data], laidTests := true, laidLooks := .later }
def RingTablesUptoCardSaid : Prop := Claim7.holds Tryd.pinned (.plain (OpenSpec.upto ringTablesSpec)) ringTablesUptoCard

/-- THE SECOND FORM's CARD OF 'porterlaw11.RingMoves'. -/
def ringMovesUptoCard : Claim7 := { stood := { row := ringMovesUptoRow, standIns := [], harness := (true, "48e4ac9dd373a699bcad54162d3ebd430f81862c25015845b25a556bdc340965"), looks := false }, kinds := [], alts := [], laidByText := true, laidKinds := [.data, .data, .data], laidTests := true, laidLooks := .later }
def RingMovesUptoCardSaid : Prop := Claim7.holds Tryd.pinned (.plain (OpenSpec.upto ringMovesSpec)) ringMovesUptoCard
end Rows
end Go.Proofs.YtjccngahpafcaaaDoor
