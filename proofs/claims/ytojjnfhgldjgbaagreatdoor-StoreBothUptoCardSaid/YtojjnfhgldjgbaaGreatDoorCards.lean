/-
  DERIVED. GIVEN WITH THE SEED: THE CARDS: each row of YtojjnfhgldjgbaaGreatDoorRows.lean that lists a variable, with what it lists TIED to the program's text (the seventh form; the later family's looks); each row that meets fmt, with fmt's text TOLD by the authors' own Lean function (tested against real Go, not proved from fmt's source: count such statements apart). THE CARD IS WHAT COUNTS. Prove the row's statement (the work); the ties are given (YtojjnfhgldjgbaaGreatDoorTie.lean); close each card by the builder's one call (the guide's Derived/Test/ToyasCard.lean, 'card_holds'). Laid BY PROGRAM, IN A SANDBOX (cutbox-door.mjs). By AI agents, Wed Nov 11 2026. No macro, syntax, notation, axiom, sorry.
-/
import Derived.Test.YtojjnfhgldjgbaaGreatDoorRows
import GoSem.ClaimSeven
namespace Go.Proofs.YtojjnfhgldjgbaaGreatDoor
namespace Rows

/-- THE TIED CARD OF 'porterlaw22.WatchSplits'. -/
def watchSplitsCard : Claim7 := { stood := { row := watchSplitsRow, standIns := [], harness := (true, "f6e8621f8a958d6a66395d545d465bd4d8c55e217e1151dd7da133edc602972b"), looks := false }, kinds := [], alts := [], laidByText := true, laidKinds := [.data, .pinned], laidTests := true, laidLooks := .later }
def WatchSplitsCardSaid : Prop := Claim7.holds Tryz.pinned (.plain (OpenSpec.ofChange watchSplitsSpec)) watchSplitsCard

/-- THE TIED CARD OF 'porterlaw22.WatchPlays'. -/
def watchPlaysCard : Claim7 := { stood := { row := watchPlaysRow, standIns := [], harness := (true, "f6e8621f8a958d6a66395d545d465bd4d8c55e217e1151dd7da133edc602972b"), looks := false }, kinds := [], alts := [], laidByText := true, laidKinds := [.data, .pinned], laidTests := true, laidLooks := .later }
def WatchPlaysCardSaid : Prop := Claim7.holds Tryz.pinned (.plain (OpenSpec.ofChange watchPlaysSpec)) watchPlaysCard

/-- THE TIED CARD OF 'porterlaw22.WatchNet'. -/
def watchNetCard : Claim7 := { stood := { row := watchNetRow, standIns := [], harness := (true, "f6e8621f8a958d6a66395d545d465bd4d8c55e217e1151dd7da133edc602972b"), looks := false }, kinds := [], alts := [], laidByText := true, laidKinds := [.data, .pinned], laidTests := true, laidLooks := .later }
def WatchNetCardSaid : Prop := Claim7.holds Tryz.pinned (.plain (OpenSpec.ofChange watchNetSpec)) watchNetCard

/-- THE TIED CARD OF 'porterlaw07.StoreIdles'. -/
def storeIdlesCard : Claim7 := { stood := { row := storeIdlesRow, standIns := [], harness := (true, "f6e8621f8a958d6a66395d545d465bd4d8c55e217e1151dd7da133edc602972b"), looks := false }, kinds := [], alts := [], laidByText := true, laidKinds := [.data, .pinned], laidTests := true, laidLooks := .later }
def StoreIdlesCardSaid : Prop := Claim7.holds Tryz.pinned (.plain (OpenSpec.ofChange storeIdlesSpec)) storeIdlesCard

/-- THE TIED CARD OF 'porterlaw07.StoreBoth'. -/
def storeBothCard : Claim7 := { stood := { row := storeBothRow, standIns := [], harness := (true, "f6e8621f8a958d6a66395d545d465bd4d8c55e217e1151dd7da133edc602972b"), looks := false }, kinds := [], alts := [], laidByText := true, laidKinds := [.data, .pinned], laidTests := true, laidLooks := .later }
def StoreBothCardSaid : Prop := Claim7.holds Tryz.pinned (.plain (OpenSpec.ofChange storeBothSpec)) storeBothCard

/-- THE TIED CARD OF 'porterlaw07.StoreHistory'. -/
def storeHistoryCard : Claim7 := { stood := { row := storeHistoryRow, standIns := [], harness := (true, "f6e8621f8a958d6a66395d545d465bd4d8c55e217e1151dd7da133edc602972b"), looks := false }, kinds := [], alts := [], laidByText := true, laidKinds := [.data, .pinned], laidTests := true, laidLooks := .later }
def StoreHistoryCardSaid : Prop := Claim7.holds Tryz.pinned (.plain (OpenSpec.ofChange storeHistorySpec)) storeHistoryCard

/-- THE TIED CARD OF 'porterlaw07.StoreCollects'. -/
def storeCollectsCard : Claim7 := { stood := { row := storeCollectsRow, standIns := [], harness := (true, "f6e8621f8a958d6a66395d545d465bd4d8c55e217e1151dd7da133edc602972b"), looks := false }, kinds := [], alts := [], laidByText := true, laidKinds := [.data, .pinned], laidTests := true, laidLooks := .later }
def StoreCollectsCardSaid : Prop := Claim7.holds Tryz.pinned (.plain (OpenSpec.ofChange storeCollectsSpec)) storeCollectsCard

/-- THE TIED CARD OF 'porterlaw07.StoreMoves'. -/
def storeMovesCard : Claim7 := { stood := { row := storeMovesRow, standIns := [], harness := (true, "f6e8621f8a958d6a66395d545d465bd4d8c55e217e1151dd7da133edc602972b"), looks := false }, kinds := [], alts := [], laidByText := true, laidKinds := [.data, .pinned], laidTests := true, laidLooks := .later }
def StoreMovesCardSaid : Prop := Claim7.holds Tryz.pinned (.plain (OpenSpec.ofChange storeMovesSpec)) storeMovesCard

/-- THE TIED CARD OF 'porterlaw07.StorePlays'. -/
def storePlaysCard : Claim7 := { stood := { row := storePlaysRow, standIns := [], harness := (true, "f6e8621f8a958d6a66395d545d465bd4d8c55e217e1151dd7da133edc602972b"), looks := false }, kinds := [], alts := [], laidByText := true, laidKinds := [.data, .pinned], laidTests := true, laidLooks := .later }
def StorePlaysCardSaid : Prop := Claim7.holds Tryz.pinned (.plain (OpenSpec.ofChange storePlaysSpec)) storePlaysCard

/-- THE SECOND FORM's CARD OF 'porterlaw22.WatchSplits'. -/
def watchSplitsUptoCard : Claim7 := { stood := { row := watchSplitsUptoRow, standIns := [], harness := (true, "f6e8621f8a958d6a66395d545d465bd4d8c55e217e1151dd7da133edc602972b"), looks := false }, kinds := [], alts := [], laidByText := true, laidKinds := [.data, .pinned], laidTests := true, laidLooks := .later }
def WatchSplitsUptoCardSaid : Prop := Claim7.holds Tryz.pinned (.plain (OpenSpec.upto watchSplitsSpec)) watchSplitsUptoCard

/-- THE SECOND FORM's CARD OF 'porterlaw22.WatchPlays'. -/
def watchPlaysUptoCard : Claim7 := { stood := { row := watchPlaysUptoRow, standIns := [], harness := (true, "f6e8621f8a958d6a66395d545d465bd4d8c55e217e1151dd7da133edc602972b"), looks := false }, kinds := [], alts := [], laidByText := true, laidKinds := [.data, .pinned], laidTests := true, laidLooks := .later }
def WatchPlaysUptoCardSaid : Prop := Claim7.holds Tryz.pinned (.plain (OpenSpec.upto watchPlaysSpec)) watchPlaysUptoCard

/-- THE SECOND FORM's CARD OF 'porterlaw22.WatchNet'. -/
def watchNetUptoCard : Claim7 := { stood := { row := watchNetUptoRow, standIns := [], harness := (true, "f6e8621f8a958d6a66395d545d465bd4d8c55e217e1151dd7da133edc602972b"), looks := false }, kinds := [], alts := [], laidByText := true, laidKinds := [.data, .pinned], laidTests := true, laidLooks := .later }
def WatchNetUptoCardSaid : Prop := Claim7.holds Tryz.pinned (.plain (OpenSpec.upto watchNetSpec)) watchNetUptoCard

/-- THE SECOND FORM's CARD OF 'porterlaw07.StoreIdles'. -/
def storeIdlesUptoCard : Claim7 := { stood := { row := storeIdlesUptoRow, standIns := [], harness := (true, "f6e8621f8a958d6a66395d545d465bd4d8c55e217e1151dd7da133edc602972b"), looks := false }, kinds := [], alts := [], laidByText := true, laidKinds := [.data, .pinned], laidTests := true, laidLooks := .later }
def StoreIdlesUptoCardSaid : Prop := Claim7.holds Tryz.pinned (.plain (OpenSpec.upto storeIdlesSpec)) storeIdlesUptoCard

/-- THE SECOND FORM's CARD OF 'porterlaw07.StoreBoth'. -/
def storeBothUptoCard : Claim7 := { stood := { row := storeBothUptoRow, standIns := [], harness := (true, "f6e8621f8a958d6a66395d545d465bd4d8c55e217e1151dd7da133edc602972b"), looks := false }, kinds := [], alts := [], laidByText := true, laidKinds := [.data, .pinned], laidTests := true, laidLooks := .later }
def StoreBothUptoCardSaid : Prop := Claim7.holds Tryz.pinned (.plain (OpenSpec.upto storeBothSpec)) storeBothUptoCard

/-- THE SECOND FORM's CARD OF 'porterlaw07.StoreHistory'. -/
def storeHistoryUptoCard : Claim7 := { stood := { row := storeHistoryUptoRow, standIns := [], harness := (true, "f6e8621f8a958d6a66395d545d465bd4d8c55e217e1151dd7da133edc602972b"), looks := false }, kinds := [], alts := [], laidByText := true, laidKinds := [.data, .pinned], laidTests := true, laidLooks := .later }
def StoreHistoryUptoCardSaid : Prop := Claim7.holds Tryz.pinned (.plain (OpenSpec.upto storeHistorySpec)) storeHistoryUptoCard

/-- THE SECOND FORM's CARD OF 'porterlaw07.StoreCollects'. -/
def storeCollectsUptoCard : Claim7 := { stood := { row := storeCollectsUptoRow, standIns := [], harness := (true, "f6e8621f8a958d6a66395d545d465bd4d8c55e217e1151dd7da133edc602972b"), looks := false }, kinds := [], alts := [], laidByText := true, laidKinds := [.data, .pinned], laidTests := true, laidLooks := .later }
def StoreCollectsUptoCardSaid : Prop := Claim7.holds Tryz.pinned (.plain (OpenSpec.upto storeCollectsSpec)) storeCollectsUptoCard

/-- THE SECOND FORM's CARD OF 'porterlaw07.StoreMoves'. -/
def storeMovesUptoCard : Claim7 := { stood := { row := storeMovesUptoRow, standIns := [], harness := (true, "f6e8621f8a958d6a66395d545d465bd4d8c55e217e1151dd7da133edc602972b"), looks := false }, kinds := [], alts := [], laidByText := true, laidKinds := [.data, .pinned], laidTests := true, laidLooks := .later }
def StoreMovesUptoCardSaid : Prop := Claim7.holds Tryz.pinned (.plain (OpenSpec.upto storeMovesSpec)) storeMovesUptoCard

/-- THE SECOND FORM's CARD OF 'porterlaw07.StorePlays'. -/
def storePlaysUptoCard : Claim7 := { stood := { row := storePlaysUptoRow, standIns := [], harness := (true, "f6e8621f8a958d6a66395d545d465bd4d8c55e217e1151dd7da133edc602972b"), looks := false }, kinds := [], alts := [], laidByText := true, laidKinds := [.data, .pinned], laidTests := true, laidLooks := .later }
def StorePlaysUptoCardSaid : Prop := Claim7.holds Tryz.pinned (.plain (OpenSpec.upto storePlaysSpec)) storePlaysUptoCard
end Rows
end Go.Proofs.YtojjnfhgldjgbaaGreatDoor
