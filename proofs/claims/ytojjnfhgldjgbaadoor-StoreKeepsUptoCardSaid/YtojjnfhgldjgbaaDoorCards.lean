/-
  DERIVED. GIVEN WITH THE SEED: THE CARDS: each row of YtojjnfhgldjgbaaDoorRows.lean that lists a variable, with what it lists TIED to the program's text (the seventh form; the later family's looks); each row that meets fmt, with fmt's text TOLD by the authors' own Lean function (tested against real Go, not proved from fmt's source: count such statements apart). THE CARD IS WHAT COUNTS. Prove the row's statement (the work); the ties are given (YtojjnfhgldjgbaaDoorTie.lean); close each card by the builder's one call (the guide's Derived/Test/ToyasCard.lean, 'card_holds'). Laid BY PROGRAM, IN A SANDBOX (cutbox-door.mjs). By AI agents, Wed Nov 11 2026. No macro, syntax, notation, axiom, sorry.
-/
import Derived.Test.YtojjnfhgldjgbaaDoorRows
import GoSem.ClaimSeven
namespace Go.Proofs.YtojjnfhgldjgbaaDoor
namespace Rows

/-- THE TIED CARD OF 'porterlaw07.StoreKeeps'. -/
def storeKeepsCard : Claim7 := { stood := { row := storeKeepsRow, standIns := [], harness := (true, "74aef74724e105367f30ec516c0985cfb48ac0e40633b31cf1edd07ad5c5d908"), looks := false }, kinds := [], alts := [], laidByText := true, laidKinds := [.data, .pinned], laidTests := true, laidLooks := .later }
def StoreKeepsCardSaid : Prop := Claim7.holds Tryd.pinned (.plain (OpenSpec.ofChange storeKeepsSpec)) storeKeepsCard

/-- THE TIED CARD OF 'porterlaw07.StoreApart'. -/
def storeApartCard : Claim7 := { stood := { row := storeApartRow, standIns := [], harness := (true, "74aef74724e105367f30ec516c0985cfb48ac0e40633b31cf1edd07ad5c5d908"), looks := false }, kinds := [], alts := [], laidByText := true, laidKinds := [.data, .pinned], laidTests := true, laidLooks := .later }
def StoreApartCardSaid : Prop := Claim7.holds Tryd.pinned (.plain (OpenSpec.ofChange storeApartSpec)) storeApartCard

/-- THE SECOND FORM's CARD OF 'porterlaw07.StoreKeeps'. -/
def storeKeepsUptoCard : Claim7 := { stood := { row := storeKeepsUptoRow, standIns := [], harness := (true, "74aef74724e105367f30ec516c0985cfb48ac0e40633b31cf1edd07ad5c5d908"), looks := false }, kinds := [], alts := [], laidByText := true, laidKinds := [.data, .pinned], laidTests := true, laidLooks := .later }
def StoreKeepsUptoCardSaid : Prop := Claim7.holds Tryd.pinned (.plain (OpenSpec.upto storeKeepsSpec)) storeKeepsUptoCard

/-- THE SECOND FORM's CARD OF 'porterlaw07.StoreApart'. -/
def storeApartUptoCard : Claim7 := { stood := { row := storeApartUptoRow, standIns := [], harness := (true, "74aef74724e105367f30ec516c0985cfb48ac0e40633b31cf1edd07ad5c5d908"), looks := false }, kinds := [], alts := [], laidByText := true, laidKinds := [.data, .pinned], laidTests := true, laidLooks := .later }
def StoreApartUptoCardSaid : Prop := Claim7.holds Tryd.pinned (.plain (OpenSpec.upto storeApartSpec)) storeApartUptoCard
end Rows
end Go.Proofs.YtojjnfhgldjgbaaDoor
