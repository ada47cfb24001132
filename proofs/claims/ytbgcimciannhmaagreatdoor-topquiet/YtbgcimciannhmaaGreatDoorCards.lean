/-
  DERIVED. GIVEN WITH THE SEED: THE CARDS: each row of YtbgcimciannhmaaGreatDoorRows.lean that lists a variable, with what it lists TIED to the program's text (the seventh form; the later family's looks); each row that meets fmt, with fmt's text TOLD by the authors' own Lean function (tested against real Go, not proved from fmt's source: count such statements apart). THE CARD IS WHAT COUNTS. Prove the row's statement (the work); the ties are given (YtbgcimciannhmaaGreatDoorTie.lean); close each card by the builder's one call (the guide's Derived/Test/ToyasCard.lean, 'card_holds'). Laid BY PROGRAM, IN A SANDBOX (cutbox-door.mjs). By AI agents, Wed Nov 11 2026. No macro, syntax, notation, axiom, sorry.
-/
import Derived.Test.YtbgcimciannhmaaGreatDoorRows
import GoSem.ClaimSeven
namespace Go.Proofs.YtbgcimciannhmaaGreatDoor
namespace Rows

/-- THE TIED CARD OF 'mastheadtop.TopFull'. -/
def topFullCard : Claim7 := { stood := { row := topFullRow, standIns := [], harness := (true, "e801448fbdcf0de4feb519d279c1596834300df237b74068258f1462cdc99010"), looks := false }, kinds := [], alts := [], laidByText := true, laidKinds := [.data, .data, .data, .pinned], laidTests := true, laidLooks := .later }
def TopFullCardSaid : Prop := Claim7.holds Tryz.pinned (.plain (OpenSpec.ofChange topFullSpec)) topFullCard

/-- THE TIED CARD OF 'mastheadtop.TopBans'. -/
def topBansCard : Claim7 := { stood := { row := topBansRow, standIns := [], harness := (true, "e801448fbdcf0de4feb519d279c1596834300df237b74068258f1462cdc99010"), looks := false }, kinds := [], alts := [], laidByText := true, laidKinds := [.data, .data, .data, .pinned], laidTests := true, laidLooks := .later }
def TopBansCardSaid : Prop := Claim7.holds Tryz.pinned (.plain (OpenSpec.ofChange topBansSpec)) topBansCard

/-- THE TIED CARD OF 'mastheadtop.TopQuiet'. -/
def topQuietCard : Claim7 := { stood := { row := topQuietRow, standIns := [], harness := (true, "e801448fbdcf0de4feb519d279c1596834300df237b74068258f1462cdc99010"), looks := false }, kinds := [], alts := [], laidByText := true, laidKinds := [.data, .data, .data, .pinned], laidTests := true, laidLooks := .later }
def TopQuietCardSaid : Prop := Claim7.holds Tryz.pinned (.plain (OpenSpec.ofChange topQuietSpec)) topQuietCard

/-- THE SECOND FORM's CARD OF 'mastheadtop.TopFull'. -/
def topFullUptoCard : Claim7 := { stood := { row := topFullUptoRow, standIns := [], harness := (true, "e801448fbdcf0de4feb519d279c1596834300df237b74068258f1462cdc99010"), looks := false }, kinds := [], alts := [], laidByText := true, laidKinds := [.data, .data, .data, .pinned], laidTests := true, laidLooks := .later }
def TopFullUptoCardSaid : Prop := Claim7.holds Tryz.pinned (.plain (OpenSpec.upto topFullSpec)) topFullUptoCard

/-- THE SECOND FORM's CARD OF 'mastheadtop.TopBans'. -/
def topBansUptoCard : Claim7 := { stood := { row := topBansUptoRow, standIns := [], harness := (true, "e801448fbdcf0de4feb519d279c1596834300df237b74068258f1462cdc99010"), looks := false }, kinds := [], alts := [], laidByText := true, laidKinds := [.data, .data, .data, .pinned], laidTests := true, laidLooks := .later }
def TopBansUptoCardSaid : Prop := Claim7.holds Tryz.pinned (.plain (OpenSpec.upto topBansSpec)) topBansUptoCard

/-- THE SECOND FORM's CARD OF 'mastheadtop.TopQuiet'. -/
def topQuietUptoCard : Claim7 := { stood := { row := topQuietUptoRow, standIns := [], harness := (true, "e801448fbdcf0de4feb519d279c1596834300df237b74068258f1462cdc99010"), looks := false }, kinds := [], alts := [], laidByText := true, laidKinds := [.data, .data, .data, .pinned], laidTests := true, laidLooks := .later }
def TopQuietUptoCardSaid : Prop := Claim7.holds Tryz.pinned (.plain (OpenSpec.upto topQuietSpec)) topQuietUptoCard
end Rows
end Go.Proofs.YtbgcimciannhmaaGreatDoor
