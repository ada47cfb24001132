/-
  DERIVED. GIVEN WITH THE SEED: THE CARDS: each row of YtbjoemlcakfkmaaDoorRows.lean that lists a variable, with what it lists TIED to the program's text (the seventh form; the later family's looks); each row that meets fmt, with fmt's text TOLD by the authors' own Lean function (tested against real Go, not proved from fmt's source: count such statements apart). THE CARD IS WHAT COUNTS. Prove the row's statement (the work); the ties are given (YtbjoemlcakfkmaaDoorTie.lean); close each card by the builder's one call (the guide's Derived/Test/ToyasCard.lean, 'card_holds'). Laid BY PROGRAM, IN A SANDBOX (cutbox-door.mjs). By AI agents, Wed Nov 11 2026. No macro, syntax, notation, axiom, sorry.
-/
import Derived.Test.YtbjoemlcakfkmaaDoorRows
import GoSem.ClaimSeven
namespace Go.Proofs.YtbjoemlcakfkmaaDoor
namespace Rows

/-- THE TIED CARD OF 'mastheadlaw25.ScanEnds'. -/
def scanEndsCard : Claim7 := { stood := { row := scanEndsRow, standIns := [], harness := (true, "15bca437e3be5659792ae6c172613e3c6a66ab8f605cda0ee3aff34261dd4878"), looks := false }, kinds := [], alts := [], laidByText := true, laidKinds := [.data], laidTests := true, laidLooks := .later }
def ScanEndsCardSaid : Prop := Claim7.holds Tryd.pinned (.plain (OpenSpec.ofChange scanEndsSpec)) scanEndsCard

/-- THE TIED CARD OF 'mastheadlaw25.ScanStays'. -/
def scanStaysCard : Claim7 := { stood := { row := scanStaysRow, standIns := [], harness := (true, "15bca437e3be5659792ae6c172613e3c6a66ab8f605cda0ee3aff34261dd4878"), looks := false }, kinds := [], alts := [], laidByText := true, laidKinds := [.data], laidTests := true, laidLooks := .later }
def ScanStaysCardSaid : Prop := Claim7.holds Tryd.pinned (.plain (OpenSpec.ofChange scanStaysSpec)) scanStaysCard

/-- THE TIED CARD OF 'mastheadlaw25.ScanPlays'. -/
def scanPlaysCard : Claim7 := { stood := { row := scanPlaysRow, standIns := [], harness := (true, "15bca437e3be5659792ae6c172613e3c6a66ab8f605cda0ee3aff34261dd4878"), looks := false }, kinds := [], alts := [], laidByText := true, laidKinds := [.data], laidTests := true, laidLooks := .later }
def ScanPlaysCardSaid : Prop := Claim7.holds Tryd.pinned (.plain (OpenSpec.ofChange scanPlaysSpec)) scanPlaysCard

/-- THE SECOND FORM's CARD OF 'mastheadlaw25.ScanEnds'. -/
def scanEndsUptoCard : Claim7 := { stood := { row := scanEndsUptoRow, standIns := [], harness := (true, "15bca437e3be5659792ae6c172613e3c6a66ab8f605cda0ee3aff34261dd4878"), looks := false }, kinds := [], alts := [], laidByText := true, laidKinds := [.data], laidTests := true, laidLooks := .later }
def ScanEndsUptoCardSaid : Prop := Claim7.holds Tryd.pinned (.plain (OpenSpec.upto scanEndsSpec)) scanEndsUptoCard

/-- THE SECOND FORM's CARD OF 'mastheadlaw25.ScanStays'. -/
def scanStaysUptoCard : Claim7 := { stood := { row := scanStaysUptoRow, standIns := [], harness := (true, "15bca437e3be5659792ae6c172613e3c6a66ab8f605cda0ee3aff34261dd4878"), looks := false }, kinds := [], alts := [], laidByText := true, laidKinds := [.data], laidTests := true, laidLooks := .later }
def ScanStaysUptoCardSaid : Prop := Claim7.holds Tryd.pinned (.plain (OpenSpec.upto scanStaysSpec)) scanStaysUptoCard

/-- THE SECOND FORM's CARD OF 'mastheadlaw25.ScanPlays'. -/
def scanPlaysUptoCard : Claim7 := { stood := { row := scanPlaysUptoRow, standIns := [], harness := (true, "15bca437e3be5659792ae6c172613e3c6a66ab8f605cda0ee3aff34261dd4878"), looks := false }, kinds := [], alts := [], laidByText := true, laidKinds := [.data], laidTests := true, laidLooks := .later }
def ScanPlaysUptoCardSaid : Prop := Claim7.holds Tryd.pinned (.plain (OpenSpec.upto scanPlaysSpec)) scanPlaysUptoCard
end Rows
end Go.Proofs.YtbjoemlcakfkmaaDoor
