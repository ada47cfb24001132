/-
  DERIVED. GIVEN WITH THE SEED: THE CARDS: each row of YtpblkfccnaapbaaDoorRows.lean that lists a variable, with what it lists TIED to the program's text (the seventh form; the later family's looks); each row that meets fmt, with fmt's text TOLD by the authors' own Lean function (tested against real Go, not proved from fmt's source: count such statements apart). THE CARD IS WHAT COUNTS. Prove the row's statement (the work); the ties are given (YtpblkfccnaapbaaDoorTie.lean); close each card by the builder's one call (the guide's Derived/Test/ToyasCard.lean, 'card_holds'). Laid BY PROGRAM, IN A SANDBOX (cutbox-door.mjs). By AI agents, Wed Nov 11 2026. No macro, syntax, notation, axiom, sorry.
-/
import Derived.Test.YtpblkfccnaapbaaDoorRows
import GoSem.ClaimSeven
namespace Go.Proofs.YtpblkfccnaapbaaDoor
namespace Rows

/-- THE TIED CARD OF 'mastheadlaw04.WideDivs'. -/
def wideDivsCard : Claim7 := { stood := { row := wideDivsRow, standIns := [], harness := (true, "00edf150a671b0d62fed46f7e30433b7a1d6cd816eca4de23ce25c87cada931a"), looks := false }, kinds := [], alts := [], laidByText := true, laidKinds := [.data, .data, .data], laidTests := true, laidLooks := .later }
def WideDivsCardSaid : Prop := Claim7.holds Tryd.pinned (.plain (OpenSpec.ofChange wideDivsSpec)) wideDivsCard

/-- THE TIED CARD OF 'mastheadlaw04.WideTexts'. -/
def wideTextsCard : Claim7 := { stood := { row := wideTextsRow, standIns := [], harness := (true, "00edf150a671b0d62fed46f7e30433b7a1d6cd816eca4de23ce25c87cada931a"), looks := false }, kinds := [], alts := [], laidByText := true, laidKinds := [.data, .data, .data], laidTests := true, laidLooks := .later }
def WideTextsCardSaid : Prop := Claim7.holds Tryd.pinned (.plain (OpenSpec.ofChange wideTextsSpec)) wideTextsCard

/-- THE TIED CARD OF 'mastheadlaw04.WideShifts'. -/
def wideShiftsCard : Claim7 := { stood := { row := wideShiftsRow, standIns := [], harness := (true, "00edf150a671b0d62fed46f7e30433b7a1d6cd816eca4de23ce25c87cada931a"), looks := false }, kinds := [], alts := [], laidByText := true, laidKinds := [.data, .data, .data], laidTests := true, laidLooks := .later }
def WideShiftsCardSaid : Prop := Claim7.holds Tryd.pinned (.plain (OpenSpec.ofChange wideShiftsSpec)) wideShiftsCard

/-- THE TIED CARD OF 'mastheadlaw04.WideQuos'. -/
def wideQuosCard : Claim7 := { stood := { row := wideQuosRow, standIns := [], harness := (true, "00edf150a671b0d62fed46f7e30433b7a1d6cd816eca4de23ce25c87cada931a"), looks := false }, kinds := [], alts := [], laidByText := true, laidKinds := [.data, .data, .data], laidTests := true, laidLooks := .later }
def WideQuosCardSaid : Prop := Claim7.holds Tryd.pinned (.plain (OpenSpec.ofChange wideQuosSpec)) wideQuosCard

/-- THE TIED CARD OF 'mastheadlaw04.WideAdds'. -/
def wideAddsCard : Claim7 := { stood := { row := wideAddsRow, standIns := [], harness := (true, "00edf150a671b0d62fed46f7e30433b7a1d6cd816eca4de23ce25c87cada931a"), looks := false }, kinds := [], alts := [], laidByText := true, laidKinds := [.data, .data, .data], laidTests := true, laidLooks := .later }
def WideAddsCardSaid : Prop := Claim7.holds Tryd.pinned (.plain (OpenSpec.ofChange wideAddsSpec)) wideAddsCard

/-- THE TIED CARD OF 'mastheadlaw04.WideBytes'. -/
def wideBytesCard : Claim7 := { stood := { row := wideBytesRow, standIns := [], harness := (true, "00edf150a671b0d62fed46f7e30433b7a1d6cd816eca4de23ce25c87cada931a"), looks := false }, kinds := [], alts := [], laidByText := true, laidKinds := [.data, .data, .data], laidTests := true, laidLooks := .later }
def WideBytesCardSaid : Prop := Claim7.holds Tryd.pinned (.plain (OpenSpec.ofChange wideBytesSpec)) wideBytesCard

/-- THE TIED CARD OF 'mastheadlaw04.WideMuls'. -/
def wideMulsCard : Claim7 := { stood := { row := wideMulsRow, standIns := [], harness := (true, "00edf150a671b0d62fed46f7e30433b7a1d6cd816eca4de23ce25c87cada931a"), looks := false }, kinds := [], alts := [], laidByText := true, laidKinds := [.data, .data, .data], laidTests := true, laidLooks := .later }
def WideMulsCardSaid : Prop := Claim7.holds Tryd.pinned (.plain (OpenSpec.ofChange wideMulsSpec)) wideMulsCard

/-- THE TIED CARD OF 'mastheadlaw04.WideTells'. -/
def wideTellsCard : Claim7 := { stood := { row := wideTellsRow, standIns := [], harness := (true, "00edf150a671b0d62fed46f7e30433b7a1d6cd816eca4de23ce25c87cada931a"), looks := false }, kinds := [], alts := [], laidByText := true, laidKinds := [.data, .data, .data], laidTests := true, laidLooks := .later }
def WideTellsCardSaid : Prop := Claim7.holds Tryd.pinned (.plain (OpenSpec.ofChange wideTellsSpec)) wideTellsCard

/-- THE TIED CARD OF 'mastheadlaw04.WideLaws'. -/
def wideLawsCard : Claim7 := { stood := { row := wideLawsRow, standIns := [], harness := (true, "00edf150a671b0d62fed46f7e30433b7a1d6cd816eca4de23ce25c87cada931a"), looks := false }, kinds := [], alts := [], laidByText := true, laidKinds := [.data, .data, .data], laidTests := true, laidLooks := .later }
def WideLawsCardSaid : Prop := Claim7.holds Tryd.pinned (.plain (OpenSpec.ofChange wideLawsSpec)) wideLawsCard

/-- THE SECOND FORM's CARD OF 'mastheadlaw04.WideDivs'. -/
def wideDivsUptoCard : Claim7 := { stood := { row := wideDivsUptoRow, standIns := [], harness := (true, "00edf150a671b0d62fed46f7e30433b7a1d6cd816eca4de23ce25c87cada931a"), looks := false }, kinds := [], alts := [], laidByText := true, laidKinds := [.data, .data, .data], laidTests := true, laidLooks := .later }
def WideDivsUptoCardSaid : Prop := Claim7.holds Tryd.pinned (.plain (OpenSpec.upto wideDivsSpec)) wideDivsUptoCard

/-- THE SECOND FORM's CARD OF 'mastheadlaw04.WideTexts'. -/
def wideTextsUptoCard : Claim7 := { stood := { row := wideTextsUptoRow, standIns := [], harness := (true, "00edf150a671b0d62fed46f7e30433b7a1d6cd816eca4de23ce25c87cada931a"), looks := false }, kinds := [], alts := [], laidByText := true, laidKinds := [.data, .data, .data], laidTests := true, laidLooks := .later }
def WideTextsUptoCardSaid : Prop := Claim7.holds Tryd.pinned (.plain (OpenSpec.upto wideTextsSpec)) wideTextsUptoCard

/-- THE SECOND FORM's CARD OF 'mastheadlaw04.WideShifts'. -/
def wideShiftsUptoCard : Claim7 := { stood := { row := wideShiftsUptoRow, standIns := [], harness := (true, "00edf150a671b0d62fed46f7e30433b7a1d6cd816eca4de23ce25c87cada931a"), looks := false }, kinds := [], alts := [], laidByText := true, laidKinds := [.data, .data, .data], laidTests := true, laidLooks := .later }
def WideShiftsUptoCardSaid : Prop := Claim7.holds Tryd.pinned (.plain (OpenSpec.upto wideShiftsSpec)) wideShiftsUptoCard

/-- THE SECOND FORM's CARD OF 'mastheadlaw04.WideQuos'. -/
def wideQuosUptoCard : Claim7 := { stood := { row := wideQuosUptoRow, standIns := [], harness := (true, "00edf150a671b0d62fed46f7e30433b7a1d6cd816eca4de23ce25c87cada931a"), looks := false }, kinds := [], alts := [], laidByText := true, laidKinds := [.data, .data, .data], laidTests := true, laidLooks := .later }
def WideQuosUptoCardSaid : Prop := Claim7.holds Tryd.pinned (.plain (OpenSpec.upto wideQuosSpec)) wideQuosUptoCard

/-- THE SECOND FORM's CARD OF 'mastheadlaw04.WideAdds'. -/
def wideAddsUptoCard : Claim7 := { stood := { row := wideAddsUptoRow, standIns := [], harness := (true, "00edf150a671b0d62fed46f7e30433b7a1d6cd816eca4de23ce25c87cada931a"), looks := false }, kinds := [], alts := [], laidByText := true, laidKinds := [.data, .data, .data], laidTests := true, laidLooks := .later }
def WideAddsUptoCardSaid : Prop := Claim7.holds Tryd.pinned (.plain (OpenSpec.upto wideAddsSpec)) wideAddsUptoCard

/-- THE SECOND FORM's CARD OF 'mastheadlaw04.WideBytes'. -/
def wideBytesUptoCard : Claim7 := { stood := { row := wideBytesUptoRow, standIns := [], harness := (true, "00edf150a671b0d62fed46f7e30433b7a1d6cd816eca4de23ce25c87cada931a"), looks := false }, kinds := [], alts := [], laidByText := true, laidKinds := [.data, .data, .data], laidTests := true, laidLooks := .later }
def WideBytesUptoCardSaid : Prop := Claim7.holds Tryd.pinned (.plain (OpenSpec.upto wideBytesSpec)) wideBytesUptoCard

/-- THE SECOND FORM's CARD OF 'mastheadlaw04.WideMuls'. -/
def wideMulsUptoCard : Claim7 := { stood := { row := wideMulsUptoRow, standIns := [], harness := (true, "00edf150a671b0d62fed46f7e30433b7a1d6cd816eca4de23ce25c87cada931a"), looks := false }, kinds := [], alts := [], laidByText := true, laidKinds := [.data, .data, .data], laidTests := true, laidLooks := .later }
def WideMulsUptoCardSaid : Prop := Claim7.holds Tryd.pinned (.plain (OpenSpec.upto wideMulsSpec)) wideMulsUptoCard

/-- THE SECOND FORM's CARD OF 'mastheadlaw04.WideTells'. -/
def wideTellsUptoCard : Claim7 := { stood := { row := wideTellsUptoRow, standIns := [], harness := (true, "00edf150a671b0d62fed46f7e30433b7a1d6cd816eca4de23ce25c87cada931a"), looks := false }, kinds := [], alts := [], laidByText := true, laidKinds := [.data, .data, .data], laidTests := true, laidLooks := .later }
def WideTellsUptoCardSaid : Prop := Claim7.holds Tryd.pinned (.plain (OpenSpec.upto wideTellsSpec)) wideTellsUptoCard

/-- THE SECOND FORM's CARD OF 'mastheadlaw04.WideLaws'. -/
def wideLawsUptoCard : Claim7 := { stood := { row := wideLawsUptoRow, standIns := [], harness := (true, "00edf150a671b0d62fed46f7e30433b7a1d6cd816eca4de23ce25c87cada931a"), looks := false }, kinds := [], alts := [], laidByText := true, laidKinds := [.data, .data, .data], laidTests := true, laidLooks := .later }
def WideLawsUptoCardSaid : Prop := Claim7.holds Tryd.pinned (.plain (OpenSpec.upto wideLawsSpec)) wideLawsUptoCard
end Rows
end Go.Proofs.YtpblkfccnaapbaaDoor
