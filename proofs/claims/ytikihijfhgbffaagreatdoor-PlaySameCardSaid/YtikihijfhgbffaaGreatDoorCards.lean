/-
  DERIVED. GIVEN WITH THE SEED: THE CARDS: each row of YtikihijfhgbffaaGreatDoorRows.lean that lists a variable, with what it lists TIED to the program's text (the seventh form; the later family's looks); each row that meets fmt, with fmt's text TOLD by the authors' own Lean function (tested against real Go, not proved from fmt's source: count such statements apart). THE CARD IS WHAT COUNTS. Prove the row's statement (the work); the ties are given (YtikihijfhgbffaaGreatDoorTie.lean); close each card by the builder's one call (the guide's Derived/Test/ToyasCard.lean, 'card_holds'). Laid BY PROGRAM, IN A SANDBOX (cutbox-door.mjs). By AI agents, Wed Nov 11 2026. No macro, syntax, notation, axiom, sorry.
-/
import Derived.Test.YtikihijfhgbffaaGreatDoorRows
import GoSem.ClaimSeven
namespace Go.Proofs.YtikihijfhgbffaaGreatDoor
namespace Rows

/-- THE TIED CARD OF 'stratagemlaw20.PlayTells'. -/
def playTellsCard : Claim7 := { stood := { row := playTellsRow, standIns := [], harness := (true, "7de6c705e630c0d8c8a3022b2ebcdfcebc730148935ada722f7cfc38aaabfbe6"), looks := false }, kinds := [], alts := [], laidByText := true, laidKinds := [.data, .pinned], laidTests := true, laidLooks := .later }
def PlayTellsCardSaid : Prop := Claim7.holds Tryz.pinned (.plain (OpenSpec.ofChange playTellsSpec)) playTellsCard

/-- THE TIED CARD OF 'stratagemlaw20.PlayShows'. -/
def playShowsCard : Claim7 := { stood := { row := playShowsRow, standIns := [], harness := (true, "7de6c705e630c0d8c8a3022b2ebcdfcebc730148935ada722f7cfc38aaabfbe6"), looks := false }, kinds := [], alts := [], laidByText := true, laidKinds := [.data, .pinned], laidTests := true, laidLooks := .later }
def PlayShowsCardSaid : Prop := Claim7.holds Tryz.pinned (.plain (OpenSpec.ofChange playShowsSpec)) playShowsCard

/-- THE TIED CARD OF 'stratagemlaw20.PlayTurned'. -/
def playTurnedCard : Claim7 := { stood := { row := playTurnedRow, standIns := [], harness := (true, "7de6c705e630c0d8c8a3022b2ebcdfcebc730148935ada722f7cfc38aaabfbe6"), looks := false }, kinds := [], alts := [], laidByText := true, laidKinds := [.data, .pinned], laidTests := true, laidLooks := .later }
def PlayTurnedCardSaid : Prop := Claim7.holds Tryz.pinned (.plain (OpenSpec.ofChange playTurnedSpec)) playTurnedCard

/-- THE TIED CARD OF 'stratagemlaw20.PlaySame'. -/
def playSameCard : Claim7 := { stood := { row := playSameRow, standIns := [], harness := (true, "7de6c705e630c0d8c8a3022b2ebcdfcebc730148935ada722f7cfc38aaabfbe6"), looks := false }, kinds := [], alts := [], laidByText := true, laidKinds := [.data, .data, .data, .data, .pinned], laidTests := true, laidLooks := .later }
def PlaySameCardSaid : Prop := Claim7.holds Tryz.pinned (.plain (OpenSpec.ofChange playSameSpec)) playSameCard

/-- THE SECOND FORM's CARD OF 'stratagemlaw20.PlayTells'. -/
def playTellsUptoCard : Claim7 := { stood := { row := playTellsUptoRow, standIns := [], harness := (true, "7de6c705e630c0d8c8a3022b2ebcdfcebc730148935ada722f7cfc38aaabfbe6"), looks := false }, kinds := [], alts := [], laidByText := true, laidKinds := [.data, .pinned], laidTests := true, laidLooks := .later }
def PlayTellsUptoCardSaid : Prop := Claim7.holds Tryz.pinned (.plain (OpenSpec.upto playTellsSpec)) playTellsUptoCard

/-- THE SECOND FORM's CARD OF 'stratagemlaw20.PlayShows'. -/
def playShowsUptoCard : Claim7 := { stood := { row := playShowsUptoRow, standIns := [], harness := (true, "7de6c705e630c0d8c8a3022b2ebcdfcebc730148935ada722f7cfc38aaabfbe6"), looks := false }, kinds := [], alts := [], laidByText := true, laidKinds := [.data, .pinned], laidTests := true, laidLooks := .later }
def PlayShowsUptoCardSaid : Prop := Claim7.holds Tryz.pinned (.plain (OpenSpec.upto playShowsSpec)) playShowsUptoCard

/-- THE SECOND FORM's CARD OF 'stratagemlaw20.PlayTurned'. -/
def playTurnedUptoCard : Claim7 := { stood := { row := playTurnedUptoRow, standIns := [], harness := (true, "7de6c705e630c0d8c8a3022b2ebcdfcebc730148935ada722f7cfc38aaabfbe6"), looks := false }, kinds := [], alts := [], laidByText := true, laidKinds := [.data, .pinned], laidTests := true, laidLooks := .later }
def PlayTurnedUptoCardSaid : Prop := Claim7.holds Tryz.pinned (.plain (OpenSpec.upto playTurnedSpec)) playTurnedUptoCard

/-- THE SECOND FORM's CARD OF 'stratagemlaw20.PlaySame'. -/
def playSameUptoCard : Claim7 := { stood := { row := playSameUptoRow, standIns := [], harness := (true, "7de6c705e630c0d8c8a3022b2ebcdfcebc730148935ada722f7cfc38aaabfbe6"), looks := false }, kinds := [], alts := [], laidByText := true, laidKinds := [.data, .data, .data, .data, .pinned], laidTests := true, laidLooks := .later }
def PlaySameUptoCardSaid : Prop := Claim7.holds Tryz.pinned (.plain (OpenSpec.upto playSameSpec)) playSameUptoCard
end Rows
end Go.Proofs.YtikihijfhgbffaaGreatDoor
