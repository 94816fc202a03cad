/-
  DERIVED. GIVEN WITH THE SEED: THE CARDS: each row of YtlligemlmccfnaaGreatDoorRows.lean that lists a variable, with what it lists TIED to the program's text (the seventh form; the later family's looks); each row that meets fmt, with fmt's text TOLD by the authors' own Lean function (tested against real Go, not proved from fmt's source: count such statements apart). THE CARD IS WHAT COUNTS. Prove the row's statement (the work); the ties are given (YtlligemlmccfnaaGreatDoorTie.lean); close each card by the builder's one call (the guide's Derived/Test/ToyasCard.lean, 'card_holds'). Laid BY PROGRAM, IN A SANDBOX (cutbox-door.mjs). By AI agents, Wed Nov 11 2026. No macro, syntax, notation, axiom, sorry.
-/
import Derived.Test.YtlligemlmccfnaaGreatDoorRows
import GoSem.ClaimSeven
namespace Go.Proofs.YtlligemlmccfnaaGreatDoor
namespace Rows

/-- THE TIED CARD OF 'stratagemlaw17.FixOne'. -/
def fixOneCard : Claim7 := { stood := { row := fixOneRow, standIns := [], harness := (true, "6e53db6d4e91136354b8641776bb0ca5ce1b64635aa11adef5a116881f7d7234"), looks := false }, kinds := [], alts := [], laidByText := true, laidKinds := [.data], laidTests := true, laidLooks := .later }
def FixOneCardSaid : Prop := Claim7.holds Tryz.pinned (.plain (OpenSpec.ofChange fixOneSpec)) fixOneCard

/-- THE TIED CARD OF 'stratagemlaw17.FixSound'. -/
def fixSoundCard : Claim7 := { stood := { row := fixSoundRow, standIns := [], harness := (true, "6e53db6d4e91136354b8641776bb0ca5ce1b64635aa11adef5a116881f7d7234"), looks := false }, kinds := [], alts := [], laidByText := true, laidKinds := [.data], laidTests := true, laidLooks := .later }
def FixSoundCardSaid : Prop := Claim7.holds Tryz.pinned (.plain (OpenSpec.ofChange fixSoundSpec)) fixSoundCard

/-- THE SECOND FORM's CARD OF 'stratagemlaw17.FixOne'. -/
def fixOneUptoCard : Claim7 := { stood := { row := fixOneUptoRow, standIns := [], harness := (true, "6e53db6d4e91136354b8641776bb0ca5ce1b64635aa11adef5a116881f7d7234"), looks := false }, kinds := [], alts := [], laidByText := true, laidKinds := [.data], laidTests := true, laidLooks := .later }
def FixOneUptoCardSaid : Prop := Claim7.holds Tryz.pinned (.plain (OpenSpec.upto fixOneSpec)) fixOneUptoCard

/-- THE SECOND FORM's CARD OF 'stratagemlaw17.FixSound'. -/
def fixSoundUptoCard : Claim7 := { stood := { row := fixSoundUptoRow, standIns := [], harness := (true, "6e53db6d4e91136354b8641776bb0ca5ce1b64635aa11adef5a116881f7d7234"), looks := false }, kinds := [], alts := [], laidByText := true, laidKinds := [.data], laidTests := true, laidLooks := .later }
def FixSoundUptoCardSaid : Prop := Claim7.holds Tryz.pinned (.plain (OpenSpec.upto fixSoundSpec)) fixSoundUptoCard
end Rows
end Go.Proofs.YtlligemlmccfnaaGreatDoor
