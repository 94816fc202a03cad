/-
  DERIVED. GIVEN WITH THE SEED: THE CARDS: each row of YtbcgpomifflijaaDoorRows.lean that lists a variable, with what it lists TIED to the program's text (the seventh form; the later family's looks); each row that meets fmt, with fmt's text TOLD by the authors' own Lean function (tested against real Go, not proved from fmt's source: count such statements apart). THE CARD IS WHAT COUNTS. Prove the row's statement (the work); the ties are given (YtbcgpomifflijaaDoorTie.lean); close each card by the builder's one call (the guide's Derived/Test/ToyasCard.lean, 'card_holds'). Laid BY PROGRAM, IN A SANDBOX (cutbox-door.mjs). By AI agents, Wed Nov 11 2026. No macro, syntax, notation, axiom, sorry.
-/
import Derived.Test.YtbcgpomifflijaaDoorRows
import GoSem.ClaimSeven
namespace Go.Proofs.YtbcgpomifflijaaDoor
namespace Rows

/-- THE TIED CARD OF 'stratagemlaw08.ModelTells'. -/
def modelTellsCard : Claim7 := { stood := { row := modelTellsRow, standIns := [], harness := (true, "5431dc08922b21b69beffa5d04cf25d66af2bcd696a8a09ce3703691a1846381"), looks := false }, kinds := [], alts := [], laidByText := true, laidKinds := [.data, .pinned], laidTests := true, laidLooks := .later }
def ModelTellsCardSaid : Prop := Claim7.holds Tryd.pinned (.plain (OpenSpec.ofChange modelTellsSpec)) modelTellsCard

/-- THE TIED CARD OF 'stratagemlaw08.ModelLess'. -/
def modelLessCard : Claim7 := { stood := { row := modelLessRow, standIns := [], harness := (true, "5431dc08922b21b69beffa5d04cf25d66af2bcd696a8a09ce3703691a1846381"), looks := false }, kinds := [], alts := [], laidByText := true, laidKinds := [.data, .pinned], laidTests := true, laidLooks := .later }
def ModelLessCardSaid : Prop := Claim7.holds Tryd.pinned (.plain (OpenSpec.ofChange modelLessSpec)) modelLessCard

/-- THE TIED CARD OF 'stratagemlaw08.ModelNodes'. -/
def modelNodesCard : Claim7 := { stood := { row := modelNodesRow, standIns := [], harness := (true, "5431dc08922b21b69beffa5d04cf25d66af2bcd696a8a09ce3703691a1846381"), looks := false }, kinds := [], alts := [], laidByText := true, laidKinds := [.data, .pinned], laidTests := true, laidLooks := .later }
def ModelNodesCardSaid : Prop := Claim7.holds Tryd.pinned (.plain (OpenSpec.ofChange modelNodesSpec)) modelNodesCard

/-- THE TIED CARD OF 'stratagemlaw04.DomTells'. -/
def domTellsCard : Claim7 := { stood := { row := domTellsRow, standIns := [], harness := (true, "5431dc08922b21b69beffa5d04cf25d66af2bcd696a8a09ce3703691a1846381"), looks := false }, kinds := [], alts := [], laidByText := true, laidKinds := [.data], laidTests := true, laidLooks := .later }
def DomTellsCardSaid : Prop := Claim7.holds Tryd.pinned (.plain (OpenSpec.ofChange domTellsSpec)) domTellsCard

/-- THE TIED CARD OF 'stratagemlaw04.DomFalls'. -/
def domFallsCard : Claim7 := { stood := { row := domFallsRow, standIns := [], harness := (true, "5431dc08922b21b69beffa5d04cf25d66af2bcd696a8a09ce3703691a1846381"), looks := false }, kinds := [], alts := [], laidByText := true, laidKinds := [.data], laidTests := true, laidLooks := .later }
def DomFallsCardSaid : Prop := Claim7.holds Tryd.pinned (.plain (OpenSpec.ofChange domFallsSpec)) domFallsCard

/-- THE TIED CARD OF 'stratagemlaw04.DomOwn'. -/
def domOwnCard : Claim7 := { stood := { row := domOwnRow, standIns := [], harness := (true, "5431dc08922b21b69beffa5d04cf25d66af2bcd696a8a09ce3703691a1846381"), looks := false }, kinds := [], alts := [], laidByText := true, laidKinds := [.data], laidTests := true, laidLooks := .later }
def DomOwnCardSaid : Prop := Claim7.holds Tryd.pinned (.plain (OpenSpec.ofChange domOwnSpec)) domOwnCard

/-- THE SECOND FORM's CARD OF 'stratagemlaw08.ModelTells'. -/
def modelTellsUptoCard : Claim7 := { stood := { row := modelTellsUptoRow, standIns := [], harness := (true, "5431dc08922b21b69beffa5d04cf25d66af2bcd696a8a09ce3703691a1846381"), looks := false }, kinds := [], alts := [], laidByText := true, laidKinds := [.data, .pinned], laidTests := true, laidLooks := .later }
def ModelTellsUptoCardSaid : Prop := Claim7.holds Tryd.pinned (.plain (OpenSpec.upto modelTellsSpec)) modelTellsUptoCard

/-- THE SECOND FORM's CARD OF 'stratagemlaw08.ModelLess'. -/
def modelLessUptoCard : Claim7 := { stood := { row := modelLessUptoRow, standIns := [], harness := (true, "5431dc08922b21b69beffa5d04cf25d66af2bcd696a8a09ce3703691a1846381"), looks := false }, kinds := [], alts := [], laidByText := true, laidKinds := [.data, .pinned], laidTests := true, laidLooks := .later }
def ModelLessUptoCardSaid : Prop := Claim7.holds Tryd.pinned (.plain (OpenSpec.upto modelLessSpec)) modelLessUptoCard

/-- THE SECOND FORM's CARD OF 'stratagemlaw08.ModelNodes'. -/
def modelNodesUptoCard : Claim7 := { stood := { row := modelNodesUptoRow, standIns := [], harness := (true, "5431dc08922b21b69beffa5d04cf25d66af2bcd696a8a09ce3703691a1846381"), looks := false }, kinds := [], alts := [], laidByText := true, laidKinds := [.data, .pinned], laidTests := true, laidLooks := .later }
def ModelNodesUptoCardSaid : Prop := Claim7.holds Tryd.pinned (.plain (OpenSpec.upto modelNodesSpec)) modelNodesUptoCard

/-- THE SECOND FORM's CARD OF 'stratagemlaw04.DomTells'. -/
def domTellsUptoCard : Claim7 := { stood := { row := domTellsUptoRow, standIns := [], harness := (true, "5431dc08922b21b69beffa5d04cf25d66af2bcd696a8a09ce3703691a1846381"), looks := false }, kinds := [], alts := [], laidByText := true, laidKinds := [.data], laidTests := true, laidLooks := .later }
def DomTellsUptoCardSaid : Prop := Claim7.holds Tryd.pinned (.plain (OpenSpec.upto domTellsSpec)) domTellsUptoCard

/-- THE SECOND FORM's CARD OF 'stratagemlaw04.DomFalls'. -/
def domFallsUptoCard : Claim7 := { stood := { row := domFallsUptoRow, standIns := [], harness := (true, "5431dc08922b21b69beffa5d04cf25d66af2bcd696a8a09ce3703691a1846381"), looks := false }, kinds := [], alts := [], laidByText := true, laidKinds := [.data], laidTests := true, laidLooks := .later }
def DomFallsUptoCardSaid : Prop := Claim7.holds Tryd.pinned (.plain (OpenSpec.upto domFallsSpec)) domFallsUptoCard

/-- THE SECOND FORM's CARD OF 'stratagemlaw04.DomOwn'. -/
def domOwnUptoCard : Claim7 := { stood := { row := domOwnUptoRow, standIns := [], harness := (true, "5431dc08922b21b69beffa5d04cf25d66af2bcd696a8a09ce3703691a1846381"), looks := false }, kinds := [], alts := [], laidByText := true, laidKinds := [.data], laidTests := true, laidLooks := .later }
def DomOwnUptoCardSaid : Prop := Claim7.holds Tryd.pinned (.plain (OpenSpec.upto domOwnSpec)) domOwnUptoCard
end Rows
end Go.Proofs.YtbcgpomifflijaaDoor
