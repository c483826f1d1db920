/-
  DERIVED. GIVEN WITH THE SEED: THE CARDS: each row of YtmjendeigjdihaaDoorRows.lean that lists a variable, with what it lists TIED to the program's text (the seventh form; the later family's looks); each row that meets fmt, with fmt's text TOLD by the authors' own Lean function (tested against real Go, not proved from fmt's source: count such statements apart). THE CARD IS WHAT COUNTS. Prove the row's statement (the work); the ties are given (YtmjendeigjdihaaDoorTie.lean); close each card by the builder's one call (the guide's Derived/Test/ToyasCard.lean, 'card_holds'). Laid BY PROGRAM, IN A SANDBOX (cutbox-door.mjs). By AI agents, Wed Nov 11 2026. No macro, syntax, notation, axiom, sorry.
-/
import Derived.Test.YtmjendeigjdihaaDoorRows
import GoSem.ClaimSeven
namespace Go.Proofs.YtmjendeigjdihaaDoor
namespace Rows

/-- THE TIED CARD OF 'enfiladelaw01.ValueChecks'. -/
def valueChecksCard : Claim7 := { stood := { row := valueChecksRow, standIns := [], harness := (true, "9e4098b96d0f0c523dc3358505608164c8f296ffab030bb71258a4cad1a6a14c"), looks := true }, kinds := [], alts := [], laidByText := true, laidKinds := [.data, .data, .data, .data, .handle, .pinned], laidTests := true, laidLooks := .later }
def ValueChecksCardSaid : Prop := Claim7.holds Tryd.pinned (.plain (OpenSpec.ofChange valueChecksSpec)) valueChecksCard

/-- THE TIED CARD OF 'enfiladelaw01.ValueMembers'. -/
def valueMembersCard : Claim7 := { stood := { row := valueMembersRow, standIns := [], harness := (true, "9e4098b96d0f0c523dc3358505608164c8f296ffab030bb71258a4cad1a6a14c"), looks := true }, kinds := [], alts := [], laidByText := true, laidKinds := [.data, .data, .data, .data, .handle, .pinned], laidTests := true, laidLooks := .later }
def ValueMembersCardSaid : Prop := Claim7.holds Tryd.pinned (.plain (OpenSpec.ofChange valueMembersSpec)) valueMembersCard

/-- THE TIED CARD OF 'enfiladelaw01.ValueParts'. -/
def valuePartsCard : Claim7 := { stood := { row := valuePartsRow, standIns := [], harness := (true, "9e4098b96d0f0c523dc3358505608164c8f296ffab030bb71258a4cad1a6a14c"), looks := true }, kinds := [], alts := [], laidByText := true, laidKinds := [.data, .data, .data, .data, .handle, .pinned], laidTests := true, laidLooks := .later }
def ValuePartsCardSaid : Prop := Claim7.holds Tryd.pinned (.plain (OpenSpec.ofChange valuePartsSpec)) valuePartsCard

/-- THE TIED CARD OF 'enfiladelaw01.ValueTexts'. -/
def valueTextsCard : Claim7 := { stood := { row := valueTextsRow, standIns := [], harness := (true, "9e4098b96d0f0c523dc3358505608164c8f296ffab030bb71258a4cad1a6a14c"), looks := true }, kinds := [], alts := [], laidByText := true, laidKinds := [.data, .data, .data, .data, .handle, .pinned], laidTests := true, laidLooks := .later }
def ValueTextsCardSaid : Prop := Claim7.holds Tryd.pinned (.plain (OpenSpec.ofChange valueTextsSpec)) valueTextsCard

/-- THE TIED CARD OF 'enfiladelaw01.ValueSames'. -/
def valueSamesCard : Claim7 := { stood := { row := valueSamesRow, standIns := [], harness := (true, "9e4098b96d0f0c523dc3358505608164c8f296ffab030bb71258a4cad1a6a14c"), looks := true }, kinds := [], alts := [], laidByText := true, laidKinds := [.data, .data, .data, .data, .handle, .pinned], laidTests := true, laidLooks := .later }
def ValueSamesCardSaid : Prop := Claim7.holds Tryd.pinned (.plain (OpenSpec.ofChange valueSamesSpec)) valueSamesCard

/-- THE TIED CARD OF 'enfiladelaw01.ValueAsks'. -/
def valueAsksCard : Claim7 := { stood := { row := valueAsksRow, standIns := [], harness := (true, "9e4098b96d0f0c523dc3358505608164c8f296ffab030bb71258a4cad1a6a14c"), looks := true }, kinds := [], alts := [], laidByText := true, laidKinds := [.data, .data, .data, .data, .handle, .pinned], laidTests := true, laidLooks := .later }
def ValueAsksCardSaid : Prop := Claim7.holds Tryd.pinned (.plain (OpenSpec.ofChange valueAsksSpec)) valueAsksCard

/-- THE TIED CARD OF 'enfiladelaw01.ValueGets'. -/
def valueGetsCard : Claim7 := { stood := { row := valueGetsRow, standIns := [], harness := (true, "9e4098b96d0f0c523dc3358505608164c8f296ffab030bb71258a4cad1a6a14c"), looks := true }, kinds := [], alts := [], laidByText := true, laidKinds := [.data, .data, .data, .data, .handle, .pinned], laidTests := true, laidLooks := .later }
def ValueGetsCardSaid : Prop := Claim7.holds Tryd.pinned (.plain (OpenSpec.ofChange valueGetsSpec)) valueGetsCard

/-- THE SECOND FORM's CARD OF 'enfiladelaw01.ValueChecks'. -/
def valueChecksUptoCard : Claim7 := { stood := { row := valueChecksUptoRow, standIns := [], harness := (true, "9e4098b96d0f0c523dc3358505608164c8f296ffab030bb71258a4cad1a6a14c"), looks := true }, kinds := [], alts := [], laidByText := true, laidKinds := [.data, .data, .data, .data, .handle, .pinned], laidTests := true, laidLooks := .later }
def ValueChecksUptoCardSaid : Prop := Claim7.holds Tryd.pinned (.plain (OpenSpec.upto valueChecksSpec)) valueChecksUptoCard

/-- THE SECOND FORM's CARD OF 'enfiladelaw01.ValueMembers'. -/
def valueMembersUptoCard : Claim7 := { stood := { row := valueMembersUptoRow, standIns := [], harness := (true, "9e4098b96d0f0c523dc3358505608164c8f296ffab030bb71258a4cad1a6a14c"), looks := true }, kinds := [], alts := [], laidByText := true, laidKinds := [.data, .data, .data, .data, .handle, .pinned], laidTests := true, laidLooks := .later }
def ValueMembersUptoCardSaid : Prop := Claim7.holds Tryd.pinned (.plain (OpenSpec.upto valueMembersSpec)) valueMembersUptoCard

/-- THE SECOND FORM's CARD OF 'enfiladelaw01.ValueParts'. -/
def valuePartsUptoCard : Claim7 := { stood := { row := valuePartsUptoRow, standIns := [], harness := (true, "9e4098b96d0f0c523dc3358505608164c8f296ffab030bb71258a4cad1a6a14c"), looks := true }, kinds := [], alts := [], laidByText := true, laidKinds := [.data, .data, .data, .data, .handle, .pinned], laidTests := true, laidLooks := .later }
def ValuePartsUptoCardSaid : Prop := Claim7.holds Tryd.pinned (.plain (OpenSpec.upto valuePartsSpec)) valuePartsUptoCard

/-- THE SECOND FORM's CARD OF 'enfiladelaw01.ValueTexts'. -/
def valueTextsUptoCard : Claim7 := { stood := { row := valueTextsUptoRow, standIns := [], harness := (true, "9e4098b96d0f0c523dc3358505608164c8f296ffab030bb71258a4cad1a6a14c"), looks := true }, kinds := [], alts := [], laidByText := true, laidKinds := [.data, .data, .data, .data, .handle, .pinned], laidTests := true, laidLooks := .later }
def ValueTextsUptoCardSaid : Prop := Claim7.holds Tryd.pinned (.plain (OpenSpec.upto valueTextsSpec)) valueTextsUptoCard

/-- THE SECOND FORM's CARD OF 'enfiladelaw01.ValueSames'. -/
def valueSamesUptoCard : Claim7 := { stood := { row := valueSamesUptoRow, standIns := [], harness := (true, "9e4098b96d0f0c523dc3358505608164c8f296ffab030bb71258a4cad1a6a14c"), looks := true }, kinds := [], alts := [], laidByText := true, laidKinds := [.data, .data, .data, .data, .handle, .pinned], laidTests := true, laidLooks := .later }
def ValueSamesUptoCardSaid : Prop := Claim7.holds Tryd.pinned (.plain (OpenSpec.upto valueSamesSpec)) valueSamesUptoCard

/-- THE SECOND FORM's CARD OF 'enfiladelaw01.ValueAsks'. -/
def valueAsksUptoCard : Claim7 := { stood := { row := valueAsksUptoRow, standIns := [], harness := (true, "9e4098b96d0f0c523dc3358505608164c8f296ffab030bb71258a4cad1a6a14c"), looks := true }, kinds := [], alts := [], laidByText := true, laidKinds := [.data, .data, .data, .data, .handle, .pinned], laidTests := true, laidLooks := .later }
def ValueAsksUptoCardSaid : Prop := Claim7.holds Tryd.pinned (.plain (OpenSpec.upto valueAsksSpec)) valueAsksUptoCard

/-- THE SECOND FORM's CARD OF 'enfiladelaw01.ValueGets'. -/
def valueGetsUptoCard : Claim7 := { stood := { row := valueGetsUptoRow, standIns := [], harness := (true, "9e4098b96d0f0c523dc3358505608164c8f296ffab030bb71258a4cad1a6a14c"), looks := true }, kinds := [], alts := [], laidByText := true, laidKinds := [.data, .data, .data, .data, .handle, .pinned], laidTests := true, laidLooks := .later }
def ValueGetsUptoCardSaid : Prop := Claim7.holds Tryd.pinned (.plain (OpenSpec.upto valueGetsSpec)) valueGetsUptoCard
end Rows
end Go.Proofs.YtmjendeigjdihaaDoor
