/-
  DERIVED. GIVEN WITH THE SEED: THE CARDS: each row of YtcmingndbhldgaaDoorRows.lean that lists a variable, with what it lists TIED to the program's text (the seventh form; the later family's looks); each row that meets fmt, with fmt's text TOLD by the authors' own Lean function (tested against real Go, not proved from fmt's source: count such statements apart). THE CARD IS WHAT COUNTS. Prove the row's statement (the work); the ties are given (YtcmingndbhldgaaDoorTie.lean); close each card by the builder's one call (the guide's Derived/Test/ToyasCard.lean, 'card_holds'). Laid BY PROGRAM, IN A SANDBOX (cutbox-door.mjs). By AI agents, Wed Nov 11 2026. No macro, syntax, notation, axiom, sorry.
-/
import Derived.Test.YtcmingndbhldgaaDoorRows
import GoSem.ClaimSeven
namespace Go.Proofs.YtcmingndbhldgaaDoor
namespace Rows

/-- THE TIED CARD OF 'enfiladelaw20.WalkGoes'. -/
def walkGoesCard : Claim7 := { stood := { row := walkGoesRow, standIns := [], harness := (true, "c649e6b0512ea1e7db541d46b484f24d836896c11fe14d142ff759572cad38dc"), looks := true }, kinds := [], alts := [], laidByText := true, laidKinds := [.handle], laidTests := true, laidLooks := .later }
def WalkGoesCardSaid : Prop := Claim7.holds Tryd.pinned (.plain (OpenSpec.ofChange walkGoesSpec)) walkGoesCard

/-- THE SECOND FORM's CARD OF 'enfiladelaw20.WalkGoes'. -/
def walkGoesUptoCard : Claim7 := { stood := { row := walkGoesUptoRow, standIns := [], harness := (true, "c649e6b0512ea1e7db541d46b484f24d836896c11fe14d142ff759572cad38dc"), looks := true }, kinds := [], alts := [], laidByText := true, laidKinds := [.handle], laidTests := true, laidLooks := .later }
def WalkGoesUptoCardSaid : Prop := Claim7.holds Tryd.pinned (.plain (OpenSpec.upto walkGoesSpec)) walkGoesUptoCard
end Rows
end Go.Proofs.YtcmingndbhldgaaDoor
