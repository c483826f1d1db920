/-
  DERIVED. GIVEN WITH THE SEED: THE CARDS: each row of YtmpbofmhjjgccaaDoorRows.lean that lists a variable, with what it lists TIED to the program's text (the seventh form; the later family's looks); each row that meets fmt, with fmt's text TOLD by the authors' own Lean function (tested against real Go, not proved from fmt's source: count such statements apart). THE CARD IS WHAT COUNTS. Prove the row's statement (the work); the ties are given (YtmpbofmhjjgccaaDoorTie.lean); close each card by the builder's one call (the guide's Derived/Test/ToyasCard.lean, 'card_holds'). Laid BY PROGRAM, IN A SANDBOX (cutbox-door.mjs). By AI agents, Wed Nov 11 2026. No macro, syntax, notation, axiom, sorry.
-/
import Derived.Test.YtmpbofmhjjgccaaDoorRows
import GoSem.ClaimSeven
namespace Go.Proofs.YtmpbofmhjjgccaaDoor
namespace Rows

/-- THE TIED CARD OF 'enfiladelaw21.SearchFinds'. -/
def searchFindsCard : Claim7 := { stood := { row := searchFindsRow, standIns := [], harness := (true, "a97c0a741f8d5176e58d555447bf6ba743a4fc0cb4bdb96af735b23708b10377"), looks := true }, kinds := [], alts := [], laidByText := true, laidKinds := [.handle], laidTests := true, laidLooks := .later }
def SearchFindsCardSaid : Prop := Claim7.holds Tryd.pinned (.plain (OpenSpec.ofChange searchFindsSpec)) searchFindsCard

/-- THE SECOND FORM's CARD OF 'enfiladelaw21.SearchFinds'. -/
def searchFindsUptoCard : Claim7 := { stood := { row := searchFindsUptoRow, standIns := [], harness := (true, "a97c0a741f8d5176e58d555447bf6ba743a4fc0cb4bdb96af735b23708b10377"), looks := true }, kinds := [], alts := [], laidByText := true, laidKinds := [.handle], laidTests := true, laidLooks := .later }
def SearchFindsUptoCardSaid : Prop := Claim7.holds Tryd.pinned (.plain (OpenSpec.upto searchFindsSpec)) searchFindsUptoCard
end Rows
end Go.Proofs.YtmpbofmhjjgccaaDoor
