/-
  DERIVED. GIVEN WITH THE SEED: THE CARDS: each row of YtmohbbmokcnbhaaDoorRows.lean that lists a variable, with what it lists TIED to the program's text (the seventh form; the later family's looks); each row that meets fmt, with fmt's text TOLD by the authors' own Lean function (tested against real Go, not proved from fmt's source: count such statements apart). THE CARD IS WHAT COUNTS. Prove the row's statement (the work); the ties are given (YtmohbbmokcnbhaaDoorTie.lean); close each card by the builder's one call (the guide's Derived/Test/ToyasCard.lean, 'card_holds'). Laid BY PROGRAM, IN A SANDBOX (cutbox-door.mjs). By AI agents, Wed Nov 11 2026. No macro, syntax, notation, axiom, sorry.
-/
import Derived.Test.YtmohbbmokcnbhaaDoorRows
import GoSem.ClaimSeven
namespace Go.Proofs.YtmohbbmokcnbhaaDoor
namespace Rows

/-- THE TIED CARD OF 'enfiladelaw04.IdentSplits'. -/
def identSplitsCard : Claim7 := { stood := { row := identSplitsRow, standIns := [], harness := (true, "bc7ff34bdc31e2aca46b1c6d0cd6a956486173d43ecad80a42aa5618f088fb56"), looks := true }, kinds := [], alts := [], laidByText := true, laidKinds := [.handle], laidTests := true, laidLooks := .later }
def IdentSplitsCardSaid : Prop := Claim7.holds Tryd.pinned (.plain (OpenSpec.ofChange identSplitsSpec)) identSplitsCard

/-- THE TIED CARD OF 'enfiladelaw04.IdentIs'. -/
def identIsCard : Claim7 := { stood := { row := identIsRow, standIns := [], harness := (true, "bc7ff34bdc31e2aca46b1c6d0cd6a956486173d43ecad80a42aa5618f088fb56"), looks := true }, kinds := [], alts := [], laidByText := true, laidKinds := [.handle], laidTests := true, laidLooks := .later }
def IdentIsCardSaid : Prop := Claim7.holds Tryd.pinned (.plain (OpenSpec.ofChange identIsSpec)) identIsCard

/-- THE SECOND FORM's CARD OF 'enfiladelaw04.IdentSplits'. -/
def identSplitsUptoCard : Claim7 := { stood := { row := identSplitsUptoRow, standIns := [], harness := (true, "bc7ff34bdc31e2aca46b1c6d0cd6a956486173d43ecad80a42aa5618f088fb56"), looks := true }, kinds := [], alts := [], laidByText := true, laidKinds := [.handle], laidTests := true, laidLooks := .later }
def IdentSplitsUptoCardSaid : Prop := Claim7.holds Tryd.pinned (.plain (OpenSpec.upto identSplitsSpec)) identSplitsUptoCard

/-- THE SECOND FORM's CARD OF 'enfiladelaw04.IdentIs'. -/
def identIsUptoCard : Claim7 := { stood := { row := identIsUptoRow, standIns := [], harness := (true, "bc7ff34bdc31e2aca46b1c6d0cd6a956486173d43ecad80a42aa5618f088fb56"), looks := true }, kinds := [], alts := [], laidByText := true, laidKinds := [.handle], laidTests := true, laidLooks := .later }
def IdentIsUptoCardSaid : Prop := Claim7.holds Tryd.pinned (.plain (OpenSpec.upto identIsSpec)) identIsUptoCard
end Rows
end Go.Proofs.YtmohbbmokcnbhaaDoor
