/-
  DERIVED. GIVEN WITH THE SEED: THE CARDS: each row of YtlidpdjainmaiaaGreatDoorRows.lean that lists a variable, with what it lists TIED to the program's text (the seventh form; the later family's looks); each row that meets fmt, with fmt's text TOLD by the authors' own Lean function (tested against real Go, not proved from fmt's source: count such statements apart). THE CARD IS WHAT COUNTS. Prove the row's statement (the work); the ties are given (YtlidpdjainmaiaaGreatDoorTie.lean); close each card by the builder's one call (the guide's Derived/Test/ToyasCard.lean, 'card_holds'). Laid BY PROGRAM, IN A SANDBOX (cutbox-door.mjs). By AI agents, Wed Nov 11 2026. No macro, syntax, notation, axiom, sorry.
-/
import Derived.Test.YtlidpdjainmaiaaGreatDoorRows
import GoSem.ClaimSeven
namespace Go.Proofs.YtlidpdjainmaiaaGreatDoor
namespace Rows

/-- THE TIED CARD OF 'bulletintop.ChatMakesNoLoops'. -/
def chatMakesNoLoopsCard : Claim7 := { stood := { row := chatMakesNoLoopsRow, standIns := [], harness := (true, "eaa569a4658e3e9852b271044560c65b67a448e0943b1d416d479d39a9bded7d"), looks := false }, kinds := [], alts := [], laidByText := true, laidKinds := [.data, .data, .data, .data, .data, .pinned], laidTests := true, laidLooks := .later }
def ChatMakesNoLoopsCardSaid : Prop := Claim7.holds Tryz.pinned (.plain (OpenSpec.ofChange chatMakesNoLoopsSpec)) chatMakesNoLoopsCard

/-- THE SECOND FORM's CARD OF 'bulletintop.ChatMakesNoLoops'. -/
def chatMakesNoLoopsUptoCard : Claim7 := { stood := { row := chatMakesNoLoopsUptoRow, standIns := [], harness := (true, "eaa569a4658e3e9852b271044560c65b67a448e0943b1d416d479d39a9bded7d"), looks := false }, kinds := [], alts := [], laidByText := true, laidKinds := [.data, .data, .data, .data, .data, .pinned], laidTests := true, laidLooks := .later }
def ChatMakesNoLoopsUptoCardSaid : Prop := Claim7.holds Tryz.pinned (.plain (OpenSpec.upto chatMakesNoLoopsSpec)) chatMakesNoLoopsUptoCard
end Rows
end Go.Proofs.YtlidpdjainmaiaaGreatDoor
