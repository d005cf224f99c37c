/-
  DERIVED. GIVEN WITH THE SEED: THE CARDS: each row of YtbbdnlcjjcmllaaDoorRows.lean that lists a variable, with what it lists TIED to the program's text (the seventh form; the later family's looks); each row that meets fmt, with fmt's text TOLD by the authors' own Lean function (tested against real Go, not proved from fmt's source: count such statements apart). THE CARD IS WHAT COUNTS. Prove the row's statement (the work); the ties are given (YtbbdnlcjjcmllaaDoorTie.lean); close each card by the builder's one call (the guide's Derived/Test/ToyasCard.lean, 'card_holds'). Laid BY PROGRAM, IN A SANDBOX (cutbox-door.mjs). By AI agents, Wed Nov 11 2026. No macro, syntax, notation, axiom, sorry.
-/
import Derived.Test.YtbbdnlcjjcmllaaDoorRows
import GoSem.ClaimSeven
namespace Go.Proofs.YtbbdnlcjjcmllaaDoor
namespace Rows

/-- THE TIED CARD OF 'bulletinlaw08.SignerChanged'. -/
def signerChangedCard : Claim7 := { stood := { row := signerChangedRow, standIns := [], harness := (true, "1cfe6fe5c748435e035f30f2ee0e177c8775bf0f35cc0ad28aaf8af445f6a4c9"), looks := false }, kinds := [], alts := [], laidByText := true, laidKinds := [.data, .data], laidTests := true, laidLooks := .later }
def SignerChangedCardSaid : Prop := Claim7.holds Tryd.pinned (.plain (OpenSpec.ofChange signerChangedSpec)) signerChangedCard

/-- THE TIED CARD OF 'bulletinlaw08.SignerReused'. -/
def signerReusedCard : Claim7 := { stood := { row := signerReusedRow, standIns := [], harness := (true, "1cfe6fe5c748435e035f30f2ee0e177c8775bf0f35cc0ad28aaf8af445f6a4c9"), looks := false }, kinds := [], alts := [], laidByText := true, laidKinds := [.data, .data], laidTests := true, laidLooks := .later }
def SignerReusedCardSaid : Prop := Claim7.holds Tryd.pinned (.plain (OpenSpec.ofChange signerReusedSpec)) signerReusedCard

/-- THE SECOND FORM's CARD OF 'bulletinlaw08.SignerChanged'. -/
def signerChangedUptoCard : Claim7 := { stood := { row := signerChangedUptoRow, standIns := [], harness := (true, "1cfe6fe5c748435e035f30f2ee0e177c8775bf0f35cc0ad28aaf8af445f6a4c9"), looks := false }, kinds := [], alts := [], laidByText := true, laidKinds := [.data, .data], laidTests := true, laidLooks := .later }
def SignerChangedUptoCardSaid : Prop := Claim7.holds Tryd.pinned (.plain (OpenSpec.upto signerChangedSpec)) signerChangedUptoCard

/-- THE SECOND FORM's CARD OF 'bulletinlaw08.SignerReused'. -/
def signerReusedUptoCard : Claim7 := { stood := { row := signerReusedUptoRow, standIns := [], harness := (true, "1cfe6fe5c748435e035f30f2ee0e177c8775bf0f35cc0ad28aaf8af445f6a4c9"), looks := false }, kinds := [], alts := [], laidByText := true, laidKinds := [.data, .data], laidTests := true, laidLooks := .later }
def SignerReusedUptoCardSaid : Prop := Claim7.holds Tryd.pinned (.plain (OpenSpec.upto signerReusedSpec)) signerReusedUptoCard
end Rows
end Go.Proofs.YtbbdnlcjjcmllaaDoor
