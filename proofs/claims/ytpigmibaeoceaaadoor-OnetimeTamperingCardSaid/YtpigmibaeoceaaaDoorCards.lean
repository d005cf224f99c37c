/-
  DERIVED. GIVEN WITH THE SEED: THE CARDS: each row of YtpigmibaeoceaaaDoorRows.lean that lists a variable, with what it lists TIED to the program's text (the seventh form; the later family's looks); each row that meets fmt, with fmt's text TOLD by the authors' own Lean function (tested against real Go, not proved from fmt's source: count such statements apart). THE CARD IS WHAT COUNTS. Prove the row's statement (the work); the ties are given (YtpigmibaeoceaaaDoorTie.lean); close each card by the builder's one call (the guide's Derived/Test/ToyasCard.lean, 'card_holds'). Laid BY PROGRAM, IN A SANDBOX (cutbox-door.mjs). By AI agents, Wed Nov 11 2026. No macro, syntax, notation, axiom, sorry.
-/
import Derived.Test.YtpigmibaeoceaaaDoorRows
import GoSem.ClaimSeven
namespace Go.Proofs.YtpigmibaeoceaaaDoor
namespace Rows

/-- THE TIED CARD OF 'bulletinlaw07.OnetimeExtracts'. -/
def onetimeExtractsCard : Claim7 := { stood := { row := onetimeExtractsRow, standIns := [], harness := (true, "f47999e23e28aa0ef4b7a40019eaf3a16ba9576410412a43997e410165c53475"), looks := false }, kinds := [], alts := [], laidByText := true, laidKinds := [.data], laidTests := true, laidLooks := .later }
def OnetimeExtractsCardSaid : Prop := Claim7.holds Tryd.pinned (.plain (OpenSpec.ofChange onetimeExtractsSpec)) onetimeExtractsCard

/-- THE TIED CARD OF 'bulletinlaw07.OnetimeEvidence'. -/
def onetimeEvidenceCard : Claim7 := { stood := { row := onetimeEvidenceRow, standIns := [], harness := (true, "f47999e23e28aa0ef4b7a40019eaf3a16ba9576410412a43997e410165c53475"), looks := false }, kinds := [], alts := [], laidByText := true, laidKinds := [.data], laidTests := true, laidLooks := .later }
def OnetimeEvidenceCardSaid : Prop := Claim7.holds Tryd.pinned (.plain (OpenSpec.ofChange onetimeEvidenceSpec)) onetimeEvidenceCard

/-- THE TIED CARD OF 'bulletinlaw07.OnetimeTampering'. -/
def onetimeTamperingCard : Claim7 := { stood := { row := onetimeTamperingRow, standIns := [], harness := (true, "f47999e23e28aa0ef4b7a40019eaf3a16ba9576410412a43997e410165c53475"), looks := false }, kinds := [], alts := [], laidByText := true, laidKinds := [.data], laidTests := true, laidLooks := .later }
def OnetimeTamperingCardSaid : Prop := Claim7.holds Tryd.pinned (.plain (OpenSpec.ofChange onetimeTamperingSpec)) onetimeTamperingCard

/-- THE SECOND FORM's CARD OF 'bulletinlaw07.OnetimeExtracts'. -/
def onetimeExtractsUptoCard : Claim7 := { stood := { row := onetimeExtractsUptoRow, standIns := [], harness := (true, "f47999e23e28aa0ef4b7a40019eaf3a16ba9576410412a43997e410165c53475"), looks := false }, kinds := [], alts := [], laidByText := true, laidKinds := [.data], laidTests := true, laidLooks := .later }
def OnetimeExtractsUptoCardSaid : Prop := Claim7.holds Tryd.pinned (.plain (OpenSpec.upto onetimeExtractsSpec)) onetimeExtractsUptoCard

/-- THE SECOND FORM's CARD OF 'bulletinlaw07.OnetimeEvidence'. -/
def onetimeEvidenceUptoCard : Claim7 := { stood := { row := onetimeEvidenceUptoRow, standIns := [], harness := (true, "f47999e23e28aa0ef4b7a40019eaf3a16ba9576410412a43997e410165c53475"), looks := false }, kinds := [], alts := [], laidByText := true, laidKinds := [.data], laidTests := true, laidLooks := .later }
def OnetimeEvidenceUptoCardSaid : Prop := Claim7.holds Tryd.pinned (.plain (OpenSpec.upto onetimeEvidenceSpec)) onetimeEvidenceUptoCard

/-- THE SECOND FORM's CARD OF 'bulletinlaw07.OnetimeTampering'. -/
def onetimeTamperingUptoCard : Claim7 := { stood := { row := onetimeTamperingUptoRow, standIns := [], harness := (true, "f47999e23e28aa0ef4b7a40019eaf3a16ba9576410412a43997e410165c53475"), looks := false }, kinds := [], alts := [], laidByText := true, laidKinds := [.data], laidTests := true, laidLooks := .later }
def OnetimeTamperingUptoCardSaid : Prop := Claim7.holds Tryd.pinned (.plain (OpenSpec.upto onetimeTamperingSpec)) onetimeTamperingUptoCard
end Rows
end Go.Proofs.YtpigmibaeoceaaaDoor
