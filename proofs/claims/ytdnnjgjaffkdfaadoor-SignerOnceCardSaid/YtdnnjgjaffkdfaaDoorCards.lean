/-
  DERIVED. GIVEN WITH THE SEED: THE CARDS: each row of YtdnnjgjaffkdfaaDoorRows.lean that lists a variable, with what it lists TIED to the program's text (the seventh form; the later family's looks); each row that meets fmt, with fmt's text TOLD by the authors' own Lean function (tested against real Go, not proved from fmt's source: count such statements apart). THE CARD IS WHAT COUNTS. Prove the row's statement (the work); the ties are given (YtdnnjgjaffkdfaaDoorTie.lean); close each card by the builder's one call (the guide's Derived/Test/ToyasCard.lean, 'card_holds'). Laid BY PROGRAM, IN A SANDBOX (cutbox-door.mjs). By AI agents, Wed Nov 11 2026. No macro, syntax, notation, axiom, sorry.
-/
import Derived.Test.YtdnnjgjaffkdfaaDoorRows
import GoSem.ClaimSeven
namespace Go.Proofs.YtdnnjgjaffkdfaaDoor
namespace Rows

/-- THE TIED CARD OF 'bulletinlaw08.SignerVerify'. -/
def signerVerifyCard : Claim7 := { stood := { row := signerVerifyRow, standIns := [], harness := (true, "5307d0f47ec725d2264515fe62687319d34234c23d642f8f2ad00780c5a4c9eb"), looks := false }, kinds := [], alts := [], laidByText := true, laidKinds := [.data, .data], laidTests := true, laidLooks := .later }
def SignerVerifyCardSaid : Prop := Claim7.holds Tryd.pinned (.plain (OpenSpec.ofChange signerVerifySpec)) signerVerifyCard

/-- THE TIED CARD OF 'bulletinlaw08.SignerKeys'. -/
def signerKeysCard : Claim7 := { stood := { row := signerKeysRow, standIns := [], harness := (true, "5307d0f47ec725d2264515fe62687319d34234c23d642f8f2ad00780c5a4c9eb"), looks := false }, kinds := [], alts := [], laidByText := true, laidKinds := [.data, .data], laidTests := true, laidLooks := .later }
def SignerKeysCardSaid : Prop := Claim7.holds Tryd.pinned (.plain (OpenSpec.ofChange signerKeysSpec)) signerKeysCard

/-- THE TIED CARD OF 'bulletinlaw08.SignerSign'. -/
def signerSignCard : Claim7 := { stood := { row := signerSignRow, standIns := [], harness := (true, "5307d0f47ec725d2264515fe62687319d34234c23d642f8f2ad00780c5a4c9eb"), looks := false }, kinds := [], alts := [], laidByText := true, laidKinds := [.data, .data], laidTests := true, laidLooks := .later }
def SignerSignCardSaid : Prop := Claim7.holds Tryd.pinned (.plain (OpenSpec.ofChange signerSignSpec)) signerSignCard

/-- THE TIED CARD OF 'bulletinlaw08.SignerOnce'. -/
def signerOnceCard : Claim7 := { stood := { row := signerOnceRow, standIns := [], harness := (true, "5307d0f47ec725d2264515fe62687319d34234c23d642f8f2ad00780c5a4c9eb"), looks := false }, kinds := [], alts := [], laidByText := true, laidKinds := [.data, .data], laidTests := true, laidLooks := .later }
def SignerOnceCardSaid : Prop := Claim7.holds Tryd.pinned (.plain (OpenSpec.ofChange signerOnceSpec)) signerOnceCard

/-- THE TIED CARD OF 'bulletinlaw08.SignerNil'. -/
def signerNilCard : Claim7 := { stood := { row := signerNilRow, standIns := [], harness := (true, "5307d0f47ec725d2264515fe62687319d34234c23d642f8f2ad00780c5a4c9eb"), looks := false }, kinds := [], alts := [], laidByText := true, laidKinds := [.data, .data], laidTests := true, laidLooks := .later }
def SignerNilCardSaid : Prop := Claim7.holds Tryd.pinned (.plain (OpenSpec.ofChange signerNilSpec)) signerNilCard

/-- THE TIED CARD OF 'bulletinlaw08.SignerTexts'. -/
def signerTextsCard : Claim7 := { stood := { row := signerTextsRow, standIns := [], harness := (true, "5307d0f47ec725d2264515fe62687319d34234c23d642f8f2ad00780c5a4c9eb"), looks := false }, kinds := [], alts := [], laidByText := true, laidKinds := [.data, .data], laidTests := true, laidLooks := .later }
def SignerTextsCardSaid : Prop := Claim7.holds Tryd.pinned (.plain (OpenSpec.ofChange signerTextsSpec)) signerTextsCard

/-- THE TIED CARD OF 'bulletinlaw08.SignerParse'. -/
def signerParseCard : Claim7 := { stood := { row := signerParseRow, standIns := [], harness := (true, "5307d0f47ec725d2264515fe62687319d34234c23d642f8f2ad00780c5a4c9eb"), looks := false }, kinds := [], alts := [], laidByText := true, laidKinds := [.data, .data], laidTests := true, laidLooks := .later }
def SignerParseCardSaid : Prop := Claim7.holds Tryd.pinned (.plain (OpenSpec.ofChange signerParseSpec)) signerParseCard

/-- THE SECOND FORM's CARD OF 'bulletinlaw08.SignerVerify'. -/
def signerVerifyUptoCard : Claim7 := { stood := { row := signerVerifyUptoRow, standIns := [], harness := (true, "5307d0f47ec725d2264515fe62687319d34234c23d642f8f2ad00780c5a4c9eb"), looks := false }, kinds := [], alts := [], laidByText := true, laidKinds := [.data, .data], laidTests := true, laidLooks := .later }
def SignerVerifyUptoCardSaid : Prop := Claim7.holds Tryd.pinned (.plain (OpenSpec.upto signerVerifySpec)) signerVerifyUptoCard

/-- THE SECOND FORM's CARD OF 'bulletinlaw08.SignerKeys'. -/
def signerKeysUptoCard : Claim7 := { stood := { row := signerKeysUptoRow, standIns := [], harness := (true, "5307d0f47ec725d2264515fe62687319d34234c23d642f8f2ad00780c5a4c9eb"), looks := false }, kinds := [], alts := [], laidByText := true, laidKinds := [.data, .data], laidTests := true, laidLooks := .later }
def SignerKeysUptoCardSaid : Prop := Claim7.holds Tryd.pinned (.plain (OpenSpec.upto signerKeysSpec)) signerKeysUptoCard

/-- THE SECOND FORM's CARD OF 'bulletinlaw08.SignerSign'. -/
def signerSignUptoCard : Claim7 := { stood := { row := signerSignUptoRow, standIns := [], harness := (true, "5307d0f47ec725d2264515fe62687319d34234c23d642f8f2ad00780c5a4c9eb"), looks := false }, kinds := [], alts := [], laidByText := true, laidKinds := [.data, .data], laidTests := true, laidLooks := .later }
def SignerSignUptoCardSaid : Prop := Claim7.holds Tryd.pinned (.plain (OpenSpec.upto signerSignSpec)) signerSignUptoCard

/-- THE SECOND FORM's CARD OF 'bulletinlaw08.SignerOnce'. -/
def signerOnceUptoCard : Claim7 := { stood := { row := signerOnceUptoRow, standIns := [], harness := (true, "5307d0f47ec725d2264515fe62687319d34234c23d642f8f2ad00780c5a4c9eb"), looks := false }, kinds := [], alts := [], laidByText := true, laidKinds := [.data, .data], laidTests := true, laidLooks := .later }
def SignerOnceUptoCardSaid : Prop := Claim7.holds Tryd.pinned (.plain (OpenSpec.upto signerOnceSpec)) signerOnceUptoCard

/-- THE SECOND FORM's CARD OF 'bulletinlaw08.SignerNil'. -/
def signerNilUptoCard : Claim7 := { stood := { row := signerNilUptoRow, standIns := [], harness := (true, "5307d0f47ec725d2264515fe62687319d34234c23d642f8f2ad00780c5a4c9eb"), looks := false }, kinds := [], alts := [], laidByText := true, laidKinds := [.data, .data], laidTests := true, laidLooks := .later }
def SignerNilUptoCardSaid : Prop := Claim7.holds Tryd.pinned (.plain (OpenSpec.upto signerNilSpec)) signerNilUptoCard

/-- THE SECOND FORM's CARD OF 'bulletinlaw08.SignerTexts'. -/
def signerTextsUptoCard : Claim7 := { stood := { row := signerTextsUptoRow, standIns := [], harness := (true, "5307d0f47ec725d2264515fe62687319d34234c23d642f8f2ad00780c5a4c9eb"), looks := false }, kinds := [], alts := [], laidByText := true, laidKinds := [.data, .data], laidTests := true, laidLooks := .later }
def SignerTextsUptoCardSaid : Prop := Claim7.holds Tryd.pinned (.plain (OpenSpec.upto signerTextsSpec)) signerTextsUptoCard

/-- THE SECOND FORM's CARD OF 'bulletinlaw08.SignerParse'. -/
def signerParseUptoCard : Claim7 := { stood := { row := signerParseUptoRow, standIns := [], harness := (true, "5307d0f47ec725d2264515fe62687319d34234c23d642f8f2ad00780c5a4c9eb"), looks := false }, kinds := [], alts := [], laidByText := true, laidKinds := [.data, .data], laidTests := true, laidLooks := .later }
def SignerParseUptoCardSaid : Prop := Claim7.holds Tryd.pinned (.plain (OpenSpec.upto signerParseSpec)) signerParseUptoCard
end Rows
end Go.Proofs.YtdnnjgjaffkdfaaDoor
