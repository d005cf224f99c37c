/-
  DERIVED. GIVEN WITH THE SEED: THE CARDS: each row of YtlgkliafocbogaaDoorRows.lean that lists a variable, with what it lists TIED to the program's text (the seventh form; the later family's looks); each row that meets fmt, with fmt's text TOLD by the authors' own Lean function (tested against real Go, not proved from fmt's source: count such statements apart). THE CARD IS WHAT COUNTS. Prove the row's statement (the work); the ties are given (YtlgkliafocbogaaDoorTie.lean); close each card by the builder's one call (the guide's Derived/Test/ToyasCard.lean, 'card_holds'). Laid BY PROGRAM, IN A SANDBOX (cutbox-door.mjs). By AI agents, Wed Nov 11 2026. No macro, syntax, notation, axiom, sorry.
-/
import Derived.Test.YtlgkliafocbogaaDoorRows
import GoSem.ClaimSeven
namespace Go.Proofs.YtlgkliafocbogaaDoor
namespace Rows

/-- THE TIED CARD OF 'bulletinlaw07.OnetimeDigits'. -/
def onetimeDigitsCard : Claim7 := { stood := { row := onetimeDigitsRow, standIns := [], harness := (true, "1dc31f46b387737c194fada158e9741ca8d03a798e1ae469dd30fac518d63e72"), looks := false }, kinds := [], alts := [], laidByText := true, laidKinds := [.data], laidTests := true, laidLooks := .later }
def OnetimeDigitsCardSaid : Prop := Claim7.holds Tryd.pinned (.plain (OpenSpec.ofChange onetimeDigitsSpec)) onetimeDigitsCard

/-- THE TIED CARD OF 'bulletinlaw07.OnetimeOrder'. -/
def onetimeOrderCard : Claim7 := { stood := { row := onetimeOrderRow, standIns := [], harness := (true, "1dc31f46b387737c194fada158e9741ca8d03a798e1ae469dd30fac518d63e72"), looks := false }, kinds := [], alts := [], laidByText := true, laidKinds := [.data], laidTests := true, laidLooks := .later }
def OnetimeOrderCardSaid : Prop := Claim7.holds Tryd.pinned (.plain (OpenSpec.ofChange onetimeOrderSpec)) onetimeOrderCard

/-- THE TIED CARD OF 'bulletinlaw07.OnetimeSteps'. -/
def onetimeStepsCard : Claim7 := { stood := { row := onetimeStepsRow, standIns := [], harness := (true, "1dc31f46b387737c194fada158e9741ca8d03a798e1ae469dd30fac518d63e72"), looks := false }, kinds := [], alts := [], laidByText := true, laidKinds := [.data], laidTests := true, laidLooks := .later }
def OnetimeStepsCardSaid : Prop := Claim7.holds Tryd.pinned (.plain (OpenSpec.ofChange onetimeStepsSpec)) onetimeStepsCard

/-- THE TIED CARD OF 'bulletinlaw07.OnetimeParts'. -/
def onetimePartsCard : Claim7 := { stood := { row := onetimePartsRow, standIns := [], harness := (true, "1dc31f46b387737c194fada158e9741ca8d03a798e1ae469dd30fac518d63e72"), looks := false }, kinds := [], alts := [], laidByText := true, laidKinds := [.data], laidTests := true, laidLooks := .later }
def OnetimePartsCardSaid : Prop := Claim7.holds Tryd.pinned (.plain (OpenSpec.ofChange onetimePartsSpec)) onetimePartsCard

/-- THE TIED CARD OF 'bulletinlaw07.OnetimeSecrets'. -/
def onetimeSecretsCard : Claim7 := { stood := { row := onetimeSecretsRow, standIns := [], harness := (true, "1dc31f46b387737c194fada158e9741ca8d03a798e1ae469dd30fac518d63e72"), looks := false }, kinds := [], alts := [], laidByText := true, laidKinds := [.data], laidTests := true, laidLooks := .later }
def OnetimeSecretsCardSaid : Prop := Claim7.holds Tryd.pinned (.plain (OpenSpec.ofChange onetimeSecretsSpec)) onetimeSecretsCard

/-- THE TIED CARD OF 'bulletinlaw07.OnetimePublic'. -/
def onetimePublicCard : Claim7 := { stood := { row := onetimePublicRow, standIns := [], harness := (true, "1dc31f46b387737c194fada158e9741ca8d03a798e1ae469dd30fac518d63e72"), looks := false }, kinds := [], alts := [], laidByText := true, laidKinds := [.data], laidTests := true, laidLooks := .later }
def OnetimePublicCardSaid : Prop := Claim7.holds Tryd.pinned (.plain (OpenSpec.ofChange onetimePublicSpec)) onetimePublicCard

/-- THE TIED CARD OF 'bulletinlaw07.OnetimeRecovers'. -/
def onetimeRecoversCard : Claim7 := { stood := { row := onetimeRecoversRow, standIns := [], harness := (true, "1dc31f46b387737c194fada158e9741ca8d03a798e1ae469dd30fac518d63e72"), looks := false }, kinds := [], alts := [], laidByText := true, laidKinds := [.data], laidTests := true, laidLooks := .later }
def OnetimeRecoversCardSaid : Prop := Claim7.holds Tryd.pinned (.plain (OpenSpec.ofChange onetimeRecoversSpec)) onetimeRecoversCard

/-- THE TIED CARD OF 'bulletinlaw07.OnetimeChecks'. -/
def onetimeChecksCard : Claim7 := { stood := { row := onetimeChecksRow, standIns := [], harness := (true, "1dc31f46b387737c194fada158e9741ca8d03a798e1ae469dd30fac518d63e72"), looks := false }, kinds := [], alts := [], laidByText := true, laidKinds := [.data], laidTests := true, laidLooks := .later }
def OnetimeChecksCardSaid : Prop := Claim7.holds Tryd.pinned (.plain (OpenSpec.ofChange onetimeChecksSpec)) onetimeChecksCard

/-- THE TIED CARD OF 'bulletinlaw07.OnetimeSigns'. -/
def onetimeSignsCard : Claim7 := { stood := { row := onetimeSignsRow, standIns := [], harness := (true, "1dc31f46b387737c194fada158e9741ca8d03a798e1ae469dd30fac518d63e72"), looks := false }, kinds := [], alts := [], laidByText := true, laidKinds := [.data], laidTests := true, laidLooks := .later }
def OnetimeSignsCardSaid : Prop := Claim7.holds Tryd.pinned (.plain (OpenSpec.ofChange onetimeSignsSpec)) onetimeSignsCard

/-- THE SECOND FORM's CARD OF 'bulletinlaw07.OnetimeDigits'. -/
def onetimeDigitsUptoCard : Claim7 := { stood := { row := onetimeDigitsUptoRow, standIns := [], harness := (true, "1dc31f46b387737c194fada158e9741ca8d03a798e1ae469dd30fac518d63e72"), looks := false }, kinds := [], alts := [], laidByText := true, laidKinds := [.data], laidTests := true, laidLooks := .later }
def OnetimeDigitsUptoCardSaid : Prop := Claim7.holds Tryd.pinned (.plain (OpenSpec.upto onetimeDigitsSpec)) onetimeDigitsUptoCard

/-- THE SECOND FORM's CARD OF 'bulletinlaw07.OnetimeOrder'. -/
def onetimeOrderUptoCard : Claim7 := { stood := { row := onetimeOrderUptoRow, standIns := [], harness := (true, "1dc31f46b387737c194fada158e9741ca8d03a798e1ae469dd30fac518d63e72"), looks := false }, kinds := [], alts := [], laidByText := true, laidKinds := [.data], laidTests := true, laidLooks := .later }
def OnetimeOrderUptoCardSaid : Prop := Claim7.holds Tryd.pinned (.plain (OpenSpec.upto onetimeOrderSpec)) onetimeOrderUptoCard

/-- THE SECOND FORM's CARD OF 'bulletinlaw07.OnetimeSteps'. -/
def onetimeStepsUptoCard : Claim7 := { stood := { row := onetimeStepsUptoRow, standIns := [], harness := (true, "1dc31f46b387737c194fada158e9741ca8d03a798e1ae469dd30fac518d63e72"), looks := false }, kinds := [], alts := [], laidByText := true, laidKinds := [.data], laidTests := true, laidLooks := .later }
def OnetimeStepsUptoCardSaid : Prop := Claim7.holds Tryd.pinned (.plain (OpenSpec.upto onetimeStepsSpec)) onetimeStepsUptoCard

/-- THE SECOND FORM's CARD OF 'bulletinlaw07.OnetimeParts'. -/
def onetimePartsUptoCard : Claim7 := { stood := { row := onetimePartsUptoRow, standIns := [], harness := (true, "1dc31f46b387737c194fada158e9741ca8d03a798e1ae469dd30fac518d63e72"), looks := false }, kinds := [], alts := [], laidByText := true, laidKinds := [.data], laidTests := true, laidLooks := .later }
def OnetimePartsUptoCardSaid : Prop := Claim7.holds Tryd.pinned (.plain (OpenSpec.upto onetimePartsSpec)) onetimePartsUptoCard

/-- THE SECOND FORM's CARD OF 'bulletinlaw07.OnetimeSecrets'. -/
def onetimeSecretsUptoCard : Claim7 := { stood := { row := onetimeSecretsUptoRow, standIns := [], harness := (true, "1dc31f46b387737c194fada158e9741ca8d03a798e1ae469dd30fac518d63e72"), looks := false }, kinds := [], alts := [], laidByText := true, laidKinds := [.data], laidTests := true, laidLooks := .later }
def OnetimeSecretsUptoCardSaid : Prop := Claim7.holds Tryd.pinned (.plain (OpenSpec.upto onetimeSecretsSpec)) onetimeSecretsUptoCard

/-- THE SECOND FORM's CARD OF 'bulletinlaw07.OnetimePublic'. -/
def onetimePublicUptoCard : Claim7 := { stood := { row := onetimePublicUptoRow, standIns := [], harness := (true, "1dc31f46b387737c194fada158e9741ca8d03a798e1ae469dd30fac518d63e72"), looks := false }, kinds := [], alts := [], laidByText := true, laidKinds := [.data], laidTests := true, laidLooks := .later }
def OnetimePublicUptoCardSaid : Prop := Claim7.holds Tryd.pinned (.plain (OpenSpec.upto onetimePublicSpec)) onetimePublicUptoCard

/-- THE SECOND FORM's CARD OF 'bulletinlaw07.OnetimeRecovers'. -/
def onetimeRecoversUptoCard : Claim7 := { stood := { row := onetimeRecoversUptoRow, standIns := [], harness := (true, "1dc31f46b387737c194fada158e9741ca8d03a798e1ae469dd30fac518d63e72"), looks := false }, kinds := [], alts := [], laidByText := true, laidKinds := [.data], laidTests := true, laidLooks := .later }
def OnetimeRecoversUptoCardSaid : Prop := Claim7.holds Tryd.pinned (.plain (OpenSpec.upto onetimeRecoversSpec)) onetimeRecoversUptoCard

/-- THE SECOND FORM's CARD OF 'bulletinlaw07.OnetimeChecks'. -/
def onetimeChecksUptoCard : Claim7 := { stood := { row := onetimeChecksUptoRow, standIns := [], harness := (true, "1dc31f46b387737c194fada158e9741ca8d03a798e1ae469dd30fac518d63e72"), looks := false }, kinds := [], alts := [], laidByText := true, laidKinds := [.data], laidTests := true, laidLooks := .later }
def OnetimeChecksUptoCardSaid : Prop := Claim7.holds Tryd.pinned (.plain (OpenSpec.upto onetimeChecksSpec)) onetimeChecksUptoCard

/-- THE SECOND FORM's CARD OF 'bulletinlaw07.OnetimeSigns'. -/
def onetimeSignsUptoCard : Claim7 := { stood := { row := onetimeSignsUptoRow, standIns := [], harness := (true, "1dc31f46b387737c194fada158e9741ca8d03a798e1ae469dd30fac518d63e72"), looks := false }, kinds := [], alts := [], laidByText := true, laidKinds := [.data], laidTests := true, laidLooks := .later }
def OnetimeSignsUptoCardSaid : Prop := Claim7.holds Tryd.pinned (.plain (OpenSpec.upto onetimeSignsSpec)) onetimeSignsUptoCard
end Rows
end Go.Proofs.YtlgkliafocbogaaDoor
