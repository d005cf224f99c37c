/-
  DERIVED. GIVEN WITH THE SEED: THE CARDS: each row of YtcdabngkpocnbaaDoorRows.lean that lists a variable, with what it lists TIED to the program's text (the seventh form; the later family's looks); each row that meets fmt, with fmt's text TOLD by the authors' own Lean function (tested against real Go, not proved from fmt's source: count such statements apart). THE CARD IS WHAT COUNTS. Prove the row's statement (the work); the ties are given (YtcdabngkpocnbaaDoorTie.lean); close each card by the builder's one call (the guide's Derived/Test/ToyasCard.lean, 'card_holds'). Laid BY PROGRAM, IN A SANDBOX (cutbox-door.mjs). By AI agents, Wed Nov 11 2026. No macro, syntax, notation, axiom, sorry.
-/
import Derived.Test.YtcdabngkpocnbaaDoorRows
import GoSem.ClaimSeven
namespace Go.Proofs.YtcdabngkpocnbaaDoor
namespace Rows

/-- THE TIED CARD OF 'bulletinlaw05.Sha256Sum'. -/
def sha256SumCard : Claim7 := { stood := { row := sha256SumRow, standIns := [], harness := (true, "3817ffab9af38f3bda9c65201a1e4e2797c95129f32e9680302164497bd62bc4"), looks := false }, kinds := [], alts := [], laidByText := true, laidKinds := [.data], laidTests := true, laidLooks := .later }
def Sha256SumCardSaid : Prop := Claim7.holds Tryd.pinned (.plain (OpenSpec.ofChange sha256SumSpec)) sha256SumCard

/-- THE TIED CARD OF 'bulletinlaw05.Sha256Lengths'. -/
def sha256LengthsCard : Claim7 := { stood := { row := sha256LengthsRow, standIns := [], harness := (true, "3817ffab9af38f3bda9c65201a1e4e2797c95129f32e9680302164497bd62bc4"), looks := false }, kinds := [], alts := [], laidByText := true, laidKinds := [.data], laidTests := true, laidLooks := .later }
def Sha256LengthsCardSaid : Prop := Claim7.holds Tryd.pinned (.plain (OpenSpec.ofChange sha256LengthsSpec)) sha256LengthsCard

/-- THE TIED CARD OF 'bulletinlaw05.Sha256Half'. -/
def sha256HalfCard : Claim7 := { stood := { row := sha256HalfRow, standIns := [], harness := (true, "3817ffab9af38f3bda9c65201a1e4e2797c95129f32e9680302164497bd62bc4"), looks := false }, kinds := [], alts := [], laidByText := true, laidKinds := [.data], laidTests := true, laidLooks := .later }
def Sha256HalfCardSaid : Prop := Claim7.holds Tryd.pinned (.plain (OpenSpec.ofChange sha256HalfSpec)) sha256HalfCard

/-- THE TIED CARD OF 'bulletinlaw05.Sha256Write'. -/
def sha256WriteCard : Claim7 := { stood := { row := sha256WriteRow, standIns := [], harness := (true, "3817ffab9af38f3bda9c65201a1e4e2797c95129f32e9680302164497bd62bc4"), looks := false }, kinds := [], alts := [], laidByText := true, laidKinds := [.data], laidTests := true, laidLooks := .later }
def Sha256WriteCardSaid : Prop := Claim7.holds Tryd.pinned (.plain (OpenSpec.ofChange sha256WriteSpec)) sha256WriteCard

/-- THE TIED CARD OF 'bulletinlaw05.Sha256Clone'. -/
def sha256CloneCard : Claim7 := { stood := { row := sha256CloneRow, standIns := [], harness := (true, "3817ffab9af38f3bda9c65201a1e4e2797c95129f32e9680302164497bd62bc4"), looks := false }, kinds := [], alts := [], laidByText := true, laidKinds := [.data], laidTests := true, laidLooks := .later }
def Sha256CloneCardSaid : Prop := Claim7.holds Tryd.pinned (.plain (OpenSpec.ofChange sha256CloneSpec)) sha256CloneCard

/-- THE TIED CARD OF 'bulletinlaw05.Sha256Nil'. -/
def sha256NilCard : Claim7 := { stood := { row := sha256NilRow, standIns := [], harness := (true, "3817ffab9af38f3bda9c65201a1e4e2797c95129f32e9680302164497bd62bc4"), looks := false }, kinds := [], alts := [], laidByText := true, laidKinds := [.data], laidTests := true, laidLooks := .later }
def Sha256NilCardSaid : Prop := Claim7.holds Tryd.pinned (.plain (OpenSpec.ofChange sha256NilSpec)) sha256NilCard

/-- THE TIED CARD OF 'bulletinlaw05.Sha256Text'. -/
def sha256TextCard : Claim7 := { stood := { row := sha256TextRow, standIns := [], harness := (true, "3817ffab9af38f3bda9c65201a1e4e2797c95129f32e9680302164497bd62bc4"), looks := false }, kinds := [], alts := [], laidByText := true, laidKinds := [.data], laidTests := true, laidLooks := .later }
def Sha256TextCardSaid : Prop := Claim7.holds Tryd.pinned (.plain (OpenSpec.ofChange sha256TextSpec)) sha256TextCard

/-- THE TIED CARD OF 'bulletinlaw05.Sha256Parse'. -/
def sha256ParseCard : Claim7 := { stood := { row := sha256ParseRow, standIns := [], harness := (true, "3817ffab9af38f3bda9c65201a1e4e2797c95129f32e9680302164497bd62bc4"), looks := false }, kinds := [], alts := [], laidByText := true, laidKinds := [.data], laidTests := true, laidLooks := .later }
def Sha256ParseCardSaid : Prop := Claim7.holds Tryd.pinned (.plain (OpenSpec.ofChange sha256ParseSpec)) sha256ParseCard

/-- THE SECOND FORM's CARD OF 'bulletinlaw05.Sha256Sum'. -/
def sha256SumUptoCard : Claim7 := { stood := { row := sha256SumUptoRow, standIns := [], harness := (true, "3817ffab9af38f3bda9c65201a1e4e2797c95129f32e9680302164497bd62bc4"), looks := false }, kinds := [], alts := [], laidByText := true, laidKinds := [.data], laidTests := true, laidLooks := .later }
def Sha256SumUptoCardSaid : Prop := Claim7.holds Tryd.pinned (.plain (OpenSpec.upto sha256SumSpec)) sha256SumUptoCard

/-- THE SECOND FORM's CARD OF 'bulletinlaw05.Sha256Lengths'. -/
def sha256LengthsUptoCard : Claim7 := { stood := { row := sha256LengthsUptoRow, standIns := [], harness := (true, "3817ffab9af38f3bda9c65201a1e4e2797c95129f32e9680302164497bd62bc4"), looks := false }, kinds := [], alts := [], laidByText := true, laidKinds := [.data], laidTests := true, laidLooks := .later }
def Sha256LengthsUptoCardSaid : Prop := Claim7.holds Tryd.pinned (.plain (OpenSpec.upto sha256LengthsSpec)) sha256LengthsUptoCard

/-- THE SECOND FORM's CARD OF 'bulletinlaw05.Sha256Half'. -/
def sha256HalfUptoCard : Claim7 := { stood := { row := sha256HalfUptoRow, standIns := [], harness := (true, "3817ffab9af38f3bda9c65201a1e4e2797c95129f32e9680302164497bd62bc4"), looks := false }, kinds := [], alts := [], laidByText := true, laidKinds := [.data], laidTests := true, laidLooks := .later }
def Sha256HalfUptoCardSaid : Prop := Claim7.holds Tryd.pinned (.plain (OpenSpec.upto sha256HalfSpec)) sha256HalfUptoCard

/-- THE SECOND FORM's CARD OF 'bulletinlaw05.Sha256Write'. -/
def sha256WriteUptoCard : Claim7 := { stood := { row := sha256WriteUptoRow, standIns := [], harness := (true, "3817ffab9af38f3bda9c65201a1e4e2797c95129f32e9680302164497bd62bc4"), looks := false }, kinds := [], alts := [], laidByText := true, laidKinds := [.data], laidTests := true, laidLooks := .later }
def Sha256WriteUptoCardSaid : Prop := Claim7.holds Tryd.pinned (.plain (OpenSpec.upto sha256WriteSpec)) sha256WriteUptoCard

/-- THE SECOND FORM's CARD OF 'bulletinlaw05.Sha256Clone'. -/
def sha256CloneUptoCard : Claim7 := { stood := { row := sha256CloneUptoRow, standIns := [], harness := (true, "3817ffab9af38f3bda9c65201a1e4e2797c95129f32e9680302164497bd62bc4"), looks := false }, kinds := [], alts := [], laidByText := true, laidKinds := [.data], laidTests := true, laidLooks := .later }
def Sha256CloneUptoCardSaid : Prop := Claim7.holds Tryd.pinned (.plain (OpenSpec.upto sha256CloneSpec)) sha256CloneUptoCard

/-- THE SECOND FORM's CARD OF 'bulletinlaw05.Sha256Nil'. -/
def sha256NilUptoCard : Claim7 := { stood := { row := sha256NilUptoRow, standIns := [], harness := (true, "3817ffab9af38f3bda9c65201a1e4e2797c95129f32e9680302164497bd62bc4"), looks := false }, kinds := [], alts := [], laidByText := true, laidKinds := [.data], laidTests := true, laidLooks := .later }
def Sha256NilUptoCardSaid : Prop := Claim7.holds Tryd.pinned (.plain (OpenSpec.upto sha256NilSpec)) sha256NilUptoCard

/-- THE SECOND FORM's CARD OF 'bulletinlaw05.Sha256Text'. -/
def sha256TextUptoCard : Claim7 := { stood := { row := sha256TextUptoRow, standIns := [], harness := (true, "3817ffab9af38f3bda9c65201a1e4e2797c95129f32e9680302164497bd62bc4"), looks := false }, kinds := [], alts := [], laidByText := true, laidKinds := [.data], laidTests := true, laidLooks := .later }
def Sha256TextUptoCardSaid : Prop := Claim7.holds Tryd.pinned (.plain (OpenSpec.upto sha256TextSpec)) sha256TextUptoCard

/-- THE SECOND FORM's CARD OF 'bulletinlaw05.Sha256Parse'. -/
def sha256ParseUptoCard : Claim7 := { stood := { row := sha256ParseUptoRow, standIns := [], harness := (true, "3817ffab9af38f3bda9c65201a1e4e2797c95129f32e9680302164497bd62bc4"), looks := false }, kinds := [], alts := [], laidByText := true, laidKinds := [.data], laidTests := true, laidLooks := .later }
def Sha256ParseUptoCardSaid : Prop := Claim7.holds Tryd.pinned (.plain (OpenSpec.upto sha256ParseSpec)) sha256ParseUptoCard
end Rows
end Go.Proofs.YtcdabngkpocnbaaDoor
