/-
  DERIVED. GIVEN WITH THE SEED: THE CARDS: each row of YtcfojkecmchbdaaDoorRows.lean that lists a variable, with what it lists TIED to the program's text (the seventh form; the later family's looks); each row that meets fmt, with fmt's text TOLD by the authors' own Lean function (tested against real Go, not proved from fmt's source: count such statements apart). THE CARD IS WHAT COUNTS. Prove the row's statement (the work); the ties are given (YtcfojkecmchbdaaDoorTie.lean); close each card by the builder's one call (the guide's Derived/Test/ToyasCard.lean, 'card_holds'). Laid BY PROGRAM, IN A SANDBOX (cutbox-door.mjs). By AI agents, Wed Nov 11 2026. No macro, syntax, notation, axiom, sorry.
-/
import Derived.Test.YtcfojkecmchbdaaDoorRows
import GoSem.ClaimSeven
namespace Go.Proofs.YtcfojkecmchbdaaDoor
namespace Rows

/-- THE TIED CARD OF 'bulletinlaw06.MerkleNodes'. -/
def merkleNodesCard : Claim7 := { stood := { row := merkleNodesRow, standIns := [], harness := (true, "9bebe0082a2053376e5b7f19e422e91f423fe296e6318a3e7be1c3f6f8747f49"), looks := false }, kinds := [], alts := [], laidByText := true, laidKinds := [.data], laidTests := true, laidLooks := .later }
def MerkleNodesCardSaid : Prop := Claim7.holds Tryd.pinned (.plain (OpenSpec.ofChange merkleNodesSpec)) merkleNodesCard

/-- THE TIED CARD OF 'bulletinlaw06.MerkleRoot'. -/
def merkleRootCard : Claim7 := { stood := { row := merkleRootRow, standIns := [], harness := (true, "9bebe0082a2053376e5b7f19e422e91f423fe296e6318a3e7be1c3f6f8747f49"), looks := false }, kinds := [], alts := [], laidByText := true, laidKinds := [.data], laidTests := true, laidLooks := .later }
def MerkleRootCardSaid : Prop := Claim7.holds Tryd.pinned (.plain (OpenSpec.ofChange merkleRootSpec)) merkleRootCard

/-- THE TIED CARD OF 'bulletinlaw06.MerkleVerify'. -/
def merkleVerifyCard : Claim7 := { stood := { row := merkleVerifyRow, standIns := [], harness := (true, "9bebe0082a2053376e5b7f19e422e91f423fe296e6318a3e7be1c3f6f8747f49"), looks := false }, kinds := [], alts := [], laidByText := true, laidKinds := [.data], laidTests := true, laidLooks := .later }
def MerkleVerifyCardSaid : Prop := Claim7.holds Tryd.pinned (.plain (OpenSpec.ofChange merkleVerifySpec)) merkleVerifyCard

/-- THE TIED CARD OF 'bulletinlaw06.MerkleCollision'. -/
def merkleCollisionCard : Claim7 := { stood := { row := merkleCollisionRow, standIns := [], harness := (true, "9bebe0082a2053376e5b7f19e422e91f423fe296e6318a3e7be1c3f6f8747f49"), looks := false }, kinds := [], alts := [], laidByText := true, laidKinds := [.data], laidTests := true, laidLooks := .later }
def MerkleCollisionCardSaid : Prop := Claim7.holds Tryd.pinned (.plain (OpenSpec.ofChange merkleCollisionSpec)) merkleCollisionCard

/-- THE TIED CARD OF 'bulletinlaw06.MerklePaths'. -/
def merklePathsCard : Claim7 := { stood := { row := merklePathsRow, standIns := [], harness := (true, "9bebe0082a2053376e5b7f19e422e91f423fe296e6318a3e7be1c3f6f8747f49"), looks := false }, kinds := [], alts := [], laidByText := true, laidKinds := [.data], laidTests := true, laidLooks := .later }
def MerklePathsCardSaid : Prop := Claim7.holds Tryd.pinned (.plain (OpenSpec.ofChange merklePathsSpec)) merklePathsCard

/-- THE TIED CARD OF 'bulletinlaw06.MerkleForged'. -/
def merkleForgedCard : Claim7 := { stood := { row := merkleForgedRow, standIns := [], harness := (true, "9bebe0082a2053376e5b7f19e422e91f423fe296e6318a3e7be1c3f6f8747f49"), looks := false }, kinds := [], alts := [], laidByText := true, laidKinds := [.data], laidTests := true, laidLooks := .later }
def MerkleForgedCardSaid : Prop := Claim7.holds Tryd.pinned (.plain (OpenSpec.ofChange merkleForgedSpec)) merkleForgedCard

/-- THE TIED CARD OF 'bulletinlaw06.MerkleBuilder'. -/
def merkleBuilderCard : Claim7 := { stood := { row := merkleBuilderRow, standIns := [], harness := (true, "9bebe0082a2053376e5b7f19e422e91f423fe296e6318a3e7be1c3f6f8747f49"), looks := false }, kinds := [], alts := [], laidByText := true, laidKinds := [.data, .data, .data], laidTests := true, laidLooks := .later }
def MerkleBuilderCardSaid : Prop := Claim7.holds Tryd.pinned (.plain (OpenSpec.ofChange merkleBuilderSpec)) merkleBuilderCard

/-- THE TIED CARD OF 'bulletinlaw06.MerkleLimits'. -/
def merkleLimitsCard : Claim7 := { stood := { row := merkleLimitsRow, standIns := [], harness := (true, "9bebe0082a2053376e5b7f19e422e91f423fe296e6318a3e7be1c3f6f8747f49"), looks := false }, kinds := [], alts := [], laidByText := true, laidKinds := [.data, .data, .data], laidTests := true, laidLooks := .later }
def MerkleLimitsCardSaid : Prop := Claim7.holds Tryd.pinned (.plain (OpenSpec.ofChange merkleLimitsSpec)) merkleLimitsCard

/-- THE SECOND FORM's CARD OF 'bulletinlaw06.MerkleNodes'. -/
def merkleNodesUptoCard : Claim7 := { stood := { row := merkleNodesUptoRow, standIns := [], harness := (true, "9bebe0082a2053376e5b7f19e422e91f423fe296e6318a3e7be1c3f6f8747f49"), looks := false }, kinds := [], alts := [], laidByText := true, laidKinds := [.data], laidTests := true, laidLooks := .later }
def MerkleNodesUptoCardSaid : Prop := Claim7.holds Tryd.pinned (.plain (OpenSpec.upto merkleNodesSpec)) merkleNodesUptoCard

/-- THE SECOND FORM's CARD OF 'bulletinlaw06.MerkleRoot'. -/
def merkleRootUptoCard : Claim7 := { stood := { row := merkleRootUptoRow, standIns := [], harness := (true, "9bebe0082a2053376e5b7f19e422e91f423fe296e6318a3e7be1c3f6f8747f49"), looks := false }, kinds := [], alts := [], laidByText := true, laidKinds := [.data], laidTests := true, laidLooks := .later }
def MerkleRootUptoCardSaid : Prop := Claim7.holds Tryd.pinned (.plain (OpenSpec.upto merkleRootSpec)) merkleRootUptoCard

/-- THE SECOND FORM's CARD OF 'bulletinlaw06.MerkleVerify'. -/
def merkleVerifyUptoCard : Claim7 := { stood := { row := merkleVerifyUptoRow, standIns := [], harness := (true, "9bebe0082a2053376e5b7f19e422e91f423fe296e6318a3e7be1c3f6f8747f49"), looks := false }, kinds := [], alts := [], laidByText := true, laidKinds := [.data], laidTests := true, laidLooks := .later }
def MerkleVerifyUptoCardSaid : Prop := Claim7.holds Tryd.pinned (.plain (OpenSpec.upto merkleVerifySpec)) merkleVerifyUptoCard

/-- THE SECOND FORM's CARD OF 'bulletinlaw06.MerkleCollision'. -/
def merkleCollisionUptoCard : Claim7 := { stood := { row := merkleCollisionUptoRow, standIns := [], harness := (true, "9bebe0082a2053376e5b7f19e422e91f423fe296e6318a3e7be1c3f6f8747f49"), looks := false }, kinds := [], alts := [], laidByText := true, laidKinds := [.data], laidTests := true, laidLooks := .later }
def MerkleCollisionUptoCardSaid : Prop := Claim7.holds Tryd.pinned (.plain (OpenSpec.upto merkleCollisionSpec)) merkleCollisionUptoCard

/-- THE SECOND FORM's CARD OF 'bulletinlaw06.MerklePaths'. -/
def merklePathsUptoCard : Claim7 := { stood := { row := merklePathsUptoRow, standIns := [], harness := (true, "9bebe0082a2053376e5b7f19e422e91f423fe296e6318a3e7be1c3f6f8747f49"), looks := false }, kinds := [], alts := [], laidByText := true, laidKinds := [.data], laidTests := true, laidLooks := .later }
def MerklePathsUptoCardSaid : Prop := Claim7.holds Tryd.pinned (.plain (OpenSpec.upto merklePathsSpec)) merklePathsUptoCard

/-- THE SECOND FORM's CARD OF 'bulletinlaw06.MerkleForged'. -/
def merkleForgedUptoCard : Claim7 := { stood := { row := merkleForgedUptoRow, standIns := [], harness := (true, "9bebe0082a2053376e5b7f19e422e91f423fe296e6318a3e7be1c3f6f8747f49"), looks := false }, kinds := [], alts := [], laidByText := true, laidKinds := [.data], laidTests := true, laidLooks := .later }
def MerkleForgedUptoCardSaid : Prop := Claim7.holds Tryd.pinned (.plain (OpenSpec.upto merkleForgedSpec)) merkleForgedUptoCard

/-- THE SECOND FORM's CARD OF 'bulletinlaw06.MerkleBuilder'. -/
def merkleBuilderUptoCard : Claim7 := { stood := { row := merkleBuilderUptoRow, standIns := [], harness := (true, "9bebe0082a2053376e5b7f19e422e91f423fe296e6318a3e7be1c3f6f8747f49"), looks := false }, kinds := [], alts := [], laidByText := true, laidKinds := [.data, .data, .data], laidTests := true, laidLooks := .later }
def MerkleBuilderUptoCardSaid : Prop := Claim7.holds Tryd.pinned (.plain (OpenSpec.upto merkleBuilderSpec)) merkleBuilderUptoCard

/-- THE SECOND FORM's CARD OF 'bulletinlaw06.MerkleLimits'. -/
def merkleLimitsUptoCard : Claim7 := { stood := { row := merkleLimitsUptoRow, standIns := [], harness := (true, "9bebe0082a2053376e5b7f19e422e91f423fe296e6318a3e7be1c3f6f8747f49"), looks := false }, kinds := [], alts := [], laidByText := true, laidKinds := [.data, .data, .data], laidTests := true, laidLooks := .later }
def MerkleLimitsUptoCardSaid : Prop := Claim7.holds Tryd.pinned (.plain (OpenSpec.upto merkleLimitsSpec)) merkleLimitsUptoCard
end Rows
end Go.Proofs.YtcfojkecmchbdaaDoor
