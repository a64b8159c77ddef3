/-
  DERIVED. GIVEN WITH THE SEED: THE CARDS: each row of YtmeakhiiebeneaaGreatDoorRows.lean that lists a variable, with what it lists TIED to the program's text (the seventh form; the later family's looks); each row that meets fmt, with fmt's text TOLD by the authors' own Lean function (tested against real Go, not proved from fmt's source: count such statements apart). THE CARD IS WHAT COUNTS. Prove the row's statement (the work); the ties are given (YtmeakhiiebeneaaGreatDoorTie.lean); close each card by the builder's one call (the guide's Derived/Test/ToyasCard.lean, 'card_holds'). Laid BY PROGRAM, IN A SANDBOX (cutbox-door.mjs). By AI agents, Wed Nov 11 2026. No macro, syntax, notation, axiom, sorry.
-/
import Derived.Test.YtmeakhiiebeneaaGreatDoorRows
import GoSem.ClaimSeven
namespace Go.Proofs.YtmeakhiiebeneaaGreatDoor
namespace Rows

/-- THE TIED CARD OF 'coppicelaw3.KeysOwn'. -/
def keysOwnCard : Claim7 := { stood := { row := keysOwnRow, standIns := [], harness := (true, "347ce0c78ef5df4b3488fde7e0a2e207d4f8bdc2fbabda9161a439539b067cea"), looks := false }, kinds := [], alts := [], laidByText := true, laidKinds := [.data, .data, .data], laidTests := true, laidLooks := .later }
def KeysOwnCardSaid : Prop := Claim7.holds Tryz.pinned (.plain (OpenSpec.ofChange keysOwnSpec)) keysOwnCard

/-- THE TIED CARD OF 'coppicelaw1.WireOwn'. -/
def wireOwnCard : Claim7 := { stood := { row := wireOwnRow, standIns := [], harness := (true, "347ce0c78ef5df4b3488fde7e0a2e207d4f8bdc2fbabda9161a439539b067cea"), looks := false }, kinds := [], alts := [], laidByText := true, laidKinds := [.data, .data, .data], laidTests := true, laidLooks := .later }
def WireOwnCardSaid : Prop := Claim7.holds Tryz.pinned (.plain (OpenSpec.ofChange wireOwnSpec)) wireOwnCard

/-- THE TIED CARD OF 'coppicelaw6.ChainOwn'. -/
def chainOwnCard : Claim7 := { stood := { row := chainOwnRow, standIns := [], harness := (true, "347ce0c78ef5df4b3488fde7e0a2e207d4f8bdc2fbabda9161a439539b067cea"), looks := false }, kinds := [], alts := [], laidByText := true, laidKinds := [.data, .data, .data], laidTests := true, laidLooks := .later }
def ChainOwnCardSaid : Prop := Claim7.holds Tryz.pinned (.plain (OpenSpec.ofChange chainOwnSpec)) chainOwnCard

/-- THE TIED CARD OF 'coppicelaw5.BranchOwns'. -/
def branchOwnsCard : Claim7 := { stood := { row := branchOwnsRow, standIns := [], harness := (true, "347ce0c78ef5df4b3488fde7e0a2e207d4f8bdc2fbabda9161a439539b067cea"), looks := false }, kinds := [], alts := [], laidByText := true, laidKinds := [.data, .data, .data], laidTests := true, laidLooks := .later }
def BranchOwnsCardSaid : Prop := Claim7.holds Tryz.pinned (.plain (OpenSpec.ofChange branchOwnsSpec)) branchOwnsCard

/-- THE TIED CARD OF 'coppicelaw4.LeafOwn'. -/
def leafOwnCard : Claim7 := { stood := { row := leafOwnRow, standIns := [], harness := (true, "347ce0c78ef5df4b3488fde7e0a2e207d4f8bdc2fbabda9161a439539b067cea"), looks := false }, kinds := [], alts := [], laidByText := true, laidKinds := [.data, .data, .data], laidTests := true, laidLooks := .later }
def LeafOwnCardSaid : Prop := Claim7.holds Tryz.pinned (.plain (OpenSpec.ofChange leafOwnSpec)) leafOwnCard

/-- THE SECOND FORM's CARD OF 'coppicelaw3.KeysOwn'. -/
def keysOwnUptoCard : Claim7 := { stood := { row := keysOwnUptoRow, standIns := [], harness := (true, "347ce0c78ef5df4b3488fde7e0a2e207d4f8bdc2fbabda9161a439539b067cea"), looks := false }, kinds := [], alts := [], laidByText := true, laidKinds := [.data, .data, .data], laidTests := true, laidLooks := .later }
def KeysOwnUptoCardSaid : Prop := Claim7.holds Tryz.pinned (.plain (OpenSpec.upto keysOwnSpec)) keysOwnUptoCard

/-- THE SECOND FORM's CARD OF 'coppicelaw1.WireOwn'. -/
def wireOwnUptoCard : Claim7 := { stood := { row := wireOwnUptoRow, standIns := [], harness := (true, "347ce0c78ef5df4b3488fde7e0a2e207d4f8bdc2fbabda9161a439539b067cea"), looks := false }, kinds := [], alts := [], laidByText := true, laidKinds := [.data, .data, .data], laidTests := true, laidLooks := .later }
def WireOwnUptoCardSaid : Prop := Claim7.holds Tryz.pinned (.plain (OpenSpec.upto wireOwnSpec)) wireOwnUptoCard

/-- THE SECOND FORM's CARD OF 'coppicelaw6.ChainOwn'. -/
def chainOwnUptoCard : Claim7 := { stood := { row := chainOwnUptoRow, standIns := [], harness := (true, "347ce0c78ef5df4b3488fde7e0a2e207d4f8bdc2fbabda9161a439539b067cea"), looks := false }, kinds := [], alts := [], laidByText := true, laidKinds := [.data, .data, .data], laidTests := true, laidLooks := .later }
def ChainOwnUptoCardSaid : Prop := Claim7.holds Tryz.pinned (.plain (OpenSpec.upto chainOwnSpec)) chainOwnUptoCard

/-- THE SECOND FORM's CARD OF 'coppicelaw5.BranchOwns'. -/
def branchOwnsUptoCard : Claim7 := { stood := { row := branchOwnsUptoRow, standIns := [], harness := (true, "347ce0c78ef5df4b3488fde7e0a2e207d4f8bdc2fbabda9161a439539b067cea"), looks := false }, kinds := [], alts := [], laidByText := true, laidKinds := [.data, .data, .data], laidTests := true, laidLooks := .later }
def BranchOwnsUptoCardSaid : Prop := Claim7.holds Tryz.pinned (.plain (OpenSpec.upto branchOwnsSpec)) branchOwnsUptoCard

/-- THE SECOND FORM's CARD OF 'coppicelaw4.LeafOwn'. -/
def leafOwnUptoCard : Claim7 := { stood := { row := leafOwnUptoRow, standIns := [], harness := (true, "347ce0c78ef5df4b3488fde7e0a2e207d4f8bdc2fbabda9161a439539b067cea"), looks := false }, kinds := [], alts := [], laidByText := true, laidKinds := [.data, .data, .data], laidTests := true, laidLooks := .later }
def LeafOwnUptoCardSaid : Prop := Claim7.holds Tryz.pinned (.plain (OpenSpec.upto leafOwnSpec)) leafOwnUptoCard
end Rows
end Go.Proofs.YtmeakhiiebeneaaGreatDoor
