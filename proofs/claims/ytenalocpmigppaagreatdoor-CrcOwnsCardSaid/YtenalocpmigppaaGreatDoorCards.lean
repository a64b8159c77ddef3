/-
  DERIVED. GIVEN WITH THE SEED: THE CARDS: each row of YtenalocpmigppaaGreatDoorRows.lean that lists a variable, with what it lists TIED to the program's text (the seventh form; the later family's looks); each row that meets fmt, with fmt's text TOLD by the authors' own Lean function (tested against real Go, not proved from fmt's source: count such statements apart). THE CARD IS WHAT COUNTS. Prove the row's statement (the work); the ties are given (YtenalocpmigppaaGreatDoorTie.lean); close each card by the builder's one call (the guide's Derived/Test/ToyasCard.lean, 'card_holds'). Laid BY PROGRAM, IN A SANDBOX (cutbox-door.mjs). By AI agents, Wed Nov 11 2026. No macro, syntax, notation, axiom, sorry.
-/
import Derived.Test.YtenalocpmigppaaGreatDoorRows
import GoSem.ClaimSeven
namespace Go.Proofs.YtenalocpmigppaaGreatDoor
namespace Rows

/-- THE TIED CARD OF 'coppicelaw4.LeafOwn'. -/
def leafOwnCard : Claim7 := { stood := { row := leafOwnRow, standIns := [], harness := (true, "c170198af1e84d4829e2e8a3c2ca0e05ccc9d2412f311d54c73c247de51aff16"), looks := false }, kinds := [], alts := [], laidByText := true, laidKinds := [.data, .data, .data], laidTests := true, laidLooks := .later }
def LeafOwnCardSaid : Prop := Claim7.holds Tryz.pinned (.plain (OpenSpec.ofChange leafOwnSpec)) leafOwnCard

/-- THE TIED CARD OF 'coppicelaw2.CrcOwns'. -/
def crcOwnsCard : Claim7 := { stood := { row := crcOwnsRow, standIns := [], harness := (true, "c170198af1e84d4829e2e8a3c2ca0e05ccc9d2412f311d54c73c247de51aff16"), looks := false }, kinds := [], alts := [], laidByText := true, laidKinds := [.data, .data, .data, .data], laidTests := true, laidLooks := .later }
def CrcOwnsCardSaid : Prop := Claim7.holds Tryz.pinned (.plain (OpenSpec.ofChange crcOwnsSpec)) crcOwnsCard

/-- THE TIED CARD OF 'coppicelaw3.KeysOwn'. -/
def keysOwnCard : Claim7 := { stood := { row := keysOwnRow, standIns := [], harness := (true, "c170198af1e84d4829e2e8a3c2ca0e05ccc9d2412f311d54c73c247de51aff16"), looks := false }, kinds := [], alts := [], laidByText := true, laidKinds := [.data, .data, .data], laidTests := true, laidLooks := .later }
def KeysOwnCardSaid : Prop := Claim7.holds Tryz.pinned (.plain (OpenSpec.ofChange keysOwnSpec)) keysOwnCard

/-- THE TIED CARD OF 'coppicelaw7.MetaOwn'. -/
def metaOwnCard : Claim7 := { stood := { row := metaOwnRow, standIns := [], harness := (true, "c170198af1e84d4829e2e8a3c2ca0e05ccc9d2412f311d54c73c247de51aff16"), looks := false }, kinds := [], alts := [], laidByText := true, laidKinds := [.data, .data, .data, .data, .data], laidTests := true, laidLooks := .later }
def MetaOwnCardSaid : Prop := Claim7.holds Tryz.pinned (.plain (OpenSpec.ofChange metaOwnSpec)) metaOwnCard

/-- THE SECOND FORM's CARD OF 'coppicelaw4.LeafOwn'. -/
def leafOwnUptoCard : Claim7 := { stood := { row := leafOwnUptoRow, standIns := [], harness := (true, "c170198af1e84d4829e2e8a3c2ca0e05ccc9d2412f311d54c73c247de51aff16"), looks := false }, kinds := [], alts := [], laidByText := true, laidKinds := [.data, .data, .data], laidTests := true, laidLooks := .later }
def LeafOwnUptoCardSaid : Prop := Claim7.holds Tryz.pinned (.plain (OpenSpec.upto leafOwnSpec)) leafOwnUptoCard

/-- THE SECOND FORM's CARD OF 'coppicelaw2.CrcOwns'. -/
def crcOwnsUptoCard : Claim7 := { stood := { row := crcOwnsUptoRow, standIns := [], harness := (true, "c170198af1e84d4829e2e8a3c2ca0e05ccc9d2412f311d54c73c247de51aff16"), looks := false }, kinds := [], alts := [], laidByText := true, laidKinds := [.data, .data, .data, .data], laidTests := true, laidLooks := .later }
def CrcOwnsUptoCardSaid : Prop := Claim7.holds Tryz.pinned (.plain (OpenSpec.upto crcOwnsSpec)) crcOwnsUptoCard

/-- THE SECOND FORM's CARD OF 'coppicelaw3.KeysOwn'. -/
def keysOwnUptoCard : Claim7 := { stood := { row := keysOwnUptoRow, standIns := [], harness := (true, "c170198af1e84d4829e2e8a3c2ca0e05ccc9d2412f311d54c73c247de51aff16"), looks := false }, kinds := [], alts := [], laidByText := true, laidKinds := [.data, .data, .data], laidTests := true, laidLooks := .later }
def KeysOwnUptoCardSaid : Prop := Claim7.holds Tryz.pinned (.plain (OpenSpec.upto keysOwnSpec)) keysOwnUptoCard

/-- THE SECOND FORM's CARD OF 'coppicelaw7.MetaOwn'. -/
def metaOwnUptoCard : Claim7 := { stood := { row := metaOwnUptoRow, standIns := [], harness := (true, "c170198af1e84d4829e2e8a3c2ca0e05ccc9d2412f311d54c73c247de51aff16"), looks := false }, kinds := [], alts := [], laidByText := true, laidKinds := [.data, .data, .data, .data, .data], laidTests := true, laidLooks := .later }
def MetaOwnUptoCardSaid : Prop := Claim7.holds Tryz.pinned (.plain (OpenSpec.upto metaOwnSpec)) metaOwnUptoCard
end Rows
end Go.Proofs.YtenalocpmigppaaGreatDoor
