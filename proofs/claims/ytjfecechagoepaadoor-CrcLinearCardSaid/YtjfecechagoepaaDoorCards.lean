/-
  DERIVED. GIVEN WITH THE SEED: THE CARDS: each row of YtjfecechagoepaaDoorRows.lean that lists a variable, with what it lists TIED to the program's text (the seventh form; the later family's looks); each row that meets fmt, with fmt's text TOLD by the authors' own Lean function (tested against real Go, not proved from fmt's source: count such statements apart). THE CARD IS WHAT COUNTS. Prove the row's statement (the work); the ties are given (YtjfecechagoepaaDoorTie.lean); close each card by the builder's one call (the guide's Derived/Test/ToyasCard.lean, 'card_holds'). Laid BY PROGRAM, IN A SANDBOX (cutbox-door.mjs). By AI agents, Wed Nov 11 2026. No macro, syntax, notation, axiom, sorry.
-/
import Derived.Test.YtjfecechagoepaaDoorRows
import GoSem.ClaimSeven
namespace Go.Proofs.YtjfecechagoepaaDoor
namespace Rows

/-- THE TIED CARD OF 'coppicelaw2.CrcSums'. -/
def crcSumsCard : Claim7 := { stood := { row := crcSumsRow, standIns := [], harness := (true, "141ff1bb2116f7db6dd9dc8c35fc5a6e93e90c3dc6e81b9ab73d8a171e69769a"), looks := false }, kinds := [], alts := [], laidByText := true, laidKinds := [.data], laidTests := true, laidLooks := .later }
def CrcSumsCardSaid : Prop := Claim7.holds Tryd.pinned (.plain (OpenSpec.ofChange crcSumsSpec)) crcSumsCard

/-- THE TIED CARD OF 'coppicelaw2.CrcUpdates'. -/
def crcUpdatesCard : Claim7 := { stood := { row := crcUpdatesRow, standIns := [], harness := (true, "141ff1bb2116f7db6dd9dc8c35fc5a6e93e90c3dc6e81b9ab73d8a171e69769a"), looks := false }, kinds := [], alts := [], laidByText := true, laidKinds := [.data], laidTests := true, laidLooks := .later }
def CrcUpdatesCardSaid : Prop := Claim7.holds Tryd.pinned (.plain (OpenSpec.ofChange crcUpdatesSpec)) crcUpdatesCard

/-- THE TIED CARD OF 'coppicelaw2.CrcSeals'. -/
def crcSealsCard : Claim7 := { stood := { row := crcSealsRow, standIns := [], harness := (true, "141ff1bb2116f7db6dd9dc8c35fc5a6e93e90c3dc6e81b9ab73d8a171e69769a"), looks := false }, kinds := [], alts := [], laidByText := true, laidKinds := [.data], laidTests := true, laidLooks := .later }
def CrcSealsCardSaid : Prop := Claim7.holds Tryd.pinned (.plain (OpenSpec.ofChange crcSealsSpec)) crcSealsCard

/-- THE TIED CARD OF 'coppicelaw2.CrcOpens'. -/
def crcOpensCard : Claim7 := { stood := { row := crcOpensRow, standIns := [], harness := (true, "141ff1bb2116f7db6dd9dc8c35fc5a6e93e90c3dc6e81b9ab73d8a171e69769a"), looks := false }, kinds := [], alts := [], laidByText := true, laidKinds := [.data], laidTests := true, laidLooks := .later }
def CrcOpensCardSaid : Prop := Claim7.holds Tryd.pinned (.plain (OpenSpec.ofChange crcOpensSpec)) crcOpensCard

/-- THE TIED CARD OF 'coppicelaw2.CrcJoins'. -/
def crcJoinsCard : Claim7 := { stood := { row := crcJoinsRow, standIns := [], harness := (true, "141ff1bb2116f7db6dd9dc8c35fc5a6e93e90c3dc6e81b9ab73d8a171e69769a"), looks := false }, kinds := [], alts := [], laidByText := true, laidKinds := [.data], laidTests := true, laidLooks := .later }
def CrcJoinsCardSaid : Prop := Claim7.holds Tryd.pinned (.plain (OpenSpec.ofChange crcJoinsSpec)) crcJoinsCard

/-- THE TIED CARD OF 'coppicelaw2.CrcBehind'. -/
def crcBehindCard : Claim7 := { stood := { row := crcBehindRow, standIns := [], harness := (true, "141ff1bb2116f7db6dd9dc8c35fc5a6e93e90c3dc6e81b9ab73d8a171e69769a"), looks := false }, kinds := [], alts := [], laidByText := true, laidKinds := [.data], laidTests := true, laidLooks := .later }
def CrcBehindCardSaid : Prop := Claim7.holds Tryd.pinned (.plain (OpenSpec.ofChange crcBehindSpec)) crcBehindCard

/-- THE TIED CARD OF 'coppicelaw2.CrcBack'. -/
def crcBackCard : Claim7 := { stood := { row := crcBackRow, standIns := [], harness := (true, "141ff1bb2116f7db6dd9dc8c35fc5a6e93e90c3dc6e81b9ab73d8a171e69769a"), looks := false }, kinds := [], alts := [], laidByText := true, laidKinds := [.data], laidTests := true, laidLooks := .later }
def CrcBackCardSaid : Prop := Claim7.holds Tryd.pinned (.plain (OpenSpec.ofChange crcBackSpec)) crcBackCard

/-- THE TIED CARD OF 'coppicelaw2.CrcBurst'. -/
def crcBurstCard : Claim7 := { stood := { row := crcBurstRow, standIns := [], harness := (true, "141ff1bb2116f7db6dd9dc8c35fc5a6e93e90c3dc6e81b9ab73d8a171e69769a"), looks := false }, kinds := [], alts := [], laidByText := true, laidKinds := [.data], laidTests := true, laidLooks := .later }
def CrcBurstCardSaid : Prop := Claim7.holds Tryd.pinned (.plain (OpenSpec.ofChange crcBurstSpec)) crcBurstCard

/-- THE TIED CARD OF 'coppicelaw2.CrcTwo'. -/
def crcTwoCard : Claim7 := { stood := { row := crcTwoRow, standIns := [], harness := (true, "141ff1bb2116f7db6dd9dc8c35fc5a6e93e90c3dc6e81b9ab73d8a171e69769a"), looks := false }, kinds := [], alts := [], laidByText := true, laidKinds := [.data], laidTests := true, laidLooks := .later }
def CrcTwoCardSaid : Prop := Claim7.holds Tryd.pinned (.plain (OpenSpec.ofChange crcTwoSpec)) crcTwoCard

/-- THE TIED CARD OF 'coppicelaw2.CrcLinear'. -/
def crcLinearCard : Claim7 := { stood := { row := crcLinearRow, standIns := [], harness := (true, "141ff1bb2116f7db6dd9dc8c35fc5a6e93e90c3dc6e81b9ab73d8a171e69769a"), looks := false }, kinds := [], alts := [], laidByText := true, laidKinds := [.data], laidTests := true, laidLooks := .later }
def CrcLinearCardSaid : Prop := Claim7.holds Tryd.pinned (.plain (OpenSpec.ofChange crcLinearSpec)) crcLinearCard

/-- THE SECOND FORM's CARD OF 'coppicelaw2.CrcSums'. -/
def crcSumsUptoCard : Claim7 := { stood := { row := crcSumsUptoRow, standIns := [], harness := (true, "141ff1bb2116f7db6dd9dc8c35fc5a6e93e90c3dc6e81b9ab73d8a171e69769a"), looks := false }, kinds := [], alts := [], laidByText := true, laidKinds := [.data], laidTests := true, laidLooks := .later }
def CrcSumsUptoCardSaid : Prop := Claim7.holds Tryd.pinned (.plain (OpenSpec.upto crcSumsSpec)) crcSumsUptoCard

/-- THE SECOND FORM's CARD OF 'coppicelaw2.CrcUpdates'. -/
def crcUpdatesUptoCard : Claim7 := { stood := { row := crcUpdatesUptoRow, standIns := [], harness := (true, "141ff1bb2116f7db6dd9dc8c35fc5a6e93e90c3dc6e81b9ab73d8a171e69769a"), looks := false }, kinds := [], alts := [], laidByText := true, laidKinds := [.data], laidTests := true, laidLooks := .later }
def CrcUpdatesUptoCardSaid : Prop := Claim7.holds Tryd.pinned (.plain (OpenSpec.upto crcUpdatesSpec)) crcUpdatesUptoCard

/-- THE SECOND FORM's CARD OF 'coppicelaw2.CrcSeals'. -/
def crcSealsUptoCard : Claim7 := { stood := { row := crcSealsUptoRow, standIns := [], harness := (true, "141ff1bb2116f7db6dd9dc8c35fc5a6e93e90c3dc6e81b9ab73d8a171e69769a"), looks := false }, kinds := [], alts := [], laidByText := true, laidKinds := [.data], laidTests := true, laidLooks := .later }
def CrcSealsUptoCardSaid : Prop := Claim7.holds Tryd.pinned (.plain (OpenSpec.upto crcSealsSpec)) crcSealsUptoCard

/-- THE SECOND FORM's CARD OF 'coppicelaw2.CrcOpens'. -/
def crcOpensUptoCard : Claim7 := { stood := { row := crcOpensUptoRow, standIns := [], harness := (true, "141ff1bb2116f7db6dd9dc8c35fc5a6e93e90c3dc6e81b9ab73d8a171e69769a"), looks := false }, kinds := [], alts := [], laidByText := true, laidKinds := [.data], laidTests := true, laidLooks := .later }
def CrcOpensUptoCardSaid : Prop := Claim7.holds Tryd.pinned (.plain (OpenSpec.upto crcOpensSpec)) crcOpensUptoCard

/-- THE SECOND FORM's CARD OF 'coppicelaw2.CrcJoins'. -/
def crcJoinsUptoCard : Claim7 := { stood := { row := crcJoinsUptoRow, standIns := [], harness := (true, "141ff1bb2116f7db6dd9dc8c35fc5a6e93e90c3dc6e81b9ab73d8a171e69769a"), looks := false }, kinds := [], alts := [], laidByText := true, laidKinds := [.data], laidTests := true, laidLooks := .later }
def CrcJoinsUptoCardSaid : Prop := Claim7.holds Tryd.pinned (.plain (OpenSpec.upto crcJoinsSpec)) crcJoinsUptoCard

/-- THE SECOND FORM's CARD OF 'coppicelaw2.CrcBehind'. -/
def crcBehindUptoCard : Claim7 := { stood := { row := crcBehindUptoRow, standIns := [], harness := (true, "141ff1bb2116f7db6dd9dc8c35fc5a6e93e90c3dc6e81b9ab73d8a171e69769a"), looks := false }, kinds := [], alts := [], laidByText := true, laidKinds := [.data], laidTests := true, laidLooks := .later }
def CrcBehindUptoCardSaid : Prop := Claim7.holds Tryd.pinned (.plain (OpenSpec.upto crcBehindSpec)) crcBehindUptoCard

/-- THE SECOND FORM's CARD OF 'coppicelaw2.CrcBack'. -/
def crcBackUptoCard : Claim7 := { stood := { row := crcBackUptoRow, standIns := [], harness := (true, "141ff1bb2116f7db6dd9dc8c35fc5a6e93e90c3dc6e81b9ab73d8a171e69769a"), looks := false }, kinds := [], alts := [], laidByText := true, laidKinds := [.data], laidTests := true, laidLooks := .later }
def CrcBackUptoCardSaid : Prop := Claim7.holds Tryd.pinned (.plain (OpenSpec.upto crcBackSpec)) crcBackUptoCard

/-- THE SECOND FORM's CARD OF 'coppicelaw2.CrcBurst'. -/
def crcBurstUptoCard : Claim7 := { stood := { row := crcBurstUptoRow, standIns := [], harness := (true, "141ff1bb2116f7db6dd9dc8c35fc5a6e93e90c3dc6e81b9ab73d8a171e69769a"), looks := false }, kinds := [], alts := [], laidByText := true, laidKinds := [.data], laidTests := true, laidLooks := .later }
def CrcBurstUptoCardSaid : Prop := Claim7.holds Tryd.pinned (.plain (OpenSpec.upto crcBurstSpec)) crcBurstUptoCard

/-- THE SECOND FORM's CARD OF 'coppicelaw2.CrcTwo'. -/
def crcTwoUptoCard : Claim7 := { stood := { row := crcTwoUptoRow, standIns := [], harness := (true, "141ff1bb2116f7db6dd9dc8c35fc5a6e93e90c3dc6e81b9ab73d8a171e69769a"), looks := false }, kinds := [], alts := [], laidByText := true, laidKinds := [.data], laidTests := true, laidLooks := .later }
def CrcTwoUptoCardSaid : Prop := Claim7.holds Tryd.pinned (.plain (OpenSpec.upto crcTwoSpec)) crcTwoUptoCard

/-- THE SECOND FORM's CARD OF 'coppicelaw2.CrcLinear'. -/
def crcLinearUptoCard : Claim7 := { stood := { row := crcLinearUptoRow, standIns := [], harness := (true, "141ff1bb2116f7db6dd9dc8c35fc5a6e93e90c3dc6e81b9ab73d8a171e69769a"), looks := false }, kinds := [], alts := [], laidByText := true, laidKinds := [.data], laidTests := true, laidLooks := .later }
def CrcLinearUptoCardSaid : Prop := Claim7.holds Tryd.pinned (.plain (OpenSpec.upto crcLinearSpec)) crcLinearUptoCard
end Rows
end Go.Proofs.YtjfecechagoepaaDoor
