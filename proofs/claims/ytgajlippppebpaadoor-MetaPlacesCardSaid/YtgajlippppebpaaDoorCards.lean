/-
  DERIVED. GIVEN WITH THE SEED: THE CARDS: each row of YtgajlippppebpaaDoorRows.lean that lists a variable, with what it lists TIED to the program's text (the seventh form; the later family's looks); each row that meets fmt, with fmt's text TOLD by the authors' own Lean function (tested against real Go, not proved from fmt's source: count such statements apart). THE CARD IS WHAT COUNTS. Prove the row's statement (the work); the ties are given (YtgajlippppebpaaDoorTie.lean); close each card by the builder's one call (the guide's Derived/Test/ToyasCard.lean, 'card_holds'). Laid BY PROGRAM, IN A SANDBOX (cutbox-door.mjs). By AI agents, Wed Nov 11 2026. No macro, syntax, notation, axiom, sorry.
-/
import Derived.Test.YtgajlippppebpaaDoorRows
import GoSem.ClaimSeven
namespace Go.Proofs.YtgajlippppebpaaDoor
namespace Rows

/-- THE TIED CARD OF 'coppicelaw7.MetaEncodes'. -/
def metaEncodesCard : Claim7 := { stood := { row := metaEncodesRow, standIns := [], harness := (true, "7f60f557387b9d94257e936f48c8d1ae177abfed82299a9462977b8e3f5389bb"), looks := false }, kinds := [], alts := [], laidByText := true, laidKinds := [.data, .data], laidTests := true, laidLooks := .later }
def MetaEncodesCardSaid : Prop := Claim7.holds Tryd.pinned (.plain (OpenSpec.ofChange metaEncodesSpec)) metaEncodesCard

/-- THE TIED CARD OF 'coppicelaw7.MetaDecodes'. -/
def metaDecodesCard : Claim7 := { stood := { row := metaDecodesRow, standIns := [], harness := (true, "7f60f557387b9d94257e936f48c8d1ae177abfed82299a9462977b8e3f5389bb"), looks := false }, kinds := [], alts := [], laidByText := true, laidKinds := [.data, .data], laidTests := true, laidLooks := .later }
def MetaDecodesCardSaid : Prop := Claim7.holds Tryd.pinned (.plain (OpenSpec.ofChange metaDecodesSpec)) metaDecodesCard

/-- THE TIED CARD OF 'coppicelaw7.MetaNewers'. -/
def metaNewersCard : Claim7 := { stood := { row := metaNewersRow, standIns := [], harness := (true, "7f60f557387b9d94257e936f48c8d1ae177abfed82299a9462977b8e3f5389bb"), looks := false }, kinds := [], alts := [], laidByText := true, laidKinds := [.data, .data], laidTests := true, laidLooks := .later }
def MetaNewersCardSaid : Prop := Claim7.holds Tryd.pinned (.plain (OpenSpec.ofChange metaNewersSpec)) metaNewersCard

/-- THE TIED CARD OF 'coppicelaw7.MetaCounts'. -/
def metaCountsCard : Claim7 := { stood := { row := metaCountsRow, standIns := [], harness := (true, "7f60f557387b9d94257e936f48c8d1ae177abfed82299a9462977b8e3f5389bb"), looks := false }, kinds := [], alts := [], laidByText := true, laidKinds := [.data, .data], laidTests := true, laidLooks := .later }
def MetaCountsCardSaid : Prop := Claim7.holds Tryd.pinned (.plain (OpenSpec.ofChange metaCountsSpec)) metaCountsCard

/-- THE TIED CARD OF 'coppicelaw7.MetaBack'. -/
def metaBackCard : Claim7 := { stood := { row := metaBackRow, standIns := [], harness := (true, "7f60f557387b9d94257e936f48c8d1ae177abfed82299a9462977b8e3f5389bb"), looks := false }, kinds := [], alts := [], laidByText := true, laidKinds := [.data, .data], laidTests := true, laidLooks := .later }
def MetaBackCardSaid : Prop := Claim7.holds Tryd.pinned (.plain (OpenSpec.ofChange metaBackSpec)) metaBackCard

/-- THE TIED CARD OF 'coppicelaw7.MetaTorn'. -/
def metaTornCard : Claim7 := { stood := { row := metaTornRow, standIns := [], harness := (true, "7f60f557387b9d94257e936f48c8d1ae177abfed82299a9462977b8e3f5389bb"), looks := false }, kinds := [], alts := [], laidByText := true, laidKinds := [.data, .data], laidTests := true, laidLooks := .later }
def MetaTornCardSaid : Prop := Claim7.holds Tryd.pinned (.plain (OpenSpec.ofChange metaTornSpec)) metaTornCard

/-- THE TIED CARD OF 'coppicelaw7.MetaPlaces'. -/
def metaPlacesCard : Claim7 := { stood := { row := metaPlacesRow, standIns := [], harness := (true, "7f60f557387b9d94257e936f48c8d1ae177abfed82299a9462977b8e3f5389bb"), looks := false }, kinds := [], alts := [], laidByText := true, laidKinds := [.data, .data], laidTests := true, laidLooks := .later }
def MetaPlacesCardSaid : Prop := Claim7.holds Tryd.pinned (.plain (OpenSpec.ofChange metaPlacesSpec)) metaPlacesCard

/-- THE SECOND FORM's CARD OF 'coppicelaw7.MetaEncodes'. -/
def metaEncodesUptoCard : Claim7 := { stood := { row := metaEncodesUptoRow, standIns := [], harness := (true, "7f60f557387b9d94257e936f48c8d1ae177abfed82299a9462977b8e3f5389bb"), looks := false }, kinds := [], alts := [], laidByText := true, laidKinds := [.data, .data], laidTests := true, laidLooks := .later }
def MetaEncodesUptoCardSaid : Prop := Claim7.holds Tryd.pinned (.plain (OpenSpec.upto metaEncodesSpec)) metaEncodesUptoCard

/-- THE SECOND FORM's CARD OF 'coppicelaw7.MetaDecodes'. -/
def metaDecodesUptoCard : Claim7 := { stood := { row := metaDecodesUptoRow, standIns := [], harness := (true, "7f60f557387b9d94257e936f48c8d1ae177abfed82299a9462977b8e3f5389bb"), looks := false }, kinds := [], alts := [], laidByText := true, laidKinds := [.data, .data], laidTests := true, laidLooks := .later }
def MetaDecodesUptoCardSaid : Prop := Claim7.holds Tryd.pinned (.plain (OpenSpec.upto metaDecodesSpec)) metaDecodesUptoCard

/-- THE SECOND FORM's CARD OF 'coppicelaw7.MetaNewers'. -/
def metaNewersUptoCard : Claim7 := { stood := { row := metaNewersUptoRow, standIns := [], harness := (true, "7f60f557387b9d94257e936f48c8d1ae177abfed82299a9462977b8e3f5389bb"), looks := false }, kinds := [], alts := [], laidByText := true, laidKinds := [.data, .data], laidTests := true, laidLooks := .later }
def MetaNewersUptoCardSaid : Prop := Claim7.holds Tryd.pinned (.plain (OpenSpec.upto metaNewersSpec)) metaNewersUptoCard

/-- THE SECOND FORM's CARD OF 'coppicelaw7.MetaCounts'. -/
def metaCountsUptoCard : Claim7 := { stood := { row := metaCountsUptoRow, standIns := [], harness := (true, "7f60f557387b9d94257e936f48c8d1ae177abfed82299a9462977b8e3f5389bb"), looks := false }, kinds := [], alts := [], laidByText := true, laidKinds := [.data, .data], laidTests := true, laidLooks := .later }
def MetaCountsUptoCardSaid : Prop := Claim7.holds Tryd.pinned (.plain (OpenSpec.upto metaCountsSpec)) metaCountsUptoCard

/-- THE SECOND FORM's CARD OF 'coppicelaw7.MetaBack'. -/
def metaBackUptoCard : Claim7 := { stood := { row := metaBackUptoRow, standIns := [], harness := (true, "7f60f557387b9d94257e936f48c8d1ae177abfed82299a9462977b8e3f5389bb"), looks := false }, kinds := [], alts := [], laidByText := true, laidKinds := [.data, .data], laidTests := true, laidLooks := .later }
def MetaBackUptoCardSaid : Prop := Claim7.holds Tryd.pinned (.plain (OpenSpec.upto metaBackSpec)) metaBackUptoCard

/-- THE SECOND FORM's CARD OF 'coppicelaw7.MetaTorn'. -/
def metaTornUptoCard : Claim7 := { stood := { row := metaTornUptoRow, standIns := [], harness := (true, "7f60f557387b9d94257e936f48c8d1ae177abfed82299a9462977b8e3f5389bb"), looks := false }, kinds := [], alts := [], laidByText := true, laidKinds := [.data, .data], laidTests := true, laidLooks := .later }
def MetaTornUptoCardSaid : Prop := Claim7.holds Tryd.pinned (.plain (OpenSpec.upto metaTornSpec)) metaTornUptoCard

/-- THE SECOND FORM's CARD OF 'coppicelaw7.MetaPlaces'. -/
def metaPlacesUptoCard : Claim7 := { stood := { row := metaPlacesUptoRow, standIns := [], harness := (true, "7f60f557387b9d94257e936f48c8d1ae177abfed82299a9462977b8e3f5389bb"), looks := false }, kinds := [], alts := [], laidByText := true, laidKinds := [.data, .data], laidTests := true, laidLooks := .later }
def MetaPlacesUptoCardSaid : Prop := Claim7.holds Tryd.pinned (.plain (OpenSpec.upto metaPlacesSpec)) metaPlacesUptoCard
end Rows
end Go.Proofs.YtgajlippppebpaaDoor
