/-
  DERIVED. GIVEN WITH THE SEED: THE CARDS: each row of YtcibajleknhklaaDoorRows.lean that lists a variable, with what it lists TIED to the program's text (the seventh form; the later family's looks); each row that meets fmt, with fmt's text TOLD by the authors' own Lean function (tested against real Go, not proved from fmt's source: count such statements apart). THE CARD IS WHAT COUNTS. Prove the row's statement (the work); the ties are given (YtcibajleknhklaaDoorTie.lean); close each card by the builder's one call (the guide's Derived/Test/ToyasCard.lean, 'card_holds'). Laid BY PROGRAM, IN A SANDBOX (cutbox-door.mjs). By AI agents, Wed Nov 11 2026. No macro, syntax, notation, axiom, sorry.
-/
import Derived.Test.YtcibajleknhklaaDoorRows
import GoSem.ClaimSeven
namespace Go.Proofs.YtcibajleknhklaaDoor
namespace Rows

/-- THE TIED CARD OF 'spinetlaw21.FftPlans'. -/
def fftPlansCard : Claim7 := { stood := { row := fftPlansRow, standIns := [], harness := (true, "ae348317897b4f8711de699b2180ffb779772e4703cfa942f657876935132cc0"), looks := false }, kinds := [], alts := [], laidByText := true, laidKinds := [.data], laidTests := true, laidLooks := .later }
def FftPlansCardSaid : Prop := Claim7.holds Tryd.pinned (.plain (OpenSpec.ofChange fftPlansSpec)) fftPlansCard

/-- THE TIED CARD OF 'spinetlaw21.FftOrders'. -/
def fftOrdersCard : Claim7 := { stood := { row := fftOrdersRow, standIns := [], harness := (true, "ae348317897b4f8711de699b2180ffb779772e4703cfa942f657876935132cc0"), looks := false }, kinds := [], alts := [], laidByText := true, laidKinds := [.data], laidTests := true, laidLooks := .later }
def FftOrdersCardSaid : Prop := Claim7.holds Tryd.pinned (.plain (OpenSpec.ofChange fftOrdersSpec)) fftOrdersCard

/-- THE TIED CARD OF 'spinetlaw22.DctTwice'. -/
def dctTwiceCard : Claim7 := { stood := { row := dctTwiceRow, standIns := [], harness := (true, "ae348317897b4f8711de699b2180ffb779772e4703cfa942f657876935132cc0"), looks := false }, kinds := [], alts := [], laidByText := true, laidKinds := [.data], laidTests := true, laidLooks := .later }
def DctTwiceCardSaid : Prop := Claim7.holds Tryd.pinned (.plain (OpenSpec.ofChange dctTwiceSpec)) dctTwiceCard

/-- THE TIED CARD OF 'spinetlaw22.DctAdds'. -/
def dctAddsCard : Claim7 := { stood := { row := dctAddsRow, standIns := [], harness := (true, "ae348317897b4f8711de699b2180ffb779772e4703cfa942f657876935132cc0"), looks := false }, kinds := [], alts := [], laidByText := true, laidKinds := [.data], laidTests := true, laidLooks := .later }
def DctAddsCardSaid : Prop := Claim7.holds Tryd.pinned (.plain (OpenSpec.ofChange dctAddsSpec)) dctAddsCard

/-- THE TIED CARD OF 'spinetlaw21.FftAlike'. -/
def fftAlikeCard : Claim7 := { stood := { row := fftAlikeRow, standIns := [], harness := (true, "ae348317897b4f8711de699b2180ffb779772e4703cfa942f657876935132cc0"), looks := false }, kinds := [], alts := [], laidByText := true, laidKinds := [.data], laidTests := true, laidLooks := .later }
def FftAlikeCardSaid : Prop := Claim7.holds Tryd.pinned (.plain (OpenSpec.ofChange fftAlikeSpec)) fftAlikeCard

/-- THE TIED CARD OF 'spinetlaw15.ShareTells'. -/
def shareTellsCard : Claim7 := { stood := { row := shareTellsRow, standIns := [], harness := (true, "ae348317897b4f8711de699b2180ffb779772e4703cfa942f657876935132cc0"), looks := false }, kinds := [], alts := [], laidByText := true, laidKinds := [.data], laidTests := true, laidLooks := .later }
def ShareTellsCardSaid : Prop := Claim7.holds Tryd.pinned (.plain (OpenSpec.ofChange shareTellsSpec)) shareTellsCard

/-- THE TIED CARD OF 'spinetlaw15.ShareLogs'. -/
def shareLogsCard : Claim7 := { stood := { row := shareLogsRow, standIns := [], harness := (true, "ae348317897b4f8711de699b2180ffb779772e4703cfa942f657876935132cc0"), looks := false }, kinds := [], alts := [], laidByText := true, laidKinds := [.data], laidTests := true, laidLooks := .later }
def ShareLogsCardSaid : Prop := Claim7.holds Tryd.pinned (.plain (OpenSpec.ofChange shareLogsSpec)) shareLogsCard

/-- THE TIED CARD OF 'spinetlaw15.ShareSheet'. -/
def shareSheetCard : Claim7 := { stood := { row := shareSheetRow, standIns := [], harness := (true, "ae348317897b4f8711de699b2180ffb779772e4703cfa942f657876935132cc0"), looks := false }, kinds := [], alts := [], laidByText := true, laidKinds := [.data], laidTests := true, laidLooks := .later }
def ShareSheetCardSaid : Prop := Claim7.holds Tryd.pinned (.plain (OpenSpec.ofChange shareSheetSpec)) shareSheetCard

/-- THE TIED CARD OF 'spinetlaw22.DctAlike'. -/
def dctAlikeCard : Claim7 := { stood := { row := dctAlikeRow, standIns := [], harness := (true, "ae348317897b4f8711de699b2180ffb779772e4703cfa942f657876935132cc0"), looks := false }, kinds := [], alts := [], laidByText := true, laidKinds := [.data], laidTests := true, laidLooks := .later }
def DctAlikeCardSaid : Prop := Claim7.holds Tryd.pinned (.plain (OpenSpec.ofChange dctAlikeSpec)) dctAlikeCard

/-- THE TIED CARD OF 'spinetlaw15.ShareAlike'. -/
def shareAlikeCard : Claim7 := { stood := { row := shareAlikeRow, standIns := [], harness := (true, "ae348317897b4f8711de699b2180ffb779772e4703cfa942f657876935132cc0"), looks := false }, kinds := [], alts := [], laidByText := true, laidKinds := [.data], laidTests := true, laidLooks := .later }
def ShareAlikeCardSaid : Prop := Claim7.holds Tryd.pinned (.plain (OpenSpec.ofChange shareAlikeSpec)) shareAlikeCard

/-- THE TIED CARD OF 'spinetlaw26.StateApart'. -/
def stateApartCard : Claim7 := { stood := { row := stateApartRow, standIns := [], harness := (true, "ae348317897b4f8711de699b2180ffb779772e4703cfa942f657876935132cc0"), looks := false }, kinds := [], alts := [], laidByText := true, laidKinds := [.data, .data], laidTests := true, laidLooks := .later }
def StateApartCardSaid : Prop := Claim7.holds Tryd.pinned (.plain (OpenSpec.ofChange stateApartSpec)) stateApartCard

/-- THE TIED CARD OF 'spinetlaw26.StateFades'. -/
def stateFadesCard : Claim7 := { stood := { row := stateFadesRow, standIns := [], harness := (true, "ae348317897b4f8711de699b2180ffb779772e4703cfa942f657876935132cc0"), looks := false }, kinds := [], alts := [], laidByText := true, laidKinds := [.data, .data], laidTests := true, laidLooks := .later }
def StateFadesCardSaid : Prop := Claim7.holds Tryd.pinned (.plain (OpenSpec.ofChange stateFadesSpec)) stateFadesCard

/-- THE TIED CARD OF 'spinetlaw26.StateKeeps'. -/
def stateKeepsCard : Claim7 := { stood := { row := stateKeepsRow, standIns := [], harness := (true, "ae348317897b4f8711de699b2180ffb779772e4703cfa942f657876935132cc0"), looks := false }, kinds := [], alts := [], laidByText := true, laidKinds := [.data, .data], laidTests := true, laidLooks := .later }
def StateKeepsCardSaid : Prop := Claim7.holds Tryd.pinned (.plain (OpenSpec.ofChange stateKeepsSpec)) stateKeepsCard

/-- THE TIED CARD OF 'spinetlaw26.StateTells'. -/
def stateTellsCard : Claim7 := { stood := { row := stateTellsRow, standIns := [], harness := (true, "ae348317897b4f8711de699b2180ffb779772e4703cfa942f657876935132cc0"), looks := false }, kinds := [], alts := [], laidByText := true, laidKinds := [.data, .data], laidTests := true, laidLooks := .later }
def StateTellsCardSaid : Prop := Claim7.holds Tryd.pinned (.plain (OpenSpec.ofChange stateTellsSpec)) stateTellsCard

/-- THE SECOND FORM's CARD OF 'spinetlaw21.FftPlans'. -/
def fftPlansUptoCard : Claim7 := { stood := { row := fftPlansUptoRow, standIns := [], harness := (true, "ae348317897b4f8711de699b2180ffb779772e4703cfa942f657876935132cc0"), looks := false }, kinds := [], alts := [], laidByText := true, laidKinds := [.data], laidTests := true, laidLooks := .later }
def FftPlansUptoCardSaid : Prop := Claim7.holds Tryd.pinned (.plain (OpenSpec.upto fftPlansSpec)) fftPlansUptoCard

/-- THE SECOND FORM's CARD OF 'spinetlaw21.FftOrders'. -/
def fftOrdersUptoCard : Claim7 := { stood := { row := fftOrdersUptoRow, standIns := [], harness := (true, "ae348317897b4f8711de699b2180ffb779772e4703cfa942f657876935132cc0"), looks := false }, kinds := [], alts := [], laidByText := true, laidKinds := [.data], laidTests := true, laidLooks := .later }
def FftOrdersUptoCardSaid : Prop := Claim7.holds Tryd.pinned (.plain (OpenSpec.upto fftOrdersSpec)) fftOrdersUptoCard

/-- THE SECOND FORM's CARD OF 'spinetlaw22.DctTwice'. -/
def dctTwiceUptoCard : Claim7 := { stood := { row := dctTwiceUptoRow, standIns := [], harness := (true, "ae348317897b4f8711de699b2180ffb779772e4703cfa942f657876935132cc0"), looks := false }, kinds := [], alts := [], laidByText := true, laidKinds := [.data], laidTests := true, laidLooks := .later }
def DctTwiceUptoCardSaid : Prop := Claim7.holds Tryd.pinned (.plain (OpenSpec.upto dctTwiceSpec)) dctTwiceUptoCard

/-- THE SECOND FORM's CARD OF 'spinetlaw22.DctAdds'. -/
def dctAddsUptoCard : Claim7 := { stood := { row := dctAddsUptoRow, standIns := [], harness := (true, "ae348317897b4f8711de699b2180ffb779772e4703cfa942f657876935132cc0"), looks := false }, kinds := [], alts := [], laidByText := true, laidKinds := [.data], laidTests := true, laidLooks := .later }
def DctAddsUptoCardSaid : Prop := Claim7.holds Tryd.pinned (.plain (OpenSpec.upto dctAddsSpec)) dctAddsUptoCard

/-- THE SECOND FORM's CARD OF 'spinetlaw21.FftAlike'. -/
def fftAlikeUptoCard : Claim7 := { stood := { row := fftAlikeUptoRow, standIns := [], harness := (true, "ae348317897b4f8711de699b2180ffb779772e4703cfa942f657876935132cc0"), looks := false }, kinds := [], alts := [], laidByText := true, laidKinds := [.data], laidTests := true, laidLooks := .later }
def FftAlikeUptoCardSaid : Prop := Claim7.holds Tryd.pinned (.plain (OpenSpec.upto fftAlikeSpec)) fftAlikeUptoCard

/-- THE SECOND FORM's CARD OF 'spinetlaw15.ShareTells'. -/
def shareTellsUptoCard : Claim7 := { stood := { row := shareTellsUptoRow, standIns := [], harness := (true, "ae348317897b4f8711de699b2180ffb779772e4703cfa942f657876935132cc0"), looks := false }, kinds := [], alts := [], laidByText := true, laidKinds := [.data], laidTests := true, laidLooks := .later }
def ShareTellsUptoCardSaid : Prop := Claim7.holds Tryd.pinned (.plain (OpenSpec.upto shareTellsSpec)) shareTellsUptoCard

/-- THE SECOND FORM's CARD OF 'spinetlaw15.ShareLogs'. -/
def shareLogsUptoCard : Claim7 := { stood := { row := shareLogsUptoRow, standIns := [], harness := (true, "ae348317897b4f8711de699b2180ffb779772e4703cfa942f657876935132cc0"), looks := false }, kinds := [], alts := [], laidByText := true, laidKinds := [.data], laidTests := true, laidLooks := .later }
def ShareLogsUptoCardSaid : Prop := Claim7.holds Tryd.pinned (.plain (OpenSpec.upto shareLogsSpec)) shareLogsUptoCard

/-- THE SECOND FORM's CARD OF 'spinetlaw15.ShareSheet'. -/
def shareSheetUptoCard : Claim7 := { stood := { row := shareSheetUptoRow, standIns := [], harness := (true, "ae348317897b4f8711de699b2180ffb779772e4703cfa942f657876935132cc0"), looks := false }, kinds := [], alts := [], laidByText := true, laidKinds := [.data], laidTests := true, laidLooks := .later }
def ShareSheetUptoCardSaid : Prop := Claim7.holds Tryd.pinned (.plain (OpenSpec.upto shareSheetSpec)) shareSheetUptoCard

/-- THE SECOND FORM's CARD OF 'spinetlaw22.DctAlike'. -/
def dctAlikeUptoCard : Claim7 := { stood := { row := dctAlikeUptoRow, standIns := [], harness := (true, "ae348317897b4f8711de699b2180ffb779772e4703cfa942f657876935132cc0"), looks := false }, kinds := [], alts := [], laidByText := true, laidKinds := [.data], laidTests := true, laidLooks := .later }
def DctAlikeUptoCardSaid : Prop := Claim7.holds Tryd.pinned (.plain (OpenSpec.upto dctAlikeSpec)) dctAlikeUptoCard

/-- THE SECOND FORM's CARD OF 'spinetlaw15.ShareAlike'. -/
def shareAlikeUptoCard : Claim7 := { stood := { row := shareAlikeUptoRow, standIns := [], harness := (true, "ae348317897b4f8711de699b2180ffb779772e4703cfa942f657876935132cc0"), looks := false }, kinds := [], alts := [], laidByText := true, laidKinds := [.data], laidTests := true, laidLooks := .later }
def ShareAlikeUptoCardSaid : Prop := Claim7.holds Tryd.pinned (.plain (OpenSpec.upto shareAlikeSpec)) shareAlikeUptoCard

/-- THE SECOND FORM's CARD OF 'spinetlaw26.StateApart'. -/
def stateApartUptoCard : Claim7 := { stood := { row := stateApartUptoRow, standIns := [], harness := (true, "ae348317897b4f8711de699b2180ffb779772e4703cfa942f657876935132cc0"), looks := false }, kinds := [], alts := [], laidByText := true, laidKinds := [.data, .data], laidTests := true, laidLooks := .later }
def StateApartUptoCardSaid : Prop := Claim7.holds Tryd.pinned (.plain (OpenSpec.upto stateApartSpec)) stateApartUptoCard

/-- THE SECOND FORM's CARD OF 'spinetlaw26.StateFades'. -/
def stateFadesUptoCard : Claim7 := { stood := { row := stateFadesUptoRow, standIns := [], harness := (true, "ae348317897b4f8711de699b2180ffb779772e4703cfa942f657876935132cc0"), looks := false }, kinds := [], alts := [], laidByText := true, laidKinds := [.data, .data], laidTests := true, laidLooks := .later }
def StateFadesUptoCardSaid : Prop := Claim7.holds Tryd.pinned (.plain (OpenSpec.upto stateFadesSpec)) stateFadesUptoCard

/-- THE SECOND FORM's CARD OF 'spinetlaw26.StateKeeps'. -/
def stateKeepsUptoCard : Claim7 := { stood := { row := stateKeepsUptoRow, standIns := [], harness := (true, "ae348317897b4f8711de699b2180ffb779772e4703cfa942f657876935132cc0"), looks := false }, kinds := [], alts := [], laidByText := true, laidKinds := [.data, .data], laidTests := true, laidLooks := .later }
def StateKeepsUptoCardSaid : Prop := Claim7.holds Tryd.pinned (.plain (OpenSpec.upto stateKeepsSpec)) stateKeepsUptoCard

/-- THE SECOND FORM's CARD OF 'spinetlaw26.StateTells'. -/
def stateTellsUptoCard : Claim7 := { stood := { row := stateTellsUptoRow, standIns := [], harness := (true, "ae348317897b4f8711de699b2180ffb779772e4703cfa942f657876935132cc0"), looks := false }, kinds := [], alts := [], laidByText := true, laidKinds := [.data, .data], laidTests := true, laidLooks := .later }
def StateTellsUptoCardSaid : Prop := Claim7.holds Tryd.pinned (.plain (OpenSpec.upto stateTellsSpec)) stateTellsUptoCard
end Rows
end Go.Proofs.YtcibajleknhklaaDoor
