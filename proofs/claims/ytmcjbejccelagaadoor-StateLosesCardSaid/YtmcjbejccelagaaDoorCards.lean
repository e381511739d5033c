/-
  DERIVED. GIVEN WITH THE SEED: THE CARDS: each row of YtmcjbejccelagaaDoorRows.lean that lists a variable, with what it lists TIED to the program's text (the seventh form; the later family's looks); each row that meets fmt, with fmt's text TOLD by the authors' own Lean function (tested against real Go, not proved from fmt's source: count such statements apart). THE CARD IS WHAT COUNTS. Prove the row's statement (the work); the ties are given (YtmcjbejccelagaaDoorTie.lean); close each card by the builder's one call (the guide's Derived/Test/ToyasCard.lean, 'card_holds'). Laid BY PROGRAM, IN A SANDBOX (cutbox-door.mjs). By AI agents, Wed Nov 11 2026. No macro, syntax, notation, axiom, sorry.
-/
import Derived.Test.YtmcjbejccelagaaDoorRows
import GoSem.ClaimSeven
namespace Go.Proofs.YtmcjbejccelagaaDoor
namespace Rows

/-- THE TIED CARD OF 'spinetlaw26.StateLoses'. -/
def stateLosesCard : Claim7 := { stood := { row := stateLosesRow, standIns := [], harness := (true, "afcb1a8be3a03c4a2f6d0e7de4c5c372479681309a25fd15814696aeb44f375e"), looks := false }, kinds := [], alts := [], laidByText := true, laidKinds := [.data], laidTests := true, laidLooks := .later }
def StateLosesCardSaid : Prop := Claim7.holds Tryd.pinned (.plain (OpenSpec.ofChange stateLosesSpec)) stateLosesCard

/-- THE TIED CARD OF 'spinetlaw20.CisWeights'. -/
def cisWeightsCard : Claim7 := { stood := { row := cisWeightsRow, standIns := [], harness := (true, "afcb1a8be3a03c4a2f6d0e7de4c5c372479681309a25fd15814696aeb44f375e"), looks := false }, kinds := [], alts := [], laidByText := true, laidKinds := [.data], laidTests := true, laidLooks := .later }
def CisWeightsCardSaid : Prop := Claim7.holds Tryd.pinned (.plain (OpenSpec.ofChange cisWeightsSpec)) cisWeightsCard

/-- THE TIED CARD OF 'spinetlaw20.CisRounds'. -/
def cisRoundsCard : Claim7 := { stood := { row := cisRoundsRow, standIns := [], harness := (true, "afcb1a8be3a03c4a2f6d0e7de4c5c372479681309a25fd15814696aeb44f375e"), looks := false }, kinds := [], alts := [], laidByText := true, laidKinds := [.data], laidTests := true, laidLooks := .later }
def CisRoundsCardSaid : Prop := Claim7.holds Tryd.pinned (.plain (OpenSpec.ofChange cisRoundsSpec)) cisRoundsCard

/-- THE TIED CARD OF 'spinetlaw20.CisAdds'. -/
def cisAddsCard : Claim7 := { stood := { row := cisAddsRow, standIns := [], harness := (true, "afcb1a8be3a03c4a2f6d0e7de4c5c372479681309a25fd15814696aeb44f375e"), looks := false }, kinds := [], alts := [], laidByText := true, laidKinds := [.data], laidTests := true, laidLooks := .later }
def CisAddsCardSaid : Prop := Claim7.holds Tryd.pinned (.plain (OpenSpec.ofChange cisAddsSpec)) cisAddsCard

/-- THE TIED CARD OF 'spinetlaw14.AllocTells'. -/
def allocTellsCard : Claim7 := { stood := { row := allocTellsRow, standIns := [], harness := (true, "afcb1a8be3a03c4a2f6d0e7de4c5c372479681309a25fd15814696aeb44f375e"), looks := false }, kinds := [], alts := [], laidByText := true, laidKinds := [.data], laidTests := true, laidLooks := .later }
def AllocTellsCardSaid : Prop := Claim7.holds Tryd.pinned (.plain (OpenSpec.ofChange allocTellsSpec)) allocTellsCard

/-- THE TIED CARD OF 'spinetlaw14.AllocTotals'. -/
def allocTotalsCard : Claim7 := { stood := { row := allocTotalsRow, standIns := [], harness := (true, "afcb1a8be3a03c4a2f6d0e7de4c5c372479681309a25fd15814696aeb44f375e"), looks := false }, kinds := [], alts := [], laidByText := true, laidKinds := [.data], laidTests := true, laidLooks := .later }
def AllocTotalsCardSaid : Prop := Claim7.holds Tryd.pinned (.plain (OpenSpec.ofChange allocTotalsSpec)) allocTotalsCard

/-- THE TIED CARD OF 'spinetlaw14.AllocFits'. -/
def allocFitsCard : Claim7 := { stood := { row := allocFitsRow, standIns := [], harness := (true, "afcb1a8be3a03c4a2f6d0e7de4c5c372479681309a25fd15814696aeb44f375e"), looks := false }, kinds := [], alts := [], laidByText := true, laidKinds := [.data], laidTests := true, laidLooks := .later }
def AllocFitsCardSaid : Prop := Claim7.holds Tryd.pinned (.plain (OpenSpec.ofChange allocFitsSpec)) allocFitsCard

/-- THE TIED CARD OF 'spinetlaw14.AllocMore'. -/
def allocMoreCard : Claim7 := { stood := { row := allocMoreRow, standIns := [], harness := (true, "afcb1a8be3a03c4a2f6d0e7de4c5c372479681309a25fd15814696aeb44f375e"), looks := false }, kinds := [], alts := [], laidByText := true, laidKinds := [.data], laidTests := true, laidLooks := .later }
def AllocMoreCardSaid : Prop := Claim7.holds Tryd.pinned (.plain (OpenSpec.ofChange allocMoreSpec)) allocMoreCard

/-- THE TIED CARD OF 'spinetlaw14.AllocChans'. -/
def allocChansCard : Claim7 := { stood := { row := allocChansRow, standIns := [], harness := (true, "afcb1a8be3a03c4a2f6d0e7de4c5c372479681309a25fd15814696aeb44f375e"), looks := false }, kinds := [], alts := [], laidByText := true, laidKinds := [.data], laidTests := true, laidLooks := .later }
def AllocChansCardSaid : Prop := Claim7.holds Tryd.pinned (.plain (OpenSpec.ofChange allocChansSpec)) allocChansCard

/-- THE SECOND FORM's CARD OF 'spinetlaw26.StateLoses'. -/
def stateLosesUptoCard : Claim7 := { stood := { row := stateLosesUptoRow, standIns := [], harness := (true, "afcb1a8be3a03c4a2f6d0e7de4c5c372479681309a25fd15814696aeb44f375e"), looks := false }, kinds := [], alts := [], laidByText := true, laidKinds := [.data], laidTests := true, laidLooks := .later }
def StateLosesUptoCardSaid : Prop := Claim7.holds Tryd.pinned (.plain (OpenSpec.upto stateLosesSpec)) stateLosesUptoCard

/-- THE SECOND FORM's CARD OF 'spinetlaw20.CisWeights'. -/
def cisWeightsUptoCard : Claim7 := { stood := { row := cisWeightsUptoRow, standIns := [], harness := (true, "afcb1a8be3a03c4a2f6d0e7de4c5c372479681309a25fd15814696aeb44f375e"), looks := false }, kinds := [], alts := [], laidByText := true, laidKinds := [.data], laidTests := true, laidLooks := .later }
def CisWeightsUptoCardSaid : Prop := Claim7.holds Tryd.pinned (.plain (OpenSpec.upto cisWeightsSpec)) cisWeightsUptoCard

/-- THE SECOND FORM's CARD OF 'spinetlaw20.CisRounds'. -/
def cisRoundsUptoCard : Claim7 := { stood := { row := cisRoundsUptoRow, standIns := [], harness := (true, "afcb1a8be3a03c4a2f6d0e7de4c5c372479681309a25fd15814696aeb44f375e"), looks := false }, kinds := [], alts := [], laidByText := true, laidKinds := [.data], laidTests := true, laidLooks := .later }
def CisRoundsUptoCardSaid : Prop := Claim7.holds Tryd.pinned (.plain (OpenSpec.upto cisRoundsSpec)) cisRoundsUptoCard

/-- THE SECOND FORM's CARD OF 'spinetlaw20.CisAdds'. -/
def cisAddsUptoCard : Claim7 := { stood := { row := cisAddsUptoRow, standIns := [], harness := (true, "afcb1a8be3a03c4a2f6d0e7de4c5c372479681309a25fd15814696aeb44f375e"), looks := false }, kinds := [], alts := [], laidByText := true, laidKinds := [.data], laidTests := true, laidLooks := .later }
def CisAddsUptoCardSaid : Prop := Claim7.holds Tryd.pinned (.plain (OpenSpec.upto cisAddsSpec)) cisAddsUptoCard

/-- THE SECOND FORM's CARD OF 'spinetlaw14.AllocTells'. -/
def allocTellsUptoCard : Claim7 := { stood := { row := allocTellsUptoRow, standIns := [], harness := (true, "afcb1a8be3a03c4a2f6d0e7de4c5c372479681309a25fd15814696aeb44f375e"), looks := false }, kinds := [], alts := [], laidByText := true, laidKinds := [.data], laidTests := true, laidLooks := .later }
def AllocTellsUptoCardSaid : Prop := Claim7.holds Tryd.pinned (.plain (OpenSpec.upto allocTellsSpec)) allocTellsUptoCard

/-- THE SECOND FORM's CARD OF 'spinetlaw14.AllocTotals'. -/
def allocTotalsUptoCard : Claim7 := { stood := { row := allocTotalsUptoRow, standIns := [], harness := (true, "afcb1a8be3a03c4a2f6d0e7de4c5c372479681309a25fd15814696aeb44f375e"), looks := false }, kinds := [], alts := [], laidByText := true, laidKinds := [.data], laidTests := true, laidLooks := .later }
def AllocTotalsUptoCardSaid : Prop := Claim7.holds Tryd.pinned (.plain (OpenSpec.upto allocTotalsSpec)) allocTotalsUptoCard

/-- THE SECOND FORM's CARD OF 'spinetlaw14.AllocFits'. -/
def allocFitsUptoCard : Claim7 := { stood := { row := allocFitsUptoRow, standIns := [], harness := (true, "afcb1a8be3a03c4a2f6d0e7de4c5c372479681309a25fd15814696aeb44f375e"), looks := false }, kinds := [], alts := [], laidByText := true, laidKinds := [.data], laidTests := true, laidLooks := .later }
def AllocFitsUptoCardSaid : Prop := Claim7.holds Tryd.pinned (.plain (OpenSpec.upto allocFitsSpec)) allocFitsUptoCard

/-- THE SECOND FORM's CARD OF 'spinetlaw14.AllocMore'. -/
def allocMoreUptoCard : Claim7 := { stood := { row := allocMoreUptoRow, standIns := [], harness := (true, "afcb1a8be3a03c4a2f6d0e7de4c5c372479681309a25fd15814696aeb44f375e"), looks := false }, kinds := [], alts := [], laidByText := true, laidKinds := [.data], laidTests := true, laidLooks := .later }
def AllocMoreUptoCardSaid : Prop := Claim7.holds Tryd.pinned (.plain (OpenSpec.upto allocMoreSpec)) allocMoreUptoCard

/-- THE SECOND FORM's CARD OF 'spinetlaw14.AllocChans'. -/
def allocChansUptoCard : Claim7 := { stood := { row := allocChansUptoRow, standIns := [], harness := (true, "afcb1a8be3a03c4a2f6d0e7de4c5c372479681309a25fd15814696aeb44f375e"), looks := false }, kinds := [], alts := [], laidByText := true, laidKinds := [.data], laidTests := true, laidLooks := .later }
def AllocChansUptoCardSaid : Prop := Claim7.holds Tryd.pinned (.plain (OpenSpec.upto allocChansSpec)) allocChansUptoCard
end Rows
end Go.Proofs.YtmcjbejccelagaaDoor
