/-
  DERIVED. GIVEN WITH THE SEED: THE CARDS: each row of YtbcdnbbpkikppaaDoorRows.lean that lists a variable, with what it lists TIED to the program's text (the seventh form; the later family's looks); each row that meets fmt, with fmt's text TOLD by the authors' own Lean function (tested against real Go, not proved from fmt's source: count such statements apart). THE CARD IS WHAT COUNTS. Prove the row's statement (the work); the ties are given (YtbcdnbbpkikppaaDoorTie.lean); close each card by the builder's one call (the guide's Derived/Test/ToyasCard.lean, 'card_holds'). Laid BY PROGRAM, IN A SANDBOX (cutbox-door.mjs). By AI agents, Wed Nov 11 2026. No macro, syntax, notation, axiom, sorry.
-/
import Derived.Test.YtbcdnbbpkikppaaDoorRows
import GoSem.ClaimSeven
namespace Go.Proofs.YtbcdnbbpkikppaaDoor
namespace Rows

/-- THE TIED CARD OF 'spinetlaw16.FrameGuesses'. -/
def frameGuessesCard : Claim7 := { stood := { row := frameGuessesRow, standIns := [], harness := (true, "6fd3cef4739abb337087ac194f61d7bdfcbfdad02058d565ba37ec2937ba1477"), looks := false }, kinds := [], alts := [], laidByText := true, laidKinds := [.data, .data], laidTests := true, laidLooks := .later }
def FrameGuessesCardSaid : Prop := Claim7.holds Tryd.pinned (.plain (OpenSpec.ofChange frameGuessesSpec)) frameGuessesCard

/-- THE TIED CARD OF 'spinetlaw16.FrameOdd'. -/
def frameOddCard : Claim7 := { stood := { row := frameOddRow, standIns := [], harness := (true, "6fd3cef4739abb337087ac194f61d7bdfcbfdad02058d565ba37ec2937ba1477"), looks := false }, kinds := [], alts := [], laidByText := true, laidKinds := [.data, .data], laidTests := true, laidLooks := .later }
def FrameOddCardSaid : Prop := Claim7.holds Tryd.pinned (.plain (OpenSpec.ofChange frameOddSpec)) frameOddCard

/-- THE TIED CARD OF 'spinetlaw16.FrameLeaves'. -/
def frameLeavesCard : Claim7 := { stood := { row := frameLeavesRow, standIns := [], harness := (true, "6fd3cef4739abb337087ac194f61d7bdfcbfdad02058d565ba37ec2937ba1477"), looks := false }, kinds := [], alts := [], laidByText := true, laidKinds := [.data, .data], laidTests := true, laidLooks := .later }
def FrameLeavesCardSaid : Prop := Claim7.holds Tryd.pinned (.plain (OpenSpec.ofChange frameLeavesSpec)) frameLeavesCard

/-- THE TIED CARD OF 'spinetlaw16.FrameRight'. -/
def frameRightCard : Claim7 := { stood := { row := frameRightRow, standIns := [], harness := (true, "6fd3cef4739abb337087ac194f61d7bdfcbfdad02058d565ba37ec2937ba1477"), looks := false }, kinds := [], alts := [], laidByText := true, laidKinds := [.data, .data], laidTests := true, laidLooks := .later }
def FrameRightCardSaid : Prop := Claim7.holds Tryd.pinned (.plain (OpenSpec.ofChange frameRightSpec)) frameRightCard

/-- THE TIED CARD OF 'spinetlaw16.FrameTools'. -/
def frameToolsCard : Claim7 := { stood := { row := frameToolsRow, standIns := [], harness := (true, "6fd3cef4739abb337087ac194f61d7bdfcbfdad02058d565ba37ec2937ba1477"), looks := false }, kinds := [], alts := [], laidByText := true, laidKinds := [.data, .data], laidTests := true, laidLooks := .later }
def FrameToolsCardSaid : Prop := Claim7.holds Tryd.pinned (.plain (OpenSpec.ofChange frameToolsSpec)) frameToolsCard

/-- THE TIED CARD OF 'spinetlaw17.PackFits'. -/
def packFitsCard : Claim7 := { stood := { row := packFitsRow, standIns := [], harness := (true, "6fd3cef4739abb337087ac194f61d7bdfcbfdad02058d565ba37ec2937ba1477"), looks := false }, kinds := [], alts := [], laidByText := true, laidKinds := [.data, .data], laidTests := true, laidLooks := .later }
def PackFitsCardSaid : Prop := Claim7.holds Tryd.pinned (.plain (OpenSpec.ofChange packFitsSpec)) packFitsCard

/-- THE TIED CARD OF 'spinetlaw17.PackThere'. -/
def packThereCard : Claim7 := { stood := { row := packThereRow, standIns := [], harness := (true, "6fd3cef4739abb337087ac194f61d7bdfcbfdad02058d565ba37ec2937ba1477"), looks := false }, kinds := [], alts := [], laidByText := true, laidKinds := [.data, .data], laidTests := true, laidLooks := .later }
def PackThereCardSaid : Prop := Claim7.holds Tryd.pinned (.plain (OpenSpec.ofChange packThereSpec)) packThereCard

/-- THE TIED CARD OF 'spinetlaw17.PackUnlike'. -/
def packUnlikeCard : Claim7 := { stood := { row := packUnlikeRow, standIns := [], harness := (true, "6fd3cef4739abb337087ac194f61d7bdfcbfdad02058d565ba37ec2937ba1477"), looks := false }, kinds := [], alts := [], laidByText := true, laidKinds := [.data, .data], laidTests := true, laidLooks := .later }
def PackUnlikeCardSaid : Prop := Claim7.holds Tryd.pinned (.plain (OpenSpec.ofChange packUnlikeSpec)) packUnlikeCard

/-- THE SECOND FORM's CARD OF 'spinetlaw16.FrameGuesses'. -/
def frameGuessesUptoCard : Claim7 := { stood := { row := frameGuessesUptoRow, standIns := [], harness := (true, "6fd3cef4739abb337087ac194f61d7bdfcbfdad02058d565ba37ec2937ba1477"), looks := false }, kinds := [], alts := [], laidByText := true, laidKinds := [.data, .data], laidTests := true, laidLooks := .later }
def FrameGuessesUptoCardSaid : Prop := Claim7.holds Tryd.pinned (.plain (OpenSpec.upto frameGuessesSpec)) frameGuessesUptoCard

/-- THE SECOND FORM's CARD OF 'spinetlaw16.FrameOdd'. -/
def frameOddUptoCard : Claim7 := { stood := { row := frameOddUptoRow, standIns := [], harness := (true, "6fd3cef4739abb337087ac194f61d7bdfcbfdad02058d565ba37ec2937ba1477"), looks := false }, kinds := [], alts := [], laidByText := true, laidKinds := [.data, .data], laidTests := true, laidLooks := .later }
def FrameOddUptoCardSaid : Prop := Claim7.holds Tryd.pinned (.plain (OpenSpec.upto frameOddSpec)) frameOddUptoCard

/-- THE SECOND FORM's CARD OF 'spinetlaw16.FrameLeaves'. -/
def frameLeavesUptoCard : Claim7 := { stood := { row := frameLeavesUptoRow, standIns := [], harness := (true, "6fd3cef4739abb337087ac194f61d7bdfcbfdad02058d565ba37ec2937ba1477"), looks := false }, kinds := [], alts := [], laidByText := true, laidKinds := [.data, .data], laidTests := true, laidLooks := .later }
def FrameLeavesUptoCardSaid : Prop := Claim7.holds Tryd.pinned (.plain (OpenSpec.upto frameLeavesSpec)) frameLeavesUptoCard

/-- THE SECOND FORM's CARD OF 'spinetlaw16.FrameRight'. -/
def frameRightUptoCard : Claim7 := { stood := { row := frameRightUptoRow, standIns := [], harness := (true, "6fd3cef4739abb337087ac194f61d7bdfcbfdad02058d565ba37ec2937ba1477"), looks := false }, kinds := [], alts := [], laidByText := true, laidKinds := [.data, .data], laidTests := true, laidLooks := .later }
def FrameRightUptoCardSaid : Prop := Claim7.holds Tryd.pinned (.plain (OpenSpec.upto frameRightSpec)) frameRightUptoCard

/-- THE SECOND FORM's CARD OF 'spinetlaw16.FrameTools'. -/
def frameToolsUptoCard : Claim7 := { stood := { row := frameToolsUptoRow, standIns := [], harness := (true, "6fd3cef4739abb337087ac194f61d7bdfcbfdad02058d565ba37ec2937ba1477"), looks := false }, kinds := [], alts := [], laidByText := true, laidKinds := [.data, .data], laidTests := true, laidLooks := .later }
def FrameToolsUptoCardSaid : Prop := Claim7.holds Tryd.pinned (.plain (OpenSpec.upto frameToolsSpec)) frameToolsUptoCard

/-- THE SECOND FORM's CARD OF 'spinetlaw17.PackFits'. -/
def packFitsUptoCard : Claim7 := { stood := { row := packFitsUptoRow, standIns := [], harness := (true, "6fd3cef4739abb337087ac194f61d7bdfcbfdad02058d565ba37ec2937ba1477"), looks := false }, kinds := [], alts := [], laidByText := true, laidKinds := [.data, .data], laidTests := true, laidLooks := .later }
def PackFitsUptoCardSaid : Prop := Claim7.holds Tryd.pinned (.plain (OpenSpec.upto packFitsSpec)) packFitsUptoCard

/-- THE SECOND FORM's CARD OF 'spinetlaw17.PackThere'. -/
def packThereUptoCard : Claim7 := { stood := { row := packThereUptoRow, standIns := [], harness := (true, "6fd3cef4739abb337087ac194f61d7bdfcbfdad02058d565ba37ec2937ba1477"), looks := false }, kinds := [], alts := [], laidByText := true, laidKinds := [.data, .data], laidTests := true, laidLooks := .later }
def PackThereUptoCardSaid : Prop := Claim7.holds Tryd.pinned (.plain (OpenSpec.upto packThereSpec)) packThereUptoCard

/-- THE SECOND FORM's CARD OF 'spinetlaw17.PackUnlike'. -/
def packUnlikeUptoCard : Claim7 := { stood := { row := packUnlikeUptoRow, standIns := [], harness := (true, "6fd3cef4739abb337087ac194f61d7bdfcbfdad02058d565ba37ec2937ba1477"), looks := false }, kinds := [], alts := [], laidByText := true, laidKinds := [.data, .data], laidTests := true, laidLooks := .later }
def PackUnlikeUptoCardSaid : Prop := Claim7.holds Tryd.pinned (.plain (OpenSpec.upto packUnlikeSpec)) packUnlikeUptoCard
end Rows
end Go.Proofs.YtbcdnbbpkikppaaDoor
