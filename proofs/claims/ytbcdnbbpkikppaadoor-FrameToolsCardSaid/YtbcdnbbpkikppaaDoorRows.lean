/-
  NARROWER THAN 'FOR EVERY INPUT', by the rows' own cells (each row's printed sentence says how): FrameGuesses: laid · FrameOdd: laid · FrameLeaves: laid · FrameRight: laid · FrameTools: laid · PackFits: laid · PackThere: laid · PackUnlike: laid.
  DERIVED. THE GIVEN ROWS OF THIS SEAT. 8 by the template 'for every input the law returns true; each argument reads behind the call as it read before'; 0 by the template 'total and deterministic' (their statements: YtbcdnbbpkikppaaDoorTotals.lean).
  GIVEN WITH THE SEED: the statements are not yours to turn. If you find one false, say at which input.
  Laid BY PROGRAM, IN A SANDBOX (cutbox-rows.mjs): the forced cells as the released guide's own fill.sh prints them over the translation 3dbe605c2ddeaf42… (all of the seat's roots in one cut). By AI agents, Wed Nov 11 2026. No macro, syntax, notation, axiom, sorry.
-/
import Derived.Test.YtbcdnbbpkikppaaDoorChecked
import GoSem.Claim
import GoSem.ClaimJoined
import GoSem.ClaimMapViews
import Derived.JoinedTies
import Derived.KernelRfl
namespace Go.Proofs.YtbcdnbbpkikppaaDoor
/- THE CELL 'sum', in the pinned program and in every row, IS THE sha256 OF THE DUMP (.gsa) THAT YtbcdnbbpkikppaaDoorProg.lean LOADS. Nothing in Lean hashes anything: it is a label: what it is worth is what the hold of that sum in a sandbox is worth. -/
noncomputable def Tryd.pinned : Pinned := { name := "ytbcdnbbpkikppaadoor", sum := "3dbe605c2ddeaf42fa9b3ad4098804539250c72b282f28e5cc2eac08fe9734a3", checked := Tryd.checked }
namespace Rows
def none {H : Type} : Left H := { results := [], args := [] }

/- WHAT THE LISTED PACKAGE-LEVEL VARIABLES READ AS WHEN THE CALL BEGINS. Each datum BY PROGRAM (the guide's laid-datum.mjs) off the statement by which the dump's own 'gosem.cut.vars' lays the variable. In a bare row this is a premise. The card (YtbcdnbbpkikppaaDoorCards.lean) ties it to the program's text. -/
def laid_spinet_mode_widths {H : Type} : DataW H := .agg [.lit (.int .i64 2), .lit (.int .i64 2), .lit (.int .i64 4), .lit (.int .i64 8), .lit (.int .i64 16)]
def laid_spinet_sym_widths {H : Type} : DataW H := .agg [.lit (.int .i64 20), .lit (.int .i64 9), .lit (.int .i64 5), .lit (.int .i64 3), .lit (.int .i64 2), .lit (.int .i64 1), .lit (.int .i64 1), .lit (.int .i64 1)]

/-- 'spinetlaw16.FrameGuesses': WHATEVER THE INPUT: true; the input reads as it did. -/
def frameGuessesSpec : ChangeSpec := { name := "frameGuesses", fn := fun _ => fun
  | [d1, d2, d3] => { results := [.lit (.bool true)], args := [d1, d2, d3] }
  | _ => none }
def frameGuessesRow : OpenClaim := { program := "ytbcdnbbpkikppaadoor", sum := "3dbe605c2ddeaf42fa9b3ad4098804539250c72b282f28e5cc2eac08fe9734a3", func := "spinet/spinetlaw16.FrameGuesses", spec := "frameGuesses", unfollowed := true, recurses := true, named := ["spinet/sym.widths", "spinet/mode.widths"], plainKeys := false, apart := false, laid := [("spinet/mode.widths", laid_spinet_mode_widths), ("spinet/sym.widths", laid_spinet_sym_widths)] }
def FrameGuessesSaid : Prop := frameGuessesRow.holds Tryd.pinned (OpenSpec.ofChange frameGuessesSpec)

/-- ITS FALSE NEIGHBOUR: 'it returns false'. Refute it at one input. -/
def frameGuessesWrong : ChangeSpec := { name := "frameGuesses", fn := fun _ => fun
  | [d1, d2, d3] => { results := [.lit (.bool false)], args := [d1, d2, d3] }
  | _ => none }
def FrameGuessesWrongFalsely : Prop := frameGuessesRow.holds Tryd.pinned (OpenSpec.ofChange frameGuessesWrong)

/-- 'spinetlaw16.FrameOdd': WHATEVER THE INPUT: true; the input reads as it did. -/
def frameOddSpec : ChangeSpec := { name := "frameOdd", fn := fun _ => fun
  | [d1, d2, d3] => { results := [.lit (.bool true)], args := [d1, d2, d3] }
  | _ => none }
def frameOddRow : OpenClaim := { program := "ytbcdnbbpkikppaadoor", sum := "3dbe605c2ddeaf42fa9b3ad4098804539250c72b282f28e5cc2eac08fe9734a3", func := "spinet/spinetlaw16.FrameOdd", spec := "frameOdd", unfollowed := true, recurses := true, named := ["spinet/sym.widths", "spinet/mode.widths"], plainKeys := false, apart := false, laid := [("spinet/mode.widths", laid_spinet_mode_widths), ("spinet/sym.widths", laid_spinet_sym_widths)] }
def FrameOddSaid : Prop := frameOddRow.holds Tryd.pinned (OpenSpec.ofChange frameOddSpec)

/-- ITS FALSE NEIGHBOUR: 'it returns false'. Refute it at one input. -/
def frameOddWrong : ChangeSpec := { name := "frameOdd", fn := fun _ => fun
  | [d1, d2, d3] => { results := [.lit (.bool false)], args := [d1, d2, d3] }
  | _ => none }
def FrameOddWrongFalsely : Prop := frameOddRow.holds Tryd.pinned (OpenSpec.ofChange frameOddWrong)

/-- 'spinetlaw16.FrameLeaves': WHATEVER THE INPUT: true; the input reads as it did. -/
def frameLeavesSpec : ChangeSpec := { name := "frameLeaves", fn := fun _ => fun
  | [d] => { results := [.lit (.bool true)], args := [d] }
  | _ => none }
def frameLeavesRow : OpenClaim := { program := "ytbcdnbbpkikppaadoor", sum := "3dbe605c2ddeaf42fa9b3ad4098804539250c72b282f28e5cc2eac08fe9734a3", func := "spinet/spinetlaw16.FrameLeaves", spec := "frameLeaves", unfollowed := true, recurses := true, named := ["spinet/sym.widths", "spinet/mode.widths"], plainKeys := false, apart := false, laid := [("spinet/mode.widths", laid_spinet_mode_widths), ("spinet/sym.widths", laid_spinet_sym_widths)] }
def FrameLeavesSaid : Prop := frameLeavesRow.holds Tryd.pinned (OpenSpec.ofChange frameLeavesSpec)

/-- ITS FALSE NEIGHBOUR: 'it returns false'. Refute it at one input. -/
def frameLeavesWrong : ChangeSpec := { name := "frameLeaves", fn := fun _ => fun
  | [d] => { results := [.lit (.bool false)], args := [d] }
  | _ => none }
def FrameLeavesWrongFalsely : Prop := frameLeavesRow.holds Tryd.pinned (OpenSpec.ofChange frameLeavesWrong)

/-- 'spinetlaw16.FrameRight': WHATEVER THE INPUT: true; the input reads as it did. -/
def frameRightSpec : ChangeSpec := { name := "frameRight", fn := fun _ => fun
  | [d] => { results := [.lit (.bool true)], args := [d] }
  | _ => none }
def frameRightRow : OpenClaim := { program := "ytbcdnbbpkikppaadoor", sum := "3dbe605c2ddeaf42fa9b3ad4098804539250c72b282f28e5cc2eac08fe9734a3", func := "spinet/spinetlaw16.FrameRight", spec := "frameRight", unfollowed := true, recurses := true, named := ["spinet/sym.widths", "spinet/mode.widths"], plainKeys := false, apart := false, laid := [("spinet/mode.widths", laid_spinet_mode_widths), ("spinet/sym.widths", laid_spinet_sym_widths)] }
def FrameRightSaid : Prop := frameRightRow.holds Tryd.pinned (OpenSpec.ofChange frameRightSpec)

/-- ITS FALSE NEIGHBOUR: 'it returns false'. Refute it at one input. -/
def frameRightWrong : ChangeSpec := { name := "frameRight", fn := fun _ => fun
  | [d] => { results := [.lit (.bool false)], args := [d] }
  | _ => none }
def FrameRightWrongFalsely : Prop := frameRightRow.holds Tryd.pinned (OpenSpec.ofChange frameRightWrong)

/-- 'spinetlaw16.FrameTools': WHATEVER THE INPUT: true; the input reads as it did. -/
def frameToolsSpec : ChangeSpec := { name := "frameTools", fn := fun _ => fun
  | [d1, d2, d3] => { results := [.lit (.bool true)], args := [d1, d2, d3] }
  | _ => none }
def frameToolsRow : OpenClaim := { program := "ytbcdnbbpkikppaadoor", sum := "3dbe605c2ddeaf42fa9b3ad4098804539250c72b282f28e5cc2eac08fe9734a3", func := "spinet/spinetlaw16.FrameTools", spec := "frameTools", unfollowed := true, recurses := true, named := ["spinet/sym.widths", "spinet/mode.widths"], plainKeys := false, apart := false, laid := [("spinet/mode.widths", laid_spinet_mode_widths), ("spinet/sym.widths", laid_spinet_sym_widths)] }
def FrameToolsSaid : Prop := frameToolsRow.holds Tryd.pinned (OpenSpec.ofChange frameToolsSpec)

/-- ITS FALSE NEIGHBOUR: 'it returns false'. Refute it at one input. -/
def frameToolsWrong : ChangeSpec := { name := "frameTools", fn := fun _ => fun
  | [d1, d2, d3] => { results := [.lit (.bool false)], args := [d1, d2, d3] }
  | _ => none }
def FrameToolsWrongFalsely : Prop := frameToolsRow.holds Tryd.pinned (OpenSpec.ofChange frameToolsWrong)

/-- 'spinetlaw17.PackFits': WHATEVER THE INPUT: true; the input reads as it did. -/
def packFitsSpec : ChangeSpec := { name := "packFits", fn := fun _ => fun
  | [d1, d2] => { results := [.lit (.bool true)], args := [d1, d2] }
  | _ => none }
def packFitsRow : OpenClaim := { program := "ytbcdnbbpkikppaadoor", sum := "3dbe605c2ddeaf42fa9b3ad4098804539250c72b282f28e5cc2eac08fe9734a3", func := "spinet/spinetlaw17.PackFits", spec := "packFits", unfollowed := true, recurses := true, named := ["spinet/mode.widths", "spinet/sym.widths"], plainKeys := false, apart := false, laid := [("spinet/mode.widths", laid_spinet_mode_widths), ("spinet/sym.widths", laid_spinet_sym_widths)] }
def PackFitsSaid : Prop := packFitsRow.holds Tryd.pinned (OpenSpec.ofChange packFitsSpec)

/-- ITS FALSE NEIGHBOUR: 'it returns false'. Refute it at one input. -/
def packFitsWrong : ChangeSpec := { name := "packFits", fn := fun _ => fun
  | [d1, d2] => { results := [.lit (.bool false)], args := [d1, d2] }
  | _ => none }
def PackFitsWrongFalsely : Prop := packFitsRow.holds Tryd.pinned (OpenSpec.ofChange packFitsWrong)

/-- 'spinetlaw17.PackThere': WHATEVER THE INPUT: true; the input reads as it did. -/
def packThereSpec : ChangeSpec := { name := "packThere", fn := fun _ => fun
  | [d] => { results := [.lit (.bool true)], args := [d] }
  | _ => none }
def packThereRow : OpenClaim := { program := "ytbcdnbbpkikppaadoor", sum := "3dbe605c2ddeaf42fa9b3ad4098804539250c72b282f28e5cc2eac08fe9734a3", func := "spinet/spinetlaw17.PackThere", spec := "packThere", unfollowed := true, recurses := true, named := ["spinet/mode.widths", "spinet/sym.widths"], plainKeys := false, apart := false, laid := [("spinet/mode.widths", laid_spinet_mode_widths), ("spinet/sym.widths", laid_spinet_sym_widths)] }
def PackThereSaid : Prop := packThereRow.holds Tryd.pinned (OpenSpec.ofChange packThereSpec)

/-- ITS FALSE NEIGHBOUR: 'it returns false'. Refute it at one input. -/
def packThereWrong : ChangeSpec := { name := "packThere", fn := fun _ => fun
  | [d] => { results := [.lit (.bool false)], args := [d] }
  | _ => none }
def PackThereWrongFalsely : Prop := packThereRow.holds Tryd.pinned (OpenSpec.ofChange packThereWrong)

/-- 'spinetlaw17.PackUnlike': WHATEVER THE INPUT: true; the input reads as it did. -/
def packUnlikeSpec : ChangeSpec := { name := "packUnlike", fn := fun _ => fun
  | [d1, d2, d3] => { results := [.lit (.bool true)], args := [d1, d2, d3] }
  | _ => none }
def packUnlikeRow : OpenClaim := { program := "ytbcdnbbpkikppaadoor", sum := "3dbe605c2ddeaf42fa9b3ad4098804539250c72b282f28e5cc2eac08fe9734a3", func := "spinet/spinetlaw17.PackUnlike", spec := "packUnlike", unfollowed := true, recurses := true, named := ["spinet/mode.widths", "spinet/sym.widths"], plainKeys := false, apart := false, laid := [("spinet/mode.widths", laid_spinet_mode_widths), ("spinet/sym.widths", laid_spinet_sym_widths)] }
def PackUnlikeSaid : Prop := packUnlikeRow.holds Tryd.pinned (OpenSpec.ofChange packUnlikeSpec)

/-- ITS FALSE NEIGHBOUR: 'it returns false'. Refute it at one input. -/
def packUnlikeWrong : ChangeSpec := { name := "packUnlike", fn := fun _ => fun
  | [d1, d2, d3] => { results := [.lit (.bool false)], args := [d1, d2, d3] }
  | _ => none }
def PackUnlikeWrongFalsely : Prop := packUnlikeRow.holds Tryd.pinned (OpenSpec.ofChange packUnlikeWrong)

/- THE SECOND FORM. 'bulk': how many values and letters a reading holds, each counted each time it is reached (what is shared counts as often as it is met; a slice's spare places count too). A statement '..UptoSaid' is the law's where the arguments, and the package variables that the reading takes, are together of bulk at most 1048576: NARROWER than '..Said'. Prove '..Said' where nothing that the law and all that it calls make is longer than what came in: it says more and counts as full. Else prove '..UptoSaid'. A law counts once. -/
mutual
def uptoBulk {H : Type} : DataW H → Nat
  | .lit (.string bytes) => bytes.length + 1
  | .lit _ => 1
  | .nil => 1
  | .ptr d => uptoBulk d + 1
  | .slice elems spare => uptoBulkAll elems + uptoBulkAll spare + 1
  | .agg parts => uptoBulkAll parts + 1
  | .iface _ d => uptoBulk d + 1
  | .map entries => uptoBulkEntries entries + 1
  | .held _ => 1
def uptoBulkAll {H : Type} : List (DataW H) → Nat
  | [] => 0
  | d :: r => uptoBulk d + uptoBulkAll r
def uptoBulkEntries {H : Type} : List (Lit × DataW H) → Nat
  | [] => 0
  | x :: r => uptoBulkEntry x + uptoBulkEntries r
def uptoBulkEntry {H : Type} : Lit × DataW H → Nat
  | (.string bytes, d) => bytes.length + uptoBulk d + 1
  | (_, d) => uptoBulk d + 1
 end
def uptoSmall : (H : Type) → List (DataW H) → Bool := fun _ ds => decide (uptoBulkAll ds ≤ 1048576)
def OpenSpec.upto (s : _root_.Go.ChangeSpec) : _root_.Go.OpenSpec := { _root_.Go.OpenSpec.ofChange s with cond := some uptoSmall }

/-- 'spinetlaw16.FrameGuesses', WHERE WHAT IT READS IS OF BULK AT MOST 1048576: true; the input reads as it did. -/
def frameGuessesUptoRow : OpenClaim := { program := "ytbcdnbbpkikppaadoor", sum := "3dbe605c2ddeaf42fa9b3ad4098804539250c72b282f28e5cc2eac08fe9734a3", func := "spinet/spinetlaw16.FrameGuesses", spec := "frameGuesses", unfollowed := true, recurses := true, named := ["spinet/sym.widths", "spinet/mode.widths"], plainKeys := false, apart := false, laid := [("spinet/mode.widths", laid_spinet_mode_widths), ("spinet/sym.widths", laid_spinet_sym_widths)], narrowed := true }
def FrameGuessesUptoSaid : Prop := frameGuessesUptoRow.holds Tryd.pinned (OpenSpec.upto frameGuessesSpec)

/-- 'spinetlaw16.FrameOdd', WHERE WHAT IT READS IS OF BULK AT MOST 1048576: true; the input reads as it did. -/
def frameOddUptoRow : OpenClaim := { program := "ytbcdnbbpkikppaadoor", sum := "3dbe605c2ddeaf42fa9b3ad4098804539250c72b282f28e5cc2eac08fe9734a3", func := "spinet/spinetlaw16.FrameOdd", spec := "frameOdd", unfollowed := true, recurses := true, named := ["spinet/sym.widths", "spinet/mode.widths"], plainKeys := false, apart := false, laid := [("spinet/mode.widths", laid_spinet_mode_widths), ("spinet/sym.widths", laid_spinet_sym_widths)], narrowed := true }
def FrameOddUptoSaid : Prop := frameOddUptoRow.holds Tryd.pinned (OpenSpec.upto frameOddSpec)

/-- 'spinetlaw16.FrameLeaves', WHERE WHAT IT READS IS OF BULK AT MOST 1048576: true; the input reads as it did. -/
def frameLeavesUptoRow : OpenClaim := { program := "ytbcdnbbpkikppaadoor", sum := "3dbe605c2ddeaf42fa9b3ad4098804539250c72b282f28e5cc2eac08fe9734a3", func := "spinet/spinetlaw16.FrameLeaves", spec := "frameLeaves", unfollowed := true, recurses := true, named := ["spinet/sym.widths", "spinet/mode.widths"], plainKeys := false, apart := false, laid := [("spinet/mode.widths", laid_spinet_mode_widths), ("spinet/sym.widths", laid_spinet_sym_widths)], narrowed := true }
def FrameLeavesUptoSaid : Prop := frameLeavesUptoRow.holds Tryd.pinned (OpenSpec.upto frameLeavesSpec)

/-- 'spinetlaw16.FrameRight', WHERE WHAT IT READS IS OF BULK AT MOST 1048576: true; the input reads as it did. -/
def frameRightUptoRow : OpenClaim := { program := "ytbcdnbbpkikppaadoor", sum := "3dbe605c2ddeaf42fa9b3ad4098804539250c72b282f28e5cc2eac08fe9734a3", func := "spinet/spinetlaw16.FrameRight", spec := "frameRight", unfollowed := true, recurses := true, named := ["spinet/sym.widths", "spinet/mode.widths"], plainKeys := false, apart := false, laid := [("spinet/mode.widths", laid_spinet_mode_widths), ("spinet/sym.widths", laid_spinet_sym_widths)], narrowed := true }
def FrameRightUptoSaid : Prop := frameRightUptoRow.holds Tryd.pinned (OpenSpec.upto frameRightSpec)

/-- 'spinetlaw16.FrameTools', WHERE WHAT IT READS IS OF BULK AT MOST 1048576: true; the input reads as it did. -/
def frameToolsUptoRow : OpenClaim := { program := "ytbcdnbbpkikppaadoor", sum := "3dbe605c2ddeaf42fa9b3ad4098804539250c72b282f28e5cc2eac08fe9734a3", func := "spinet/spinetlaw16.FrameTools", spec := "frameTools", unfollowed := true, recurses := true, named := ["spinet/sym.widths", "spinet/mode.widths"], plainKeys := false, apart := false, laid := [("spinet/mode.widths", laid_spinet_mode_widths), ("spinet/sym.widths", laid_spinet_sym_widths)], narrowed := true }
def FrameToolsUptoSaid : Prop := frameToolsUptoRow.holds Tryd.pinned (OpenSpec.upto frameToolsSpec)

/-- 'spinetlaw17.PackFits', WHERE WHAT IT READS IS OF BULK AT MOST 1048576: true; the input reads as it did. -/
def packFitsUptoRow : OpenClaim := { program := "ytbcdnbbpkikppaadoor", sum := "3dbe605c2ddeaf42fa9b3ad4098804539250c72b282f28e5cc2eac08fe9734a3", func := "spinet/spinetlaw17.PackFits", spec := "packFits", unfollowed := true, recurses := true, named := ["spinet/mode.widths", "spinet/sym.widths"], plainKeys := false, apart := false, laid := [("spinet/mode.widths", laid_spinet_mode_widths), ("spinet/sym.widths", laid_spinet_sym_widths)], narrowed := true }
def PackFitsUptoSaid : Prop := packFitsUptoRow.holds Tryd.pinned (OpenSpec.upto packFitsSpec)

/-- 'spinetlaw17.PackThere', WHERE WHAT IT READS IS OF BULK AT MOST 1048576: true; the input reads as it did. -/
def packThereUptoRow : OpenClaim := { program := "ytbcdnbbpkikppaadoor", sum := "3dbe605c2ddeaf42fa9b3ad4098804539250c72b282f28e5cc2eac08fe9734a3", func := "spinet/spinetlaw17.PackThere", spec := "packThere", unfollowed := true, recurses := true, named := ["spinet/mode.widths", "spinet/sym.widths"], plainKeys := false, apart := false, laid := [("spinet/mode.widths", laid_spinet_mode_widths), ("spinet/sym.widths", laid_spinet_sym_widths)], narrowed := true }
def PackThereUptoSaid : Prop := packThereUptoRow.holds Tryd.pinned (OpenSpec.upto packThereSpec)

/-- 'spinetlaw17.PackUnlike', WHERE WHAT IT READS IS OF BULK AT MOST 1048576: true; the input reads as it did. -/
def packUnlikeUptoRow : OpenClaim := { program := "ytbcdnbbpkikppaadoor", sum := "3dbe605c2ddeaf42fa9b3ad4098804539250c72b282f28e5cc2eac08fe9734a3", func := "spinet/spinetlaw17.PackUnlike", spec := "packUnlike", unfollowed := true, recurses := true, named := ["spinet/mode.widths", "spinet/sym.widths"], plainKeys := false, apart := false, laid := [("spinet/mode.widths", laid_spinet_mode_widths), ("spinet/sym.widths", laid_spinet_sym_widths)], narrowed := true }
def PackUnlikeUptoSaid : Prop := packUnlikeUptoRow.holds Tryd.pinned (OpenSpec.upto packUnlikeSpec)

end Rows
end Go.Proofs.YtbcdnbbpkikppaaDoor
