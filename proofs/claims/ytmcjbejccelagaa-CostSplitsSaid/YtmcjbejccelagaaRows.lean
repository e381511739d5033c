/-
  No cell of these rows narrows 'for every input' (looked for: loops, veiled, ifaces, maps, wideKeys, modest, calm, conditions, laid).
  DERIVED. THE GIVEN ROWS OF THIS SEAT. 4 by the template 'for every input the law returns true; each argument reads behind the call as it read before'; 0 by the template 'total and deterministic' (their statements: YtmcjbejccelagaaTotals.lean).
  GIVEN WITH THE SEED: the statements are not yours to turn. If you find one false, say at which input.
  Laid BY PROGRAM, IN A SANDBOX (cutbox-rows.mjs): the forced cells as the released guide's own fill.sh prints them over the translation a295e9f7511d1884… (all of the seat's roots in one cut). By AI agents, Wed Nov 11 2026. No macro, syntax, notation, axiom, sorry.
-/
import Derived.Test.YtmcjbejccelagaaChecked
import GoSem.Claim
import GoSem.ClaimJoined
import GoSem.ClaimMapViews
import Derived.JoinedTies
import Derived.KernelRfl
namespace Go.Proofs.Ytmcjbejccelagaa
/- THE CELL 'sum', in the pinned program and in every row, IS THE sha256 OF THE DUMP (.gsa) THAT YtmcjbejccelagaaProg.lean LOADS. Nothing in Lean hashes anything: it is a label: what it is worth is what the hold of that sum in a sandbox is worth. -/
noncomputable def Try.pinned : Pinned := { name := "ytmcjbejccelagaa", sum := "a295e9f7511d18840b00f6ec50c0d4cab0be537843471cef7eb878d2f9c1b848", checked := Try.checked }
namespace Rows
def none {H : Type} : Left H := { results := [], args := [] }

/-- 'spinetlaw13.CostTells': WHATEVER THE INPUT: true; the input reads as it did. -/
def costTellsSpec : ChangeSpec := { name := "costTells", fn := fun _ => fun
  | [d1, d2] => { results := [.lit (.bool true)], args := [d1, d2] }
  | _ => none }
def costTellsRow : OpenClaim := { program := "ytmcjbejccelagaa", sum := "a295e9f7511d18840b00f6ec50c0d4cab0be537843471cef7eb878d2f9c1b848", func := "spinet/spinetlaw13.CostTells", spec := "costTells", recurses := true, plainKeys := false, apart := false }
def CostTellsSaid : Prop := costTellsRow.holds Try.pinned (OpenSpec.ofChange costTellsSpec)

/-- ITS FALSE NEIGHBOUR: 'it returns false'. Refute it at one input. -/
def costTellsWrong : ChangeSpec := { name := "costTells", fn := fun _ => fun
  | [d1, d2] => { results := [.lit (.bool false)], args := [d1, d2] }
  | _ => none }
def CostTellsWrongFalsely : Prop := costTellsRow.holds Try.pinned (OpenSpec.ofChange costTellsWrong)

/-- 'spinetlaw13.CostRises': WHATEVER THE INPUT: true; the input reads as it did. -/
def costRisesSpec : ChangeSpec := { name := "costRises", fn := fun _ => fun
  | [d1, d2] => { results := [.lit (.bool true)], args := [d1, d2] }
  | _ => none }
def costRisesRow : OpenClaim := { program := "ytmcjbejccelagaa", sum := "a295e9f7511d18840b00f6ec50c0d4cab0be537843471cef7eb878d2f9c1b848", func := "spinet/spinetlaw13.CostRises", spec := "costRises", recurses := true, plainKeys := false, apart := false }
def CostRisesSaid : Prop := costRisesRow.holds Try.pinned (OpenSpec.ofChange costRisesSpec)

/-- ITS FALSE NEIGHBOUR: 'it returns false'. Refute it at one input. -/
def costRisesWrong : ChangeSpec := { name := "costRises", fn := fun _ => fun
  | [d1, d2] => { results := [.lit (.bool false)], args := [d1, d2] }
  | _ => none }
def CostRisesWrongFalsely : Prop := costRisesRow.holds Try.pinned (OpenSpec.ofChange costRisesWrong)

/-- 'spinetlaw13.CostCovers': WHATEVER THE INPUT: true; the input reads as it did. -/
def costCoversSpec : ChangeSpec := { name := "costCovers", fn := fun _ => fun
  | [d1, d2] => { results := [.lit (.bool true)], args := [d1, d2] }
  | _ => none }
def costCoversRow : OpenClaim := { program := "ytmcjbejccelagaa", sum := "a295e9f7511d18840b00f6ec50c0d4cab0be537843471cef7eb878d2f9c1b848", func := "spinet/spinetlaw13.CostCovers", spec := "costCovers", recurses := true, plainKeys := false, apart := false }
def CostCoversSaid : Prop := costCoversRow.holds Try.pinned (OpenSpec.ofChange costCoversSpec)

/-- ITS FALSE NEIGHBOUR: 'it returns false'. Refute it at one input. -/
def costCoversWrong : ChangeSpec := { name := "costCovers", fn := fun _ => fun
  | [d1, d2] => { results := [.lit (.bool false)], args := [d1, d2] }
  | _ => none }
def CostCoversWrongFalsely : Prop := costCoversRow.holds Try.pinned (OpenSpec.ofChange costCoversWrong)

/-- 'spinetlaw13.CostSplits': WHATEVER THE INPUT: true; the input reads as it did. -/
def costSplitsSpec : ChangeSpec := { name := "costSplits", fn := fun _ => fun
  | [d1, d2, d3] => { results := [.lit (.bool true)], args := [d1, d2, d3] }
  | _ => none }
def costSplitsRow : OpenClaim := { program := "ytmcjbejccelagaa", sum := "a295e9f7511d18840b00f6ec50c0d4cab0be537843471cef7eb878d2f9c1b848", func := "spinet/spinetlaw13.CostSplits", spec := "costSplits", recurses := true, plainKeys := false, apart := false }
def CostSplitsSaid : Prop := costSplitsRow.holds Try.pinned (OpenSpec.ofChange costSplitsSpec)

/-- ITS FALSE NEIGHBOUR: 'it returns false'. Refute it at one input. -/
def costSplitsWrong : ChangeSpec := { name := "costSplits", fn := fun _ => fun
  | [d1, d2, d3] => { results := [.lit (.bool false)], args := [d1, d2, d3] }
  | _ => none }
def CostSplitsWrongFalsely : Prop := costSplitsRow.holds Try.pinned (OpenSpec.ofChange costSplitsWrong)

/- THE SECOND FORM. 'bulk': how many values and letters a reading holds, each counted each time it is reached (what is shared counts as often as it is met; a slice's spare places count too). A statement '..UptoSaid' is the law's where the arguments, and the package variables that the reading takes, are together of bulk at most 1048576: NARROWER than '..Said'. Prove '..Said' where nothing that the law and all that it calls make is longer than what came in: it says more and counts as full. Else prove '..UptoSaid'. A law counts once. -/
mutual
def uptoBulk {H : Type} : DataW H → Nat
  | .lit (.string bytes) => bytes.length + 1
  | .lit _ => 1
  | .nil => 1
  | .ptr d => uptoBulk d + 1
  | .slice elems spare => uptoBulkAll elems + uptoBulkAll spare + 1
  | .agg parts => uptoBulkAll parts + 1
  | .iface _ d => uptoBulk d + 1
  | .map entries => uptoBulkEntries entries + 1
  | .held _ => 1
def uptoBulkAll {H : Type} : List (DataW H) → Nat
  | [] => 0
  | d :: r => uptoBulk d + uptoBulkAll r
def uptoBulkEntries {H : Type} : List (Lit × DataW H) → Nat
  | [] => 0
  | x :: r => uptoBulkEntry x + uptoBulkEntries r
def uptoBulkEntry {H : Type} : Lit × DataW H → Nat
  | (.string bytes, d) => bytes.length + uptoBulk d + 1
  | (_, d) => uptoBulk d + 1
 end
def uptoSmall : (H : Type) → List (DataW H) → Bool := fun _ ds => decide (uptoBulkAll ds ≤ 1048576)
def OpenSpec.upto (s : _root_.Go.ChangeSpec) : _root_.Go.OpenSpec := { _root_.Go.OpenSpec.ofChange s with cond := some uptoSmall }

/-- 'spinetlaw13.CostTells', WHERE WHAT IT READS IS OF BULK AT MOST 1048576: true; the input reads as it did. -/
def costTellsUptoRow : OpenClaim := { program := "ytmcjbejccelagaa", sum := "a295e9f7511d18840b00f6ec50c0d4cab0be537843471cef7eb878d2f9c1b848", func := "spinet/spinetlaw13.CostTells", spec := "costTells", recurses := true, plainKeys := false, apart := false, narrowed := true }
def CostTellsUptoSaid : Prop := costTellsUptoRow.holds Try.pinned (OpenSpec.upto costTellsSpec)

/-- 'spinetlaw13.CostRises', WHERE WHAT IT READS IS OF BULK AT MOST 1048576: true; the input reads as it did. -/
def costRisesUptoRow : OpenClaim := { program := "ytmcjbejccelagaa", sum := "a295e9f7511d18840b00f6ec50c0d4cab0be537843471cef7eb878d2f9c1b848", func := "spinet/spinetlaw13.CostRises", spec := "costRises", recurses := true, plainKeys := false, apart := false, narrowed := true }
def CostRisesUptoSaid : Prop := costRisesUptoRow.holds Try.pinned (OpenSpec.upto costRisesSpec)

/-- 'spinetlaw13.CostCovers', WHERE WHAT IT READS IS OF BULK AT MOST 1048576: true; the input reads as it did. -/
def costCoversUptoRow : OpenClaim := { program := "ytmcjbejccelagaa", sum := "a295e9f7511d18840b00f6ec50c0d4cab0be537843471cef7eb878d2f9c1b848", func := "spinet/spinetlaw13.CostCovers", spec := "costCovers", recurses := true, plainKeys := false, apart := false, narrowed := true }
def CostCoversUptoSaid : Prop := costCoversUptoRow.holds Try.pinned (OpenSpec.upto costCoversSpec)

/-- 'spinetlaw13.CostSplits', WHERE WHAT IT READS IS OF BULK AT MOST 1048576: true; the input reads as it did. -/
def costSplitsUptoRow : OpenClaim := { program := "ytmcjbejccelagaa", sum := "a295e9f7511d18840b00f6ec50c0d4cab0be537843471cef7eb878d2f9c1b848", func := "spinet/spinetlaw13.CostSplits", spec := "costSplits", recurses := true, plainKeys := false, apart := false, narrowed := true }
def CostSplitsUptoSaid : Prop := costSplitsUptoRow.holds Try.pinned (OpenSpec.upto costSplitsSpec)

end Rows
end Go.Proofs.Ytmcjbejccelagaa
