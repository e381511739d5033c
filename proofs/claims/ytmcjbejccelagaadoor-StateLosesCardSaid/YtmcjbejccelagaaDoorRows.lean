/-
  NARROWER THAN 'FOR EVERY INPUT', by the rows' own cells (each row's printed sentence says how): StateLoses: laid · CisWeights: laid · CisRounds: laid · CisAdds: laid · AllocTells: laid · AllocTotals: laid · AllocFits: laid · AllocMore: laid · AllocChans: laid.
  DERIVED. THE GIVEN ROWS OF THIS SEAT. 9 by the template 'for every input the law returns true; each argument reads behind the call as it read before'; 0 by the template 'total and deterministic' (their statements: YtmcjbejccelagaaDoorTotals.lean).
  GIVEN WITH THE SEED: the statements are not yours to turn. If you find one false, say at which input.
  Laid BY PROGRAM, IN A SANDBOX (cutbox-rows.mjs): the forced cells as the released guide's own fill.sh prints them over the translation 024b3c31729b6256… (all of the seat's roots in one cut). By AI agents, Wed Nov 11 2026. No macro, syntax, notation, axiom, sorry.
-/
import Derived.Test.YtmcjbejccelagaaDoorChecked
import GoSem.Claim
import GoSem.ClaimJoined
import GoSem.ClaimMapViews
import Derived.JoinedTies
import Derived.KernelRfl
namespace Go.Proofs.YtmcjbejccelagaaDoor
/- THE CELL 'sum', in the pinned program and in every row, IS THE sha256 OF THE DUMP (.gsa) THAT YtmcjbejccelagaaDoorProg.lean LOADS. Nothing in Lean hashes anything: it is a label: what it is worth is what the hold of that sum in a sandbox is worth. -/
noncomputable def Tryd.pinned : Pinned := { name := "ytmcjbejccelagaadoor", sum := "024b3c31729b6256ce8d161c7cc4079e8e81ee694f8879bcb98a252aa0aecd86", checked := Tryd.checked }
namespace Rows
def none {H : Type} : Left H := { results := [], args := [] }

/- WHAT THE LISTED PACKAGE-LEVEL VARIABLES READ AS WHEN THE CALL BEGINS. Each datum BY PROGRAM (the guide's laid-datum.mjs) off the statement by which the dump's own 'gosem.cut.vars' lays the variable. In a bare row this is a premise. The card (YtmcjbejccelagaaDoorCards.lean) ties it to the program's text. -/
def laid_spinet_conceal_fades {H : Type} : DataW H := .agg [.lit (.int .i32 0), .lit (.int .i32 29491), .lit (.int .i32 22937), .lit (.int .i32 13107), .lit (.int .i32 4915)]
def laid_spinet_cis_cosines {H : Type} : DataW H := .agg [.lit (.int .i64 4096), .lit (.int .i64 4095), .lit (.int .i64 4091), .lit (.int .i64 4085), .lit (.int .i64 4076), .lit (.int .i64 4065), .lit (.int .i64 4052), .lit (.int .i64 4036), .lit (.int .i64 4017), .lit (.int .i64 3996), .lit (.int .i64 3973), .lit (.int .i64 3948), .lit (.int .i64 3920), .lit (.int .i64 3889), .lit (.int .i64 3857), .lit (.int .i64 3822), .lit (.int .i64 3784), .lit (.int .i64 3745), .lit (.int .i64 3703), .lit (.int .i64 3659), .lit (.int .i64 3612), .lit (.int .i64 3564), .lit (.int .i64 3513), .lit (.int .i64 3461), .lit (.int .i64 3406), .lit (.int .i64 3349), .lit (.int .i64 3290), .lit (.int .i64 3229), .lit (.int .i64 3166), .lit (.int .i64 3102), .lit (.int .i64 3035), .lit (.int .i64 2967), .lit (.int .i64 2896), .lit (.int .i64 2824), .lit (.int .i64 2751), .lit (.int .i64 2675), .lit (.int .i64 2598), .lit (.int .i64 2520), .lit (.int .i64 2440), .lit (.int .i64 2359), .lit (.int .i64 2276), .lit (.int .i64 2191), .lit (.int .i64 2106), .lit (.int .i64 2019), .lit (.int .i64 1931), .lit (.int .i64 1842), .lit (.int .i64 1751), .lit (.int .i64 1660), .lit (.int .i64 1567), .lit (.int .i64 1474), .lit (.int .i64 1380), .lit (.int .i64 1285), .lit (.int .i64 1189), .lit (.int .i64 1092), .lit (.int .i64 995), .lit (.int .i64 897), .lit (.int .i64 799), .lit (.int .i64 700), .lit (.int .i64 601), .lit (.int .i64 501), .lit (.int .i64 401), .lit (.int .i64 301), .lit (.int .i64 201), .lit (.int .i64 101), .lit (.int .i64 0)]
def laid_spinet_mode_widths {H : Type} : DataW H := .agg [.lit (.int .i64 2), .lit (.int .i64 2), .lit (.int .i64 4), .lit (.int .i64 8), .lit (.int .i64 16)]

/-- 'spinetlaw26.StateLoses': WHATEVER THE INPUT: true; the input reads as it did. -/
def stateLosesSpec : ChangeSpec := { name := "stateLoses", fn := fun _ => fun
  | [d1, d2] => { results := [.lit (.bool true)], args := [d1, d2] }
  | _ => none }
def stateLosesRow : OpenClaim := { program := "ytmcjbejccelagaadoor", sum := "024b3c31729b6256ce8d161c7cc4079e8e81ee694f8879bcb98a252aa0aecd86", func := "spinet/spinetlaw26.StateLoses", spec := "stateLoses", named := ["spinet/conceal.fades"], plainKeys := false, apart := false, laid := [("spinet/conceal.fades", laid_spinet_conceal_fades)] }
def StateLosesSaid : Prop := stateLosesRow.holds Tryd.pinned (OpenSpec.ofChange stateLosesSpec)

/-- ITS FALSE NEIGHBOUR: 'it returns false'. Refute it at one input. -/
def stateLosesWrong : ChangeSpec := { name := "stateLoses", fn := fun _ => fun
  | [d1, d2] => { results := [.lit (.bool false)], args := [d1, d2] }
  | _ => none }
def StateLosesWrongFalsely : Prop := stateLosesRow.holds Tryd.pinned (OpenSpec.ofChange stateLosesWrong)

/-- 'spinetlaw20.CisWeights': WHATEVER THE INPUT: true; the input reads as it did. -/
def cisWeightsSpec : ChangeSpec := { name := "cisWeights", fn := fun _ => fun
  | [d1, d2, d3] => { results := [.lit (.bool true)], args := [d1, d2, d3] }
  | _ => none }
def cisWeightsRow : OpenClaim := { program := "ytmcjbejccelagaadoor", sum := "024b3c31729b6256ce8d161c7cc4079e8e81ee694f8879bcb98a252aa0aecd86", func := "spinet/spinetlaw20.CisWeights", spec := "cisWeights", inPlace := ["math/bits.Sub64", "math/bits.Add64"], recurses := true, named := ["spinet/cis.cosines"], plainKeys := false, apart := false, laid := [("spinet/cis.cosines", laid_spinet_cis_cosines)] }
def CisWeightsSaid : Prop := cisWeightsRow.holds Tryd.pinned (OpenSpec.ofChange cisWeightsSpec)

/-- ITS FALSE NEIGHBOUR: 'it returns false'. Refute it at one input. -/
def cisWeightsWrong : ChangeSpec := { name := "cisWeights", fn := fun _ => fun
  | [d1, d2, d3] => { results := [.lit (.bool false)], args := [d1, d2, d3] }
  | _ => none }
def CisWeightsWrongFalsely : Prop := cisWeightsRow.holds Tryd.pinned (OpenSpec.ofChange cisWeightsWrong)

/-- 'spinetlaw20.CisRounds': WHATEVER THE INPUT: true; the input reads as it did. -/
def cisRoundsSpec : ChangeSpec := { name := "cisRounds", fn := fun _ => fun
  | [d] => { results := [.lit (.bool true)], args := [d] }
  | _ => none }
def cisRoundsRow : OpenClaim := { program := "ytmcjbejccelagaadoor", sum := "024b3c31729b6256ce8d161c7cc4079e8e81ee694f8879bcb98a252aa0aecd86", func := "spinet/spinetlaw20.CisRounds", spec := "cisRounds", inPlace := ["math/bits.Sub64", "math/bits.Add64"], named := ["spinet/cis.cosines"], plainKeys := false, apart := false, laid := [("spinet/cis.cosines", laid_spinet_cis_cosines)] }
def CisRoundsSaid : Prop := cisRoundsRow.holds Tryd.pinned (OpenSpec.ofChange cisRoundsSpec)

/-- ITS FALSE NEIGHBOUR: 'it returns false'. Refute it at one input. -/
def cisRoundsWrong : ChangeSpec := { name := "cisRounds", fn := fun _ => fun
  | [d] => { results := [.lit (.bool false)], args := [d] }
  | _ => none }
def CisRoundsWrongFalsely : Prop := cisRoundsRow.holds Tryd.pinned (OpenSpec.ofChange cisRoundsWrong)

/-- 'spinetlaw20.CisAdds': WHATEVER THE INPUT: true; the input reads as it did. -/
def cisAddsSpec : ChangeSpec := { name := "cisAdds", fn := fun _ => fun
  | [d] => { results := [.lit (.bool true)], args := [d] }
  | _ => none }
def cisAddsRow : OpenClaim := { program := "ytmcjbejccelagaadoor", sum := "024b3c31729b6256ce8d161c7cc4079e8e81ee694f8879bcb98a252aa0aecd86", func := "spinet/spinetlaw20.CisAdds", spec := "cisAdds", inPlace := ["math/bits.Sub64", "math/bits.Add64"], named := ["spinet/cis.cosines"], plainKeys := false, apart := false, laid := [("spinet/cis.cosines", laid_spinet_cis_cosines)] }
def CisAddsSaid : Prop := cisAddsRow.holds Tryd.pinned (OpenSpec.ofChange cisAddsSpec)

/-- ITS FALSE NEIGHBOUR: 'it returns false'. Refute it at one input. -/
def cisAddsWrong : ChangeSpec := { name := "cisAdds", fn := fun _ => fun
  | [d] => { results := [.lit (.bool false)], args := [d] }
  | _ => none }
def CisAddsWrongFalsely : Prop := cisAddsRow.holds Tryd.pinned (OpenSpec.ofChange cisAddsWrong)

/-- 'spinetlaw14.AllocTells': WHATEVER THE INPUT: true; the input reads as it did. -/
def allocTellsSpec : ChangeSpec := { name := "allocTells", fn := fun _ => fun
  | [d] => { results := [.lit (.bool true)], args := [d] }
  | _ => none }
def allocTellsRow : OpenClaim := { program := "ytmcjbejccelagaadoor", sum := "024b3c31729b6256ce8d161c7cc4079e8e81ee694f8879bcb98a252aa0aecd86", func := "spinet/spinetlaw14.AllocTells", spec := "allocTells", recurses := true, named := ["spinet/mode.widths"], plainKeys := false, apart := false, laid := [("spinet/mode.widths", laid_spinet_mode_widths)] }
def AllocTellsSaid : Prop := allocTellsRow.holds Tryd.pinned (OpenSpec.ofChange allocTellsSpec)

/-- ITS FALSE NEIGHBOUR: 'it returns false'. Refute it at one input. -/
def allocTellsWrong : ChangeSpec := { name := "allocTells", fn := fun _ => fun
  | [d] => { results := [.lit (.bool false)], args := [d] }
  | _ => none }
def AllocTellsWrongFalsely : Prop := allocTellsRow.holds Tryd.pinned (OpenSpec.ofChange allocTellsWrong)

/-- 'spinetlaw14.AllocTotals': WHATEVER THE INPUT: true; the input reads as it did. -/
def allocTotalsSpec : ChangeSpec := { name := "allocTotals", fn := fun _ => fun
  | [d1, d2, d3] => { results := [.lit (.bool true)], args := [d1, d2, d3] }
  | _ => none }
def allocTotalsRow : OpenClaim := { program := "ytmcjbejccelagaadoor", sum := "024b3c31729b6256ce8d161c7cc4079e8e81ee694f8879bcb98a252aa0aecd86", func := "spinet/spinetlaw14.AllocTotals", spec := "allocTotals", recurses := true, named := ["spinet/mode.widths"], plainKeys := false, apart := false, laid := [("spinet/mode.widths", laid_spinet_mode_widths)] }
def AllocTotalsSaid : Prop := allocTotalsRow.holds Tryd.pinned (OpenSpec.ofChange allocTotalsSpec)

/-- ITS FALSE NEIGHBOUR: 'it returns false'. Refute it at one input. -/
def allocTotalsWrong : ChangeSpec := { name := "allocTotals", fn := fun _ => fun
  | [d1, d2, d3] => { results := [.lit (.bool false)], args := [d1, d2, d3] }
  | _ => none }
def AllocTotalsWrongFalsely : Prop := allocTotalsRow.holds Tryd.pinned (OpenSpec.ofChange allocTotalsWrong)

/-- 'spinetlaw14.AllocFits': WHATEVER THE INPUT: true; the input reads as it did. -/
def allocFitsSpec : ChangeSpec := { name := "allocFits", fn := fun _ => fun
  | [d] => { results := [.lit (.bool true)], args := [d] }
  | _ => none }
def allocFitsRow : OpenClaim := { program := "ytmcjbejccelagaadoor", sum := "024b3c31729b6256ce8d161c7cc4079e8e81ee694f8879bcb98a252aa0aecd86", func := "spinet/spinetlaw14.AllocFits", spec := "allocFits", recurses := true, named := ["spinet/mode.widths"], plainKeys := false, apart := false, laid := [("spinet/mode.widths", laid_spinet_mode_widths)] }
def AllocFitsSaid : Prop := allocFitsRow.holds Tryd.pinned (OpenSpec.ofChange allocFitsSpec)

/-- ITS FALSE NEIGHBOUR: 'it returns false'. Refute it at one input. -/
def allocFitsWrong : ChangeSpec := { name := "allocFits", fn := fun _ => fun
  | [d] => { results := [.lit (.bool false)], args := [d] }
  | _ => none }
def AllocFitsWrongFalsely : Prop := allocFitsRow.holds Tryd.pinned (OpenSpec.ofChange allocFitsWrong)

/-- 'spinetlaw14.AllocMore': WHATEVER THE INPUT: true; the input reads as it did. -/
def allocMoreSpec : ChangeSpec := { name := "allocMore", fn := fun _ => fun
  | [d1, d2] => { results := [.lit (.bool true)], args := [d1, d2] }
  | _ => none }
def allocMoreRow : OpenClaim := { program := "ytmcjbejccelagaadoor", sum := "024b3c31729b6256ce8d161c7cc4079e8e81ee694f8879bcb98a252aa0aecd86", func := "spinet/spinetlaw14.AllocMore", spec := "allocMore", recurses := true, named := ["spinet/mode.widths"], plainKeys := false, apart := false, laid := [("spinet/mode.widths", laid_spinet_mode_widths)] }
def AllocMoreSaid : Prop := allocMoreRow.holds Tryd.pinned (OpenSpec.ofChange allocMoreSpec)

/-- ITS FALSE NEIGHBOUR: 'it returns false'. Refute it at one input. -/
def allocMoreWrong : ChangeSpec := { name := "allocMore", fn := fun _ => fun
  | [d1, d2] => { results := [.lit (.bool false)], args := [d1, d2] }
  | _ => none }
def AllocMoreWrongFalsely : Prop := allocMoreRow.holds Tryd.pinned (OpenSpec.ofChange allocMoreWrong)

/-- 'spinetlaw14.AllocChans': WHATEVER THE INPUT: true; the input reads as it did. -/
def allocChansSpec : ChangeSpec := { name := "allocChans", fn := fun _ => fun
  | [d1, d2, d3] => { results := [.lit (.bool true)], args := [d1, d2, d3] }
  | _ => none }
def allocChansRow : OpenClaim := { program := "ytmcjbejccelagaadoor", sum := "024b3c31729b6256ce8d161c7cc4079e8e81ee694f8879bcb98a252aa0aecd86", func := "spinet/spinetlaw14.AllocChans", spec := "allocChans", recurses := true, named := ["spinet/mode.widths"], plainKeys := false, apart := false, laid := [("spinet/mode.widths", laid_spinet_mode_widths)] }
def AllocChansSaid : Prop := allocChansRow.holds Tryd.pinned (OpenSpec.ofChange allocChansSpec)

/-- ITS FALSE NEIGHBOUR: 'it returns false'. Refute it at one input. -/
def allocChansWrong : ChangeSpec := { name := "allocChans", fn := fun _ => fun
  | [d1, d2, d3] => { results := [.lit (.bool false)], args := [d1, d2, d3] }
  | _ => none }
def AllocChansWrongFalsely : Prop := allocChansRow.holds Tryd.pinned (OpenSpec.ofChange allocChansWrong)

/- THE SECOND FORM. 'bulk': how many values and letters a reading holds, each counted each time it is reached (what is shared counts as often as it is met; a slice's spare places count too). A statement '..UptoSaid' is the law's where the arguments, and the package variables that the reading takes, are together of bulk at most 1048576: NARROWER than '..Said'. Prove '..Said' where nothing that the law and all that it calls make is longer than what came in: it says more and counts as full. Else prove '..UptoSaid'. A law counts once. -/
mutual
def uptoBulk {H : Type} : DataW H → Nat
  | .lit (.string bytes) => bytes.length + 1
  | .lit _ => 1
  | .nil => 1
  | .ptr d => uptoBulk d + 1
  | .slice elems spare => uptoBulkAll elems + uptoBulkAll spare + 1
  | .agg parts => uptoBulkAll parts + 1
  | .iface _ d => uptoBulk d + 1
  | .map entries => uptoBulkEntries entries + 1
  | .held _ => 1
def uptoBulkAll {H : Type} : List (DataW H) → Nat
  | [] => 0
  | d :: r => uptoBulk d + uptoBulkAll r
def uptoBulkEntries {H : Type} : List (Lit × DataW H) → Nat
  | [] => 0
  | x :: r => uptoBulkEntry x + uptoBulkEntries r
def uptoBulkEntry {H : Type} : Lit × DataW H → Nat
  | (.string bytes, d) => bytes.length + uptoBulk d + 1
  | (_, d) => uptoBulk d + 1
 end
def uptoSmall : (H : Type) → List (DataW H) → Bool := fun _ ds => decide (uptoBulkAll ds ≤ 1048576)
def OpenSpec.upto (s : _root_.Go.ChangeSpec) : _root_.Go.OpenSpec := { _root_.Go.OpenSpec.ofChange s with cond := some uptoSmall }

/-- 'spinetlaw26.StateLoses', WHERE WHAT IT READS IS OF BULK AT MOST 1048576: true; the input reads as it did. -/
def stateLosesUptoRow : OpenClaim := { program := "ytmcjbejccelagaadoor", sum := "024b3c31729b6256ce8d161c7cc4079e8e81ee694f8879bcb98a252aa0aecd86", func := "spinet/spinetlaw26.StateLoses", spec := "stateLoses", named := ["spinet/conceal.fades"], plainKeys := false, apart := false, laid := [("spinet/conceal.fades", laid_spinet_conceal_fades)], narrowed := true }
def StateLosesUptoSaid : Prop := stateLosesUptoRow.holds Tryd.pinned (OpenSpec.upto stateLosesSpec)

/-- 'spinetlaw20.CisWeights', WHERE WHAT IT READS IS OF BULK AT MOST 1048576: true; the input reads as it did. -/
def cisWeightsUptoRow : OpenClaim := { program := "ytmcjbejccelagaadoor", sum := "024b3c31729b6256ce8d161c7cc4079e8e81ee694f8879bcb98a252aa0aecd86", func := "spinet/spinetlaw20.CisWeights", spec := "cisWeights", inPlace := ["math/bits.Sub64", "math/bits.Add64"], recurses := true, named := ["spinet/cis.cosines"], plainKeys := false, apart := false, laid := [("spinet/cis.cosines", laid_spinet_cis_cosines)], narrowed := true }
def CisWeightsUptoSaid : Prop := cisWeightsUptoRow.holds Tryd.pinned (OpenSpec.upto cisWeightsSpec)

/-- 'spinetlaw20.CisRounds', WHERE WHAT IT READS IS OF BULK AT MOST 1048576: true; the input reads as it did. -/
def cisRoundsUptoRow : OpenClaim := { program := "ytmcjbejccelagaadoor", sum := "024b3c31729b6256ce8d161c7cc4079e8e81ee694f8879bcb98a252aa0aecd86", func := "spinet/spinetlaw20.CisRounds", spec := "cisRounds", inPlace := ["math/bits.Sub64", "math/bits.Add64"], named := ["spinet/cis.cosines"], plainKeys := false, apart := false, laid := [("spinet/cis.cosines", laid_spinet_cis_cosines)], narrowed := true }
def CisRoundsUptoSaid : Prop := cisRoundsUptoRow.holds Tryd.pinned (OpenSpec.upto cisRoundsSpec)

/-- 'spinetlaw20.CisAdds', WHERE WHAT IT READS IS OF BULK AT MOST 1048576: true; the input reads as it did. -/
def cisAddsUptoRow : OpenClaim := { program := "ytmcjbejccelagaadoor", sum := "024b3c31729b6256ce8d161c7cc4079e8e81ee694f8879bcb98a252aa0aecd86", func := "spinet/spinetlaw20.CisAdds", spec := "cisAdds", inPlace := ["math/bits.Sub64", "math/bits.Add64"], named := ["spinet/cis.cosines"], plainKeys := false, apart := false, laid := [("spinet/cis.cosines", laid_spinet_cis_cosines)], narrowed := true }
def CisAddsUptoSaid : Prop := cisAddsUptoRow.holds Tryd.pinned (OpenSpec.upto cisAddsSpec)

/-- 'spinetlaw14.AllocTells', WHERE WHAT IT READS IS OF BULK AT MOST 1048576: true; the input reads as it did. -/
def allocTellsUptoRow : OpenClaim := { program := "ytmcjbejccelagaadoor", sum := "024b3c31729b6256ce8d161c7cc4079e8e81ee694f8879bcb98a252aa0aecd86", func := "spinet/spinetlaw14.AllocTells", spec := "allocTells", recurses := true, named := ["spinet/mode.widths"], plainKeys := false, apart := false, laid := [("spinet/mode.widths", laid_spinet_mode_widths)], narrowed := true }
def AllocTellsUptoSaid : Prop := allocTellsUptoRow.holds Tryd.pinned (OpenSpec.upto allocTellsSpec)

/-- 'spinetlaw14.AllocTotals', WHERE WHAT IT READS IS OF BULK AT MOST 1048576: true; the input reads as it did. -/
def allocTotalsUptoRow : OpenClaim := { program := "ytmcjbejccelagaadoor", sum := "024b3c31729b6256ce8d161c7cc4079e8e81ee694f8879bcb98a252aa0aecd86", func := "spinet/spinetlaw14.AllocTotals", spec := "allocTotals", recurses := true, named := ["spinet/mode.widths"], plainKeys := false, apart := false, laid := [("spinet/mode.widths", laid_spinet_mode_widths)], narrowed := true }
def AllocTotalsUptoSaid : Prop := allocTotalsUptoRow.holds Tryd.pinned (OpenSpec.upto allocTotalsSpec)

/-- 'spinetlaw14.AllocFits', WHERE WHAT IT READS IS OF BULK AT MOST 1048576: true; the input reads as it did. -/
def allocFitsUptoRow : OpenClaim := { program := "ytmcjbejccelagaadoor", sum := "024b3c31729b6256ce8d161c7cc4079e8e81ee694f8879bcb98a252aa0aecd86", func := "spinet/spinetlaw14.AllocFits", spec := "allocFits", recurses := true, named := ["spinet/mode.widths"], plainKeys := false, apart := false, laid := [("spinet/mode.widths", laid_spinet_mode_widths)], narrowed := true }
def AllocFitsUptoSaid : Prop := allocFitsUptoRow.holds Tryd.pinned (OpenSpec.upto allocFitsSpec)

/-- 'spinetlaw14.AllocMore', WHERE WHAT IT READS IS OF BULK AT MOST 1048576: true; the input reads as it did. -/
def allocMoreUptoRow : OpenClaim := { program := "ytmcjbejccelagaadoor", sum := "024b3c31729b6256ce8d161c7cc4079e8e81ee694f8879bcb98a252aa0aecd86", func := "spinet/spinetlaw14.AllocMore", spec := "allocMore", recurses := true, named := ["spinet/mode.widths"], plainKeys := false, apart := false, laid := [("spinet/mode.widths", laid_spinet_mode_widths)], narrowed := true }
def AllocMoreUptoSaid : Prop := allocMoreUptoRow.holds Tryd.pinned (OpenSpec.upto allocMoreSpec)

/-- 'spinetlaw14.AllocChans', WHERE WHAT IT READS IS OF BULK AT MOST 1048576: true; the input reads as it did. -/
def allocChansUptoRow : OpenClaim := { program := "ytmcjbejccelagaadoor", sum := "024b3c31729b6256ce8d161c7cc4079e8e81ee694f8879bcb98a252aa0aecd86", func := "spinet/spinetlaw14.AllocChans", spec := "allocChans", recurses := true, named := ["spinet/mode.widths"], plainKeys := false, apart := false, laid := [("spinet/mode.widths", laid_spinet_mode_widths)], narrowed := true }
def AllocChansUptoSaid : Prop := allocChansUptoRow.holds Tryd.pinned (OpenSpec.upto allocChansSpec)

end Rows
end Go.Proofs.YtmcjbejccelagaaDoor
