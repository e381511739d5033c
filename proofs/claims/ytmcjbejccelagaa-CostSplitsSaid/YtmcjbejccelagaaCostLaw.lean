/-
  The statements of layer 13, walked.
-/
import Derived.Test.YtmcjbejccelagaaDesk
namespace Go.Proofs.Ytmcjbejccelagaa
open Go.RowKit Go.BigFrame Go.Vec Go.Cost
set_option linter.unusedSimpArgs false
set_option linter.unusedVariables false

theorem costTells_walk (n k : Int) (w : World) : Calls Try.prog 3 #[.int .i64 n, .int .i64 k] w fun e w' => e = .returned (.bool true) ∧ Below w.heap.size w w' := by
  have ha := Lib.hid awake13
  have h0 := Lib.hid (desk_new w)
  go_enter Try.func3, Try.ntmps3
  go_wp2_with fail
  refine (ha.out _).mono ?_
  rintro e w1 ⟨rfl, hb1⟩
  go_wp2_with fail
  refine (h0.out _ hb1).mono ?_
  clear hb1
  rintro e w1 ⟨b, m, rfl, hD⟩
  go_wp2_with fail
  refine (desk_tab hD).mono ?_
  clear hD
  rintro e w2 ⟨t, rfl, hD, hT, ht⟩
  go_wp2_with fail
  refine (desk_sheet hD hT ht).mono ?_
  clear hD hT ht
  rintro e w2 ⟨s, rfl, hD⟩
  go_wp2_with (first | (go_at_call 11; refine (desk_refcap hD _).mono ?_; clear hD; rintro e w2 ⟨rfl, hD⟩) | (go_at_call 12; refine (desk_refbits hD _ _).mono ?_; clear hD; rintro e w2 ⟨rfl, hD⟩) | (go_at_call 13; refine (desk_cap hD _).mono ?_; clear hD; rintro e w2 ⟨rfl, hD⟩) | (go_at_call 15; refine (desk_bits hD _ _).mono ?_; clear hD; rintro e w2 ⟨rfl, hD⟩) | (go_at_call 14; refine (desk_scap hD _).mono ?_; clear hD; rintro e w2 ⟨rfl, hD⟩) | (go_at_call 16; refine (desk_sbits hD _ _).mono ?_; clear hD; rintro e w2 ⟨rfl, hD⟩))
  go_ret
  exact ⟨rfl, hD.below⟩
end Go.Proofs.Ytmcjbejccelagaa
