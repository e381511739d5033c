/-
  AllocTotals: what any pulses cost is told, or that they can't be; so is each slope. For every input.
-/
import Derived.Test.YtmcjbejccelagaaDoorAllocTW
import Derived.Test.YtmcjbejccelagaaDoorWf
import Derived.Test.YtmcjbejccelagaaDoorLaidW
import Derived.Test.YtmcjbejccelagaaDoorFlat
import Derived.Test.YtmcjbejccelagaaDoorLaw
import Derived.Test.YtmcjbejccelagaaDoorCards
import Derived.Test.YtmcjbejccelagaaDoorTie
import Derived.SevenTiedAt
namespace Go.Proofs.YtmcjbejccelagaaDoor
open Go.ChangeShapes Go.WideShapes Go.ChangeAt Go.WideMaps Go.WideElems Go.RowKit

set_option maxRecDepth 100000 in
theorem allocTotals_lifted (os : Os) (started : os.Started) (H : Type) (enc : TypeId × Value → H) :
    ReturnsInHanded {} Tryd.checked os 8 .any (fun w args => (Rows.allocTotalsSpec.pre enc Tryd.prog Tryd.f8 [] false w args ∧ laidMetH Tryd.prog Rows.allocTotalsRow.laid w) ∧ sizedMet enc Tryd.prog Tryd.f8 (OpenSpec.ofChange Rows.allocTotalsSpec) false w args)
      (Rows.allocTotalsSpec.post enc Tryd.prog Tryd.f8 false true false false) := by
  refine returnsInHanded_of_change_and (C := Tryd.checked) (X := fun w _ => laidMetH Tryd.prog Rows.allocTotalsRow.laid w) (fun _ _ _ hh h => h.of_heap hh) (by kernel_rfl) started (by kernel_rfl) Tryd.func8
    (ChangeSpec.witness_shaped (enc := enc) (C := Tryd.checked) (os := os) (X := fun w _ => laidMetH Tryd.prog Rows.allocTotalsRow.laid w) false (World.doorLaid Tryd.prog 400 os) #[.int .i64 0, .int .i64 0, .agg #[.int .i64 0, .int .i64 0, .int .i64 0, .int .i64 0, .int .i64 0]] 8 rfl (World.shaped_of_RefB (by kernel_rfl) (by kernel_rfl)) (by kernel_rfl) (by kernel_rfl) (by kernel_rfl)
      (laidMetH_of_parts3 (fuel := 8) (laidMet_of_run' 8 (by kernel_rfl) (by kernel_rfl)) (by kernel_rfl) (by kernel_rfl))) ?_
  intro W base args ds gs before hval0 hW _ _ hL _
  have hval : ∀ (j : Nat) t v, Tryd.f8.params[j]? = some t → args[j]? = some v → Value.okWide Tryd.prog W .any base t v := hval0
  have hW' := hW
  obtain ⟨p, q, hA0, hV, rfl, hfz, hnd⟩ := hW
  have hA : DataW.TrodAll enc Tryd.prog W 0 (fun _ => true) true Tryd.f8.params.toList args.toList ds p := hA0
  have hA2 := hA
  rw [Tryd.params8] at hA hval
  obtain ⟨v0, v1, v2, d0, d1, d2, p0, p1, p2, rfl, rfl, hp, h0, h1, h2⟩ := trodAll_three hA
  obtain ⟨rfl, rfl⟩ := trodVars_none hV
  obtain ⟨s, rfl, rfl, hp0, ws⟩ := open_int Tryd.underlying3 (hval 0 3 v0 rfl rfl) h0
  obtain ⟨c, rfl, rfl, hp1, wc⟩ := open_int Tryd.underlying3 (hval 1 3 v1 rfl rfl) h1
  obtain ⟨cs, rfl, hfit⟩ := open_flat 3 [.int .i64, .int .i64, .int .i64, .int .i64, .int .i64] (by kernel_rfl) (by kernel_rfl) (hval 2 22 v2 rfl rfl) h2
  obtain ⟨k0, cs1, rfl, w0, hfit⟩ := fitAllW_int hfit
  obtain ⟨k1, cs2, rfl, w1, hfit⟩ := fitAllW_int hfit
  obtain ⟨k2, cs3, rfl, w2, hfit⟩ := fitAllW_int hfit
  obtain ⟨k3, cs4, rfl, w3, hfit⟩ := fitAllW_int hfit
  obtain ⟨k4, cs5, rfl, w4, hfit⟩ := fitAllW_int hfit
  obtain rfl := fitAllW_nil hfit
  rw [MakeChecks.laidMetH_plain _ _ _ (by kernel_rfl)] at hL
  have hT : WidthW W := widths_of hL
  simp only [List.append_nil] at hW'
  refine (allocTotals_any s c k0 k1 k2 k3 k4 W hT).mono fun e W' ⟨he, hb⟩ => ?_
  subst he
  have e1 : Rows.allocTotalsSpec.fn H ([.lit (.int .i64 s), .lit (.int .i64 c), d2] ++ []) = { results := [.lit (.bool true)], args := [.lit (.int .i64 s), .lit (.int .i64 c), d2] } := by simp [Rows.allocTotalsSpec]
  refine ⟨_, rfl, _, _, _, [], p, [], hW', ?_, ?_, ?_, hb.frame _, fun h => by cases h⟩
  · rw [e1]; exact trodAll_mk1 (shut_bool Tryd.underlying4 _)
  · rw [e1]; exact trodAll_below (by kernel_rfl) hb _ _ _ _ (by kernel_rfl) hA2 (fun x hx => by simpa using hW'.lt x (by simpa using hx))
  · rw [e1]; rfl

theorem allocTotals_holds : Rows.AllocTotalsSaid :=
  OpenClaim.holds_of_wide 8 Tryd.f8 rfl rfl rfl rfl rfl rfl rfl ⟨rfl, rfl, rfl, rfl, rfl⟩ rfl rfl rfl rfl rfl (by kernel_rfl) Tryd.func8 (by kernel_rfl)
    (of_decide_eq_true (by kernel_rfl)) (by unfold Func.isWrapper; rw [if_neg (of_decide_eq_false (by kernel_rfl))]; exact ⟨rfl, rfl⟩)
    (fun os started H enc _ => allocTotals_lifted os started H enc)

theorem allocTotals_card : Rows.AllocTotalsCardSaid :=
  Claim7.holds_tied_plain_at .later [] [.data] true (true, "afcb1a8be3a03c4a2f6d0e7de4c5c372479681309a25fd15814696aeb44f375e") false
    allocTotals_holds (fun _ h => by cases h) (by kernel_rfl) (fun _ h => by cases h) allocTotals_row_tie rfl ⟨rfl, rfl⟩ (by kernel_rfl) rfl
    (fun f fn hf hfn => by
      obtain rfl : f = 8 := Option.some.inj ((show Tryd.prog.funcNamed "spinet/spinetlaw14.AllocTotals" = some 8 by kernel_rfl).symm.trans hf) |>.symm
      obtain rfl : fn = Tryd.f8 := (Option.some.inj (Tryd.func8.symm.trans hfn)).symm
      exact ⟨by kernel_rfl, fun j t ht => by
        rw [Tryd.params8] at ht
        have hm : t ∈ [3, 3, 22] := by simpa using Array.mem_of_getElem? ht
        have hall : ([3, 3, 22].all fun u => !Tryd.prog.wantsStandIn u) = true := by kernel_rfl
        exact (show Tryd.prog.wantsStandIn t = false by simpa using List.all_eq_true.1 hall t (by simpa using hm))⟩)
    (by kernel_rfl)
end Go.Proofs.YtmcjbejccelagaaDoor
